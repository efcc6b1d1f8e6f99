/-
  files.right, strings.HasPrefix, at closures: the walks. (After XPathR.)
-/
import Derived.Test.YtnlkanhakmkejaaDoorStFns
import Derived.Test.YtnlkanhakmkejaaDoorSplit
import Derived.Test.YtnlkanhakmkejaaDoorCat
import Derived.Test.YtnlkanhakmkejaaDoorStrOps
namespace Go.Proofs.YtnlkanhakmkejaaDoor
open Go.RowKit Go.Mix Go.WideMaps

theorem eq_text (s : List UInt8) (t : List UInt8) : ((strOf s).toList == t) = decide (s = t) := by rw [strOf_list, Bool.eq_iff_iff, beq_iff_eq, decide_eq_true_eq]
theorem empty_text (s : List UInt8) : ((strOf s).toList.isEmpty) = decide (s = []) := by rw [strOf_list]; cases s <;> rfl

set_option maxRecDepth 100000 in
set_option maxHeartbeats 2000000 in
theorem bad_any (s : List UInt8) (w : World) : Calls Tryd.prog 60 #[.string (strOf s)] w fun e w' => e = .returned (.bool (badF s)) ∧ w = w' := by
  have E0 := empty_text s
  have E1 := eq_text s [46]
  have E2 := eq_text s [46, 46]
  have hB : badF s = (decide (s = []) || decide (s = [46]) || decide (s = [46, 46])) := rfl
  generalize badF s = B at *
  generalize strOf s = S at *
  generalize decide (s = []) = b0 at *
  generalize decide (s = [46]) = b1 at *
  generalize decide (s = [46, 46]) = b2 at *
  subst hB
  cases b0
  · cases b1
    · go_enter Tryd.func60, Tryd.ntmps60
      go_wp2_with fail
      go_ret
      exact ⟨rfl, rfl⟩
    · go_enter Tryd.func60, Tryd.ntmps60
      go_wp2_with fail
      go_ret
      exact ⟨rfl, rfl⟩
  · go_enter Tryd.func60, Tryd.ntmps60
    go_wp2_with fail
    go_ret
    exact ⟨rfl, rfl⟩

abbrev badV : Value := .func (.func 60) #[] #[]
set_option maxRecDepth 100000 in
set_option maxHeartbeats 2000000 in
theorem idxBad_any {w : World} {l : List (List UInt8)} {a : Option Addr} {n cap : Nat} (hg : RsAt encS 1 w a cap l) (hn : n = l.length) (hl : n ≤ 1000000) :
    Calls Tryd.prog 40 #[.slice a n cap, badV] w fun e w' => ∃ m : Int, e = .returned (.int .i64 m) ∧ decide (0 ≤ m) = l.any badF ∧ w = w' := by
  have HG := Lib.hid (And.intro hg hn)
  clear hg hn
  go_enter Tryd.func40, Tryd.ntmps40
  go_wp2_with fail
  go_loopw [8] (fun s8 wr => ∃ i : Nat, s8 = .int .i64 (i : Int) ∧ i ≤ n ∧ (l.take i).any badF = false ∧ w = wr) (fun s8 _ => n - (intOf s8).toNat)
  case atStart => exact ⟨0, rfl, Nat.zero_le _, by simp, rfl⟩
  case round =>
    obtain ⟨i, rfl, hi, hno, rfl⟩ := hrel
    have HNO := Lib.hid hno
    clear hno
    by_cases hin : i < n
    · have t1 : decide ((i : Int) < (n : Int)) = true := decide_eq_true (by omega)
      have t1' : decide (i < n) = true := decide_eq_true hin
      have hil : i < l.length := by rw [← HG.out.2]; exact hin
      obtain ⟨b, q, IX, -, L⟩ := HG.out.1.at1 tyS (i : Int) i rfl hil
      rw [← HG.out.2] at IX
      have L0 := L w (Below.refl _ _)
      have hs : (l.take (i + 1)).any badF = ((l.take i).any badF || badF l[i]!) := by rw [List.take_succ_eq_append_getElem hil, List.any_append, getElem!_pos l i hil]; simp
      obtain ⟨x, hx⟩ : ∃ x, x = l[i]! := ⟨_, rfl⟩
      rw [← hx] at L0 hs
      obtain ⟨B, hB⟩ : ∃ B, B = badF x := ⟨_, rfl⟩
      have CB := bad_any x w
      rw [← hB] at CB hs
      have HS := Lib.hid (And.intro hs (And.intro hx hB))
      unfold strV at L0
      generalize strOf x = X at *
      clear L hs hx hB hil
      cases B
      · go_wp2_with (first | (refine wpList_load_at rfl _ _ rfl _ _ rfl L0 ?_) | (refine Calls.mono CB ?_; rintro e5 w5 ⟨rfl, rfl⟩))
        go_roundw
        case rel => exact ⟨i + 1, by go_num, by omega, by rw [HS.out.1, HNO.out]; rfl, by first | rfl | trivial⟩
        case measure => simp [intOf]; omega
      · go_wp2_with (first | (refine wpList_load_at rfl _ _ rfl _ _ rfl L0 ?_) | (refine Calls.mono CB ?_; rintro e5 w5 ⟨rfl, rfl⟩))
        go_ret
        refine ⟨i, rfl, ?_, rfl⟩
        rw [decide_eq_true (by omega)]
        have hil : i < l.length := by rw [← HG.out.2]; exact hin
        exact (List.any_eq_true.2 ⟨x, by rw [HS.out.2.1, getElem!_pos l i hil]; exact List.getElem_mem hil, HS.out.2.2.symm⟩).symm
    · obtain rfl : i = n := by omega
      have t1 : decide ((i : Int) < (i : Int)) = false := decide_eq_false (by omega)
      have t1' : decide (i < i) = false := decide_eq_false (by omega)
      go_wp2_with fail
      go_ret
      refine ⟨-1, rfl, ?_, rfl⟩
      have := HNO.out
      rw [List.take_of_length_le (by rw [← HG.out.2]; exact Nat.le_refl _)] at this
      rw [this]; rfl
set_option maxRecDepth 100000 in
set_option maxHeartbeats 2000000 in
theorem hasBad_any {w : World} {l : List (List UInt8)} {a : Option Addr} {n cap : Nat} (hg : RsAt encS 1 w a cap l) (hn : n = l.length) (hl : n ≤ 1000000) :
    Calls Tryd.prog 58 #[.slice a n cap, badV] w fun e w' => e = .returned (.bool (l.any badF)) ∧ w = w' := by
  have C := idxBad_any hg hn hl
  clear hg hn hl
  generalize l.any badF = B at *
  go_enter Tryd.func58, Tryd.ntmps58
  go_wp2_with fail
  refine Calls.mono C ?_
  rintro e w5 ⟨m, rfl, hm, rfl⟩
  clear C
  go_wp2_with fail
  go_ret
  exact ⟨by rw [← hm]; rfl, rfl⟩

theorem partsF_eq : ∀ l, partsF l = splitC 47 l
  | [] => rfl
  | x :: l => by
    unfold partsF splitC
    rw [partsF_eq l]
    by_cases h : x = 47
    · rw [if_pos h, if_pos h]
    · rw [if_neg h, if_neg h]
      split <;> split <;> simp_all
theorem index0 (l : List UInt8) : decide (0 ≤ Lib.indexByte l 0) = l.contains 0 := by
  have hge := Lib.indexByte_ge l 0
  by_cases h : 0 ≤ Lib.indexByte l 0
  · obtain ⟨o, ho⟩ := Int.eq_ofNat_of_zero_le h
    have h1 := (Lib.indexByte_some ho).1
    rw [decide_eq_true h]
    symm
    rw [List.contains_iff_mem]
    exact List.mem_of_getElem? h1
  · have h1 : Lib.indexByte l 0 = -1 := by omega
    rw [decide_eq_false h]
    symm
    rw [← Bool.not_eq_true, List.contains_iff_mem]
    intro hm
    obtain ⟨k, hk⟩ := List.getElem?_of_mem hm
    exact Lib.indexByte_none h1 k hk

set_option maxRecDepth 100000 in
set_option maxHeartbeats 2000000 in
theorem right_any (s : List UInt8) (hl : s.length ≤ 100000) (w : World) : Calls Tryd.prog 35 #[.string (strOf s)] w fun e w' => e = .returned (.bool (rightF s)) ∧ Below w.heap.size w w' := by
  have C := fun W => Tryd.strings_IndexByte (strOf s) 0 W
  have hix := index0 s
  have CS := fun W => split_any s 47 (by omega) W
  change ∀ W, Calls _ _ _ _ (fun e w' => e = .returned (.int .i64 (Lib.indexByte s 0)) ∧ w' = W) at C
  generalize Lib.indexByte s 0 = ix at *
  have hsz : (strOf s).size = s.length := strOf_size s
  have hpl := splitC_len 47 s
  have HB := Lib.hid (Below.refl w.heap.size w)
  have hN : rightF s = (decide (s.length ≤ 255) && !s.contains 0 && !(splitC 47 s).any badF) := by unfold rightF; rw [partsF_eq]
  generalize rightF s = N at *
  obtain ⟨P, hP⟩ : ∃ P, P = splitC 47 s := ⟨_, rfl⟩
  rw [← hP] at CS hpl hN
  clear hP
  generalize strOf s = S at *
  generalize s.contains 0 = L at *
  obtain ⟨n, hn⟩ : ∃ n, n = P.length := ⟨_, rfl⟩
  rw [← hn] at CS
  obtain ⟨B, hB⟩ : ∃ B, B = P.any badF := ⟨_, rfl⟩
  rw [← hB] at hN
  have HN := Lib.hid (And.intro hn (And.intro hpl hB))
  clear hpl hn hB
  by_cases h1 : s.length ≤ 255
  case neg =>
    obtain rfl : N = false := by rw [hN, decide_eq_false h1]; rfl
    have h1' : decide ((255 : Int) < (s.length : Int)) = true := decide_eq_true (by omega)
    have h1'' : decide (255 < s.length) = true := decide_eq_true (by omega)
    clear hN C CS hl h1
    go_enter Tryd.func35, Tryd.ntmps35
    go_wp2_with fail
    go_ret
    exact ⟨rfl, HB.out⟩
  have hn6 : n ≤ 1000 := by have := HN.out; omega
  rw [decide_eq_true h1, Bool.true_and] at hN
  have h1' : decide ((255 : Int) < (s.length : Int)) = false := decide_eq_false (by omega)
  have h1'' : decide (255 < s.length) = false := decide_eq_false (by omega)
  cases L
  · rw [Bool.not_false, Bool.true_and] at hN
    subst hN
    clear h1 hl
    go_enter Tryd.func35, Tryd.ntmps35
    go_wp2_with fail
    refine (C _).mono ?_
    rintro e w3 ⟨rfl, rfl⟩
    clear C
    go_wp2_with fail
    refine (CS _).mono ?_
    rintro e w4 ⟨rfl, hw4⟩
    have hb4 : Grow w3 w4 := by rw [hw4]; exact (Below.refl _ _).alloc (Nat.le_refl _) _
    have hblk : w4.heap[w3.heap.size]? = some (.cells (P.map strV).toArray 9 (0, 0)) := by rw [hw4]; exact heap_alloc_last _ _ _ rfl
    have CB := hasBad_any (texts_block hblk (by have := HN.out; omega)) rfl (by have := HN.out; omega)
    rw [← HN.out.1, ← HN.out.2.2] at CB
    have HW4 := Lib.hid (hb4)
    clear CS hw4 hb4 hblk
    go_wp2_with fail
    refine CB.mono ?_
    rintro e w5 ⟨rfl, rfl⟩
    clear CB
    go_wp2_with fail
    go_ret
    exact ⟨rfl, HW4.out⟩
  · rw [Bool.not_true, Bool.false_and] at hN
    subst hN
    clear CS h1 hl
    go_enter Tryd.func35, Tryd.ntmps35
    go_wp2_with fail
    refine (C _).mono ?_
    rintro e w3 ⟨rfl, rfl⟩
    clear C
    go_wp2_with fail
    go_ret
    exact ⟨rfl, HB.out⟩
end Go.Proofs.YtnlkanhakmkejaaDoor
