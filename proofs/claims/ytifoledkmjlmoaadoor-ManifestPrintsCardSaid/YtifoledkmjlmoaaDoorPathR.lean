/-
  names.Right, with slices.ContainsFunc at its closure: the walks.
-/
import Derived.Test.YtifoledkmjlmoaaDoorAnyOf
import Derived.Test.YtifoledkmjlmoaaDoorSplit
namespace Go.Proofs.YtifoledkmjlmoaaDoor
open Go.RowKit Go.Mix Go.WideMaps

/-- A part that no path may have. -/
def badP (p : List UInt8) : Bool := decide (p = []) || decide (p = [46]) || decide (p = [46, 46])
theorem eq_text (s : List UInt8) (t : List UInt8) : ((strOf s).toList == t) = decide (s = t) := by rw [strOf_list, Bool.eq_iff_iff, beq_iff_eq, decide_eq_true_eq]
theorem empty_text (s : List UInt8) : ((strOf s).toList.isEmpty) = decide (s = []) := by rw [strOf_list]; cases s <;> rfl

set_option maxRecDepth 100000 in
set_option maxHeartbeats 2000000 in
theorem bad_any (s : List UInt8) (w : World) : Calls Tryd.prog 52 #[.string (strOf s)] w fun e w' => e = .returned (.bool (badP s)) ∧ w = w' := by
  have E0 := empty_text s
  have E1 := eq_text s [46]
  have E2 := eq_text s [46, 46]
  have hB : badP s = (decide (s = []) || decide (s = [46]) || decide (s = [46, 46])) := rfl
  generalize badP s = B at *
  generalize strOf s = S at *
  generalize decide (s = []) = b0 at *
  generalize decide (s = [46]) = b1 at *
  generalize decide (s = [46, 46]) = b2 at *
  subst hB
  cases b0
  · cases b1
    · go_enter Tryd.func52, Tryd.ntmps52
      go_wp2_with fail
      go_ret
      exact ⟨rfl, rfl⟩
    · go_enter Tryd.func52, Tryd.ntmps52
      go_wp2_with fail
      go_ret
      exact ⟨rfl, rfl⟩
  · go_enter Tryd.func52, Tryd.ntmps52
    go_wp2_with fail
    go_ret
    exact ⟨rfl, rfl⟩

abbrev badV : Value := .func (.func 52) #[] #[]
set_option maxRecDepth 100000 in
set_option maxHeartbeats 2000000 in
theorem idxBad_any {w : World} {l : List (List UInt8)} {a : Option Addr} {n cap : Nat} (hg : RsAt encS 1 w a cap l) (hn : n = l.length) (hl : n ≤ 1000000) :
    Calls Tryd.prog 60 #[.slice a n cap, badV] w fun e w' => ∃ m : Int, e = .returned (.int .i64 m) ∧ decide (0 ≤ m) = l.any badP ∧ w = w' := by
  have HG := Lib.hid (And.intro hg hn)
  clear hg hn
  go_enter Tryd.func60, Tryd.ntmps60
  go_wp2_with fail
  go_loopw [8] (fun s8 wr => ∃ i : Nat, s8 = .int .i64 (i : Int) ∧ i ≤ n ∧ (l.take i).any badP = false ∧ w = wr) (fun s8 _ => n - (intOf s8).toNat)
  case atStart => exact ⟨0, rfl, Nat.zero_le _, by simp, rfl⟩
  case round =>
    obtain ⟨i, rfl, hi, hno, rfl⟩ := hrel
    have HNO := Lib.hid hno
    clear hno
    by_cases hin : i < n
    · have t1 : decide ((i : Int) < (n : Int)) = true := decide_eq_true (by omega)
      have t1' : decide (i < n) = true := decide_eq_true hin
      have hil : i < l.length := by rw [← HG.out.2]; exact hin
      obtain ⟨b, q, IX, -, L⟩ := HG.out.1.at1 tyS (i : Int) i rfl hil
      rw [← HG.out.2] at IX
      have L0 := L w (Below.refl _ _)
      have hs : (l.take (i + 1)).any badP = ((l.take i).any badP || badP l[i]!) := by rw [List.take_succ_eq_append_getElem hil, List.any_append, getElem!_pos l i hil]; simp
      obtain ⟨x, hx⟩ : ∃ x, x = l[i]! := ⟨_, rfl⟩
      rw [← hx] at L0 hs
      obtain ⟨B, hB⟩ : ∃ B, B = badP x := ⟨_, rfl⟩
      have CB := bad_any x w
      rw [← hB] at CB hs
      have HS := Lib.hid (And.intro hs (And.intro hx hB))
      unfold strV at L0
      generalize strOf x = X at *
      clear L hs hx hB hil
      cases B
      · go_wp2_with (first | (refine wpList_load_at rfl _ _ rfl _ _ rfl L0 ?_) | (refine Calls.mono CB ?_; rintro e5 w5 ⟨rfl, rfl⟩))
        go_roundw
        case rel => exact ⟨i + 1, by go_num, by omega, by rw [HS.out.1, HNO.out]; rfl, by first | rfl | trivial⟩
        case measure => simp [intOf]; omega
      · go_wp2_with (first | (refine wpList_load_at rfl _ _ rfl _ _ rfl L0 ?_) | (refine Calls.mono CB ?_; rintro e5 w5 ⟨rfl, rfl⟩))
        go_ret
        refine ⟨i, rfl, ?_, rfl⟩
        rw [decide_eq_true (by omega)]
        have hil : i < l.length := by rw [← HG.out.2]; exact hin
        exact (List.any_eq_true.2 ⟨x, by rw [HS.out.2.1, getElem!_pos l i hil]; exact List.getElem_mem hil, HS.out.2.2.symm⟩).symm
    · obtain rfl : i = n := by omega
      have t1 : decide ((i : Int) < (i : Int)) = false := decide_eq_false (by omega)
      have t1' : decide (i < i) = false := decide_eq_false (by omega)
      go_wp2_with fail
      go_ret
      refine ⟨-1, rfl, ?_, rfl⟩
      have := HNO.out
      rw [List.take_of_length_le (by rw [← HG.out.2]; exact Nat.le_refl _)] at this
      rw [this]; rfl
set_option maxRecDepth 100000 in
set_option maxHeartbeats 2000000 in
theorem hasBad_any {w : World} {l : List (List UInt8)} {a : Option Addr} {n cap : Nat} (hg : RsAt encS 1 w a cap l) (hn : n = l.length) (hl : n ≤ 1000000) :
    Calls Tryd.prog 50 #[.slice a n cap, badV] w fun e w' => e = .returned (.bool (l.any badP)) ∧ w = w' := by
  have C := idxBad_any hg hn hl
  clear hg hn hl
  generalize l.any badP = B at *
  go_enter Tryd.func50, Tryd.ntmps50
  go_wp2_with fail
  refine Calls.mono C ?_
  rintro e w5 ⟨m, rfl, hm, rfl⟩
  clear C
  go_wp2_with fail
  go_ret
  exact ⟨by rw [← hm]; rfl, rfl⟩

theorem indexAny_any (chars : List UInt8) : ∀ l : List UInt8, decide (0 ≤ Lib.indexAny l chars) = l.any fun b => chars.contains b
  | [] => rfl
  | b :: l => by
    have ih := indexAny_any chars l
    have hge := Lib.indexAny_ge chars l
    rw [List.any_cons, ← ih, Lib.indexAny]
    cases h : chars.contains b
    · rw [if_neg Bool.false_ne_true, Bool.false_or]
      split
      · rename_i h1
        have := beq_iff_eq.1 h1
        rw [decide_eq_false (by omega), decide_eq_false (by omega)]
      · rename_i h1
        have h2 : Lib.indexAny l chars ≠ -1 := fun e => h1 (beq_iff_eq.2 e)
        rw [decide_eq_true (by omega), decide_eq_true (by omega)]
    · rw [if_pos rfl, Bool.true_or]; rfl
theorem indexLow (l : List UInt8) (hl : l.length ≤ 1000000) (w : World) : Calls Tryd.prog 59 #[.string (strOf l), .string ⟨#[0, 10, 13]⟩] w fun e w' => ∃ n : Int, e = .returned (.int .i64 n) ∧ decide (0 ≤ n) = l.any isLow ∧ Below w.heap.size w w' := by
  by_cases h8 : l.length ≤ 8
  · exact indexAny_short l h8 w
  · have hs : (strOf l).size = l.length := strOf_size l
    refine (Tryd.strings_IndexAny_long ((zero_of_info (P := Tryd.prog) (n := 256) (by kernel_rfl)).1) (strOf l) ⟨#[0, 10, 13]⟩ w (by decide) (by omega) (by omega) (by decide) ?_).mono ?_
    · intro j b hj
      have : b ∈ ([0, 10, 13] : List UInt8) := List.mem_of_getElem? hj
      simp at this
      rcases this with rfl | rfl | rfl <;> decide
    · rintro e w' ⟨rfl, rfl⟩
      exact ⟨_, rfl, indexAny_any _ _, ((Below.refl _ _).alloc (Nat.le_refl _) _).alloc (by simp) _⟩
set_option maxRecDepth 100000 in
set_option maxHeartbeats 2000000 in
theorem containsLow (l : List UInt8) (hl : l.length ≤ 1000000) (w : World) : Calls Tryd.prog 49 #[.string (strOf l), .string ⟨#[0, 10, 13]⟩] w fun e w' => e = .returned (.bool (l.any isLow)) ∧ Below w.heap.size w w' := by
  have C := fun W => indexLow l hl W
  generalize strOf l = S at *
  go_enter Tryd.func49, Tryd.ntmps49
  go_wp2_with fail
  refine (C _).mono ?_
  rintro e w3 ⟨m, rfl, hm, hw3⟩
  have HW := Lib.hid (And.intro hw3 hm)
  clear C hw3 hm
  go_wp2_with fail
  go_ret
  exact ⟨by rw [← HW.out.2]; rfl, HW.out.1⟩

/-- Is it a path? -/
def pathL (s : List UInt8) : Bool := decide (s.length ≤ 255) && !s.any isLow && !(splitC 47 s).any badP

set_option maxRecDepth 100000 in
set_option maxHeartbeats 2000000 in
theorem path_any (s : List UInt8) (hl : s.length ≤ 100000) (w : World) : Calls Tryd.prog 38 #[.string (strOf s)] w fun e w' => e = .returned (.bool (pathL s)) ∧ Below w.heap.size w w' := by
  have C := fun W => containsLow s (by omega) W
  have CS := fun W => split_any s 47 (by omega) W
  have hsz : (strOf s).size = s.length := strOf_size s
  have hpl := splitC_len 47 s
  have HB := Lib.hid (Below.refl w.heap.size w)
  have hN : pathL s = (decide (s.length ≤ 255) && !s.any isLow && !(splitC 47 s).any badP) := rfl
  generalize pathL s = N at *
  obtain ⟨P, hP⟩ : ∃ P, P = splitC 47 s := ⟨_, rfl⟩
  rw [← hP] at CS hpl hN
  clear hP
  generalize strOf s = S at *
  generalize s.any isLow = L at *
  obtain ⟨n, hn⟩ : ∃ n, n = P.length := ⟨_, rfl⟩
  rw [← hn] at CS
  obtain ⟨B, hB⟩ : ∃ B, B = P.any badP := ⟨_, rfl⟩
  rw [← hB] at hN
  have HN := Lib.hid (And.intro hn (And.intro hpl hB))
  clear hpl hn hB
  by_cases h1 : s.length ≤ 255
  case neg =>
    obtain rfl : N = false := by rw [hN, decide_eq_false h1]; rfl
    have h1' : decide ((255 : Int) < (s.length : Int)) = true := decide_eq_true (by omega)
    have h1'' : decide (255 < s.length) = true := decide_eq_true (by omega)
    clear hN C CS hl h1
    go_enter Tryd.func38, Tryd.ntmps38
    go_wp2_with fail
    go_ret
    exact ⟨rfl, HB.out⟩
  have hn6 : n ≤ 1000 := by have := HN.out; omega
  rw [decide_eq_true h1, Bool.true_and] at hN
  have h1' : decide ((255 : Int) < (s.length : Int)) = false := decide_eq_false (by omega)
  have h1'' : decide (255 < s.length) = false := decide_eq_false (by omega)
  cases L
  · rw [Bool.not_false, Bool.true_and] at hN
    subst hN
    clear h1 hl
    go_enter Tryd.func38, Tryd.ntmps38
    go_wp2_with fail
    refine (C _).mono ?_
    rintro e w3 ⟨rfl, hw3⟩
    have HW := Lib.hid hw3
    clear C hw3
    go_wp2_with fail
    refine (CS _).mono ?_
    rintro e w4 ⟨rfl, hw4⟩
    have hb4 : Grow w3 w4 := by rw [hw4]; exact (Below.refl _ _).alloc (Nat.le_refl _) _
    have hblk : w4.heap[w3.heap.size]? = some (.cells (P.map strV).toArray 9 (0, 0)) := by rw [hw4]; exact heap_alloc_last _ _ _ rfl
    have CB := hasBad_any (texts_block hblk (by have := HN.out; omega)) rfl (by have := HN.out; omega)
    rw [← HN.out.1, ← HN.out.2.2] at CB
    have HW4 := Lib.hid (Grow.trans HW.out hb4)
    clear CS hw4 hb4 hblk
    go_wp2_with fail
    refine CB.mono ?_
    rintro e w5 ⟨rfl, rfl⟩
    clear CB
    go_wp2_with fail
    go_ret
    exact ⟨rfl, HW4.out⟩
  · rw [Bool.not_true, Bool.false_and] at hN
    subst hN
    clear CS h1 hl
    go_enter Tryd.func38, Tryd.ntmps38
    go_wp2_with fail
    refine (C _).mono ?_
    rintro e w3 ⟨rfl, hw3⟩
    have HW := Lib.hid hw3
    clear C hw3
    go_wp2_with fail
    go_ret
    exact ⟨rfl, HW.out⟩
end Go.Proofs.YtifoledkmjlmoaaDoor
