/-
  The document's has, all, Order, Same.
-/
import Derived.Test.YtkkfolfplpafhaaOrderMain
namespace Go.Proofs.Ytkkfolfplpafhaa
open Go.RowKit Go.Mix

def natsZ (l : List Nat) : List Int := l.map fun (x : Nat) => (x : Int)
theorem natsZ_len (l : List Nat) : (natsZ l).length = l.length := by simp [natsZ]
theorem icells_z (l : List Nat) : icells l = zcells (natsZ l) := by simp [icells, zcells, natsZ]
theorem natsZ_inj {a b : List Nat} (h : natsZ a = natsZ b) : a = b := by
  unfold natsZ at h
  have h2 := congrArg (List.map Int.toNat) h
  simpa [List.map_map, Function.comp_def] using h2
theorem hasZ_eq (out : List Nat) (p : Int) : decide (p ∈ natsZ out) = hasI out p := by
  rw [Bool.eq_iff_iff, decide_eq_true_eq, hasI_iff]
  unfold natsZ
  rw [List.mem_map]
theorem take_mem {l : List Int} {i : Nat} (hi : i < l.length) (n : Int) : n ∈ l.take (i + 1) ↔ n ∈ l.take i ∨ l.getD i 0 = n := by
  rw [List.take_succ_eq_append_getElem hi, List.mem_append, List.mem_singleton, List.getD_eq_getElem?_getD, List.getElem?_eq_getElem hi]
  constructor
  · rintro (h | h)
    · exact .inl h
    · exact .inr h.symm
  · rintro (h | h)
    · exact .inl h
    · exact .inr h.symm

section
variable {w : World}

set_option maxRecDepth 100000 in
set_option maxHeartbeats 1000000 in
theorem has_any {a : Option Addr} {cap : Nat} {l : List Int} (hl : Cells w a (zcells l)) (hl1 : l.length ≤ 1000000) (n : Int) :
    Calls Try.prog 23 #[.slice a l.length cap, .int .i64 n] w fun e w' => e = .returned (.bool (decide (n ∈ l))) ∧ w = w' := by
  go_enter Try.func23, Try.ntmps23
  go_wp2_with fail
  go_loop [5] (fun s5 => ∃ i : Nat, s5 = .int .i64 (i : Int) ∧ i ≤ l.length ∧ ¬ n ∈ l.take i) (fun s5 => l.length - (intOf s5).toNat)
  case atStart => exact ⟨0, rfl, Nat.zero_le _, by simp⟩
  case round =>
    obtain ⟨i, rfl, hi, hno⟩ := hrel
    by_cases hil : i < l.length
    · have t1 : decide ((i : Int) < (l.length : Int)) = true := decide_eq_true (by omega)
      have t1' : decide (i < l.length) = true := decide_eq_true hil
      obtain ⟨IK, IC⟩ := zs_at hl cap (i : Int) i rfl hil
      have htm := take_mem hil n
      by_cases he : l.getD i 0 = n
      · have u1 : (l.getD i 0 == n) = true := by rw [beq_iff_eq]; exact he
        have HM := Lib.hid (show decide (n ∈ l) = true from decide_eq_true (List.mem_of_mem_take (htm.2 (.inr he))))
        clear he htm
        generalize l.getD i 0 = z at *
        go_wp2_with fail
        go_ret
        exact ⟨by first | rfl | (rw [HM.out]; rfl), rfl⟩
      · have u1 : (l.getD i 0 == n) = false := by rw [beq_eq_false_iff_ne]; exact he
        have HM := Lib.hid (show ¬ n ∈ l.take (i + 1) from fun h => (htm.1 h).elim hno he)
        clear he htm
        generalize l.getD i 0 = z at *
        go_wp2_with fail
        go_round
        case rel => exact ⟨i + 1, by go_num, by omega, HM.out⟩
        case measure => simp [intOf]; omega
    · obtain rfl : i = l.length := by omega
      have t1 : decide ((l.length : Int) < (l.length : Int)) = false := decide_eq_false (by omega)
      have t1' : decide (l.length < l.length) = false := decide_eq_false (by omega)
      rw [List.take_length] at hno
      have HM := Lib.hid (show decide (n ∈ l) = false from decide_eq_false hno)
      go_wp2_with fail
      go_ret
      exact ⟨by first | rfl | (rw [HM.out]; rfl), rfl⟩

set_option maxRecDepth 100000 in
set_option maxHeartbeats 1000000 in
theorem all_any {a b : Option Addr} {ca cb : Nat} {s l : List Int} (hs : Cells w a (zcells s)) (hl : Cells w b (zcells l)) (hs1 : s.length ≤ 1000000) (hl1 : l.length ≤ 1000000) :
    Calls Try.prog 24 #[.slice a s.length ca, .slice b l.length cb] w fun e w' => e = .returned (.bool (s.all fun z => decide (z ∈ l))) ∧ w = w' := by
  go_enter Try.func24, Try.ntmps24
  go_wp2_with fail
  go_loop [5] (fun s5 => ∃ i : Nat, s5 = .int .i64 (i : Int) ∧ i ≤ s.length ∧ ∀ z ∈ s.take i, z ∈ l) (fun s5 => s.length - (intOf s5).toNat)
  case atStart => exact ⟨0, rfl, Nat.zero_le _, by simp⟩
  case round =>
    obtain ⟨i, rfl, hi, hall⟩ := hrel
    by_cases hil : i < s.length
    · have t1 : decide ((i : Int) < (s.length : Int)) = true := decide_eq_true (by omega)
      have t1' : decide (i < s.length) = true := decide_eq_true hil
      obtain ⟨IK, IC⟩ := zs_at hs ca (i : Int) i rfl hil
      have C := has_any (cap := cb) hl hl1 (s.getD i 0)
      have hm : s.getD i 0 ∈ s := by rw [List.getD_eq_getElem?_getD, List.getElem?_eq_getElem hil]; exact List.getElem_mem hil
      have hnx : s.getD i 0 ∈ l → ∀ z ∈ s.take (i + 1), z ∈ l := fun h z hz => by
        rcases (take_mem hil z).1 hz with h1 | h1
        · exact hall z h1
        · rw [← h1]; exact h
      have hbad : s.getD i 0 ∉ l → (s.all fun z => decide (z ∈ l)) = false := fun h => by
        rw [Bool.eq_false_iff]
        intro h2
        rw [List.all_eq_true] at h2
        exact h (of_decide_eq_true (h2 _ hm))
      have HNX := Lib.hid hnx
      have HBD := Lib.hid hbad
      clear hnx hbad hm hall
      generalize s.getD i 0 = z at *
      by_cases hz : z ∈ l
      · rw [decide_eq_true hz] at C
        have HM := Lib.hid (HNX.out hz)
        clear hz
        go_wp2_with fail
        refine C.mono ?_
        rintro e w' ⟨rfl, rfl⟩
        go_wp2_with fail
        go_round
        case rel => exact ⟨i + 1, by go_num, by omega, HM.out⟩
        case measure => simp [intOf]; omega
      · rw [decide_eq_false hz] at C
        have HM := Lib.hid (HBD.out hz)
        clear hz
        go_wp2_with fail
        refine C.mono ?_
        rintro e w' ⟨rfl, rfl⟩
        go_wp2_with fail
        go_ret
        exact ⟨by first | rfl | (rw [HM.out]; rfl), rfl⟩
    · obtain rfl : i = s.length := by omega
      have t1 : decide ((s.length : Int) < (s.length : Int)) = false := decide_eq_false (by omega)
      have t1' : decide (s.length < s.length) = false := decide_eq_false (by omega)
      rw [List.take_length] at hall
      have HM := Lib.hid (show (s.all fun z => decide (z ∈ l)) = true from List.all_eq_true.2 fun z hz => decide_eq_true (hall z hz))
      clear hall
      go_wp2_with fail
      go_ret
      exact ⟨by first | rfl | (rw [HM.out]; rfl), rfl⟩

set_option maxRecDepth 100000 in
set_option maxHeartbeats 1000000 in
theorem same_any {a b : Option Addr} {ca cb : Nat} {s l : List Int} (hs : Cells w a (zcells s)) (hl : Cells w b (zcells l)) (hs1 : s.length ≤ 1000000) :
    Calls Try.prog 13 #[.slice a s.length ca, .slice b l.length cb] w fun e w' => e = .returned (.bool (decide (s = l))) ∧ Below w.heap.size w w' := by
  by_cases hlen : s.length = l.length
  · have t0 : ((s.length : Int) != (l.length : Int)) = false := by rw [bne_eq_false_iff_eq]; omega
    have HLN := Lib.hid hlen
    go_enter Try.func13, Try.ntmps13
    obtain ⟨sl, hsl⟩ : ∃ sl, sl = s.length := ⟨_, rfl⟩
    obtain ⟨ll, hll⟩ : ∃ ll, ll = l.length := ⟨_, rfl⟩
    rw [← hsl, ← hll] at t0 ⊢
    have HSL := Lib.hid (And.intro hsl hll)
    have hsl1 : sl ≤ 1000000 := by omega
    clear hlen hsl hll
    go_wp2_with fail
    go_loopw [5] (fun s5 wr => ∃ i : Nat, s5 = .int .i64 (i : Int) ∧ i ≤ sl ∧ s.take i = l.take i ∧ Below w.heap.size w wr) (fun s5 _ => sl - (intOf s5).toNat)
    case atStart => exact ⟨0, rfl, Nat.zero_le _, by simp, Below.refl _ _⟩
    case round =>
      obtain ⟨i, rfl, hi, hta, hb⟩ := hrel
      by_cases hil : i < sl
      · have t1 : decide ((i : Int) < (sl : Int)) = true := decide_eq_true (by omega)
        have t1' : decide (i < sl) = true := decide_eq_true hil
        have his : i < s.length := by rw [← HSL.out.1]; exact hil
        have hill : i < l.length := by rw [← HLN.out]; exact his
        obtain ⟨IK, -⟩ := zs_at (hs.below hb) ca (i : Int) i rfl his
        obtain ⟨IL, -⟩ := zs_at (hl.below hb) cb (i : Int) i rfl hill
        rw [← HSL.out.1] at IK
        rw [← HSL.out.2] at IL
        have IC : ∀ y : Later wr, y.1.cell? (elt a i) = some (.int .i64 (s.getD i 0)) := fun y => (zs_at ((hs.below hb).below y.2) ca (i : Int) i rfl his).2
        have LC : ∀ y : Later wr, y.1.cell? (elt b i) = some (.int .i64 (l.getD i 0)) := fun y => (zs_at ((hl.below hb).below y.2) cb (i : Int) i rfl hill).2
        have hst : s.getD i 0 = l.getD i 0 → s.take (i + 1) = l.take (i + 1) := fun e => by
          rw [List.take_succ_eq_append_getElem his, List.take_succ_eq_append_getElem hill, hta]
          rw [List.getD_eq_getElem?_getD, List.getD_eq_getElem?_getD, List.getElem?_eq_getElem his, List.getElem?_eq_getElem hill] at e
          simp only [Option.getD_some] at e
          rw [e]
        have hne : s.getD i 0 ≠ l.getD i 0 → decide (s = l) = false := fun h => decide_eq_false fun e => h (by rw [e])
        have HST := Lib.hid hst
        have HNE := Lib.hid hne
        clear hst hne his hill
        generalize s.getD i 0 = x at *
        generalize l.getD i 0 = y at *
        go_upto_region 6 with (fail)
        refine wp_region_mix [(0, 0), (1, 0), (2, 0), (3, 0), (4, 0), (5, 0), (6, 0), (7, 0), (8, 0)] (by kernel_rfl) (by kernel_rfl) ?_
        iterate 9 (refine mix_calm rfl (fun K hK => ?_); go_simp; (refine hK _ ?_; clear hK K))
        refine mix_nil fun w6 hw6 => ?_
        have hb6 : Below w.heap.size w w6 := hb.trans (Below.mono hw6 hb.size)
        clear IK IL IC LC hb hw6
        by_cases hxy : x = y
        · have u1 : (x != y) = false := by rw [bne_eq_false_iff_eq]; exact hxy
          have HT := Lib.hid (HST.out hxy)
          clear hxy
          go_wp2_with fail
          go_roundw
          case rel => exact ⟨i + 1, by go_num, by omega, HT.out, hb6⟩
          case measure => simp [intOf]; omega
        · have u1 : (x != y) = true := by rw [bne_iff_ne]; exact hxy
          have HT := Lib.hid (HNE.out hxy)
          clear hxy
          go_wp2_with fail
          go_ret
          exact ⟨by first | rfl | (rw [HT.out]; rfl), hb6⟩
      · obtain rfl : i = sl := by omega
        have t1 : decide ((i : Int) < (i : Int)) = false := decide_eq_false (by omega)
        have hsl2 : s = l := by
          rw [List.take_of_length_le (by rw [← HSL.out.1]; exact Nat.le_refl _), List.take_of_length_le (by rw [← HLN.out, ← HSL.out.1]; exact Nat.le_refl _)] at hta
          exact hta
        have HT := Lib.hid (decide_eq_true hsl2)
        clear hsl2 hta
        go_wp2_with fail
        go_ret
        exact ⟨by first | rfl | (rw [HT.out]; rfl), hb⟩
  · have t0 : ((s.length : Int) != (l.length : Int)) = true := by rw [bne_iff_ne]; omega
    have HM := Lib.hid (show decide (s = l) = false from decide_eq_false fun e => hlen (by rw [e]))
    clear hlen
    go_enter Try.func13, Try.ntmps13
    go_wp2_with fail
    go_ret
    exact ⟨by first | rfl | (rw [HM.out]; rfl), Below.refl _ _⟩
end
end Go.Proofs.Ytkkfolfplpafhaa
