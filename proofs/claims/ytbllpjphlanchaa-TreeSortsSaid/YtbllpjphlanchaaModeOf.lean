/-
  tree.modeOf: the walk.
-/
import Derived.Test.YtbllpjphlanchaaDig
namespace Go.Proofs.Ytbllpjphlanchaa
open Go.RowKit Go.Mix Go.WideMaps

def modesL : List Int := [16384, 33188, 33261, 40960, 57344]
/-- A mode by its digits; 0: it is none. -/
def modeOf (s : List UInt8) : Int := (modesL.find? fun m => decide (digs m = s)).getD 0
theorem find_take {p : Int → Bool} {l : List Int} {i : Nat} (h : i < l.length) (hn : ∀ j (hj : j < i), p (l[j]'(by omega)) = false) (hp : p l[i] = true) : l.find? p = some l[i] := by
  conv => lhs; rw [← List.take_append_drop i l, List.find?_append, List.drop_eq_getElem_cons h]
  rw [List.find?_eq_none.2]
  · rw [Option.none_or, List.find?_cons_of_pos hp]
  · intro x hx
    obtain ⟨j, hj, rfl⟩ := List.getElem_of_mem hx
    rw [List.getElem_take]
    rw [hn j (by rw [List.length_take] at hj; omega)]
    simp

set_option maxRecDepth 100000 in
set_option maxHeartbeats 2000000 in
theorem modeOf_any (s : List UInt8) (w : World) : Calls Try.prog 35 #[.string (strOf s)] w fun e w' => e = .returned (.int .i64 (modeOf s)) ∧ Below w.heap.size w w' := by
  obtain ⟨S, hS⟩ : ∃ S, S = strOf s := ⟨_, rfl⟩
  rw [← hS]
  obtain ⟨C, hC⟩ : ∃ C : Array Value, C = #[.int .i64 16384, .int .i64 33188, .int .i64 33261, .int .i64 40960, .int .i64 57344] := ⟨_, rfl⟩
  have hb0 : Below w.heap.size w (w.alloc (.cells C 3)) := (Below.refl _ _).alloc (Nat.le_refl _) _
  have hk0 : (w.alloc (.cells C 3)).heap[w.heap.size]? = some (.cells C 3 (0, 0)) := heap_alloc_last _ _ _ rfl
  have HS := Lib.hid hS
  rw [hC] at hb0 hk0
  have H0 := Lib.hid (And.intro hb0 hk0)
  clear hS hb0 hk0 hC
  go_enter Try.func35, Try.ntmps35
  go_wp2_with fail
  go_loopw [7] (fun s7 wr => ∃ i : Nat, s7 = .int .i64 (i : Int) ∧ i ≤ 5 ∧ (∀ j (hj : j < modesL.length), j < i → digs modesL[j] ≠ s) ∧ wr = w.alloc (.cells #[.int .i64 16384, .int .i64 33188, .int .i64 33261, .int .i64 40960, .int .i64 57344] 3)) (fun s7 _ => 5 - (intOf s7).toNat)
  case atStart => exact ⟨0, rfl, by omega, fun _ _ h => absurd h (Nat.not_lt_zero _), rfl⟩
  case round =>
    obtain ⟨i, rfl, hi, hno, rfl⟩ := hrel
    have HNO := Lib.hid hno
    clear hno
    by_cases hi5 : i < 5
    · have t0 : (i : Int) < 5 := by omega
      have t1 : decide ((i : Int) < 5) = true := decide_eq_true (by omega)
      have t1' : decide (i < 5) = true := decide_eq_true (by omega)
      have hil : i < modesL.length := hi5
      have cell : (w.alloc (.cells #[.int .i64 16384, .int .i64 33188, .int .i64 33261, .int .i64 40960, .int .i64 57344] 3)).cell? ⟨w.heap.size, i, none⟩ = some (.int .i64 modesL[i]) := by
        rw [cell_of_row _ _ _ _ _ _ H0.out.2]
        match i, hi5 with
        | 0, _ => rfl
        | 1, _ => rfl
        | 2, _ => rfl
        | 3, _ => rfl
        | 4, _ => rfl
      have C := fun W => digits_any modesL[i] W
      obtain ⟨d, hd⟩ : ∃ d, d = decide (digs modesL[i] = s) := ⟨_, rfl⟩
      have E : ((strOf (digs modesL[i])).toList == S.toList) = d := by
        rw [HS.out, strOf_list, strOf_list, hd, Bool.eq_iff_iff, beq_iff_eq, decide_eq_true_eq]
      have HD := Lib.hid hd
      have HM := Lib.hid (show modesL[i] = modesL[i] from rfl)
      clear hd
      obtain ⟨m, hm⟩ : ∃ m, m = modesL[i] := ⟨_, rfl⟩
      have HMM := Lib.hid hm
      rw [← hm] at cell C E
      clear hm
      generalize hw1 : w.alloc (.cells #[.int .i64 16384, .int .i64 33188, .int .i64 33261, .int .i64 40960, .int .i64 57344] 3) = w1 at *
      go_wp2_with fail
      refine (C _).mono ?_
      rintro e w2 ⟨rfl, rfl⟩
      clear C
      cases d
      · go_wp2_with fail
        go_roundw
        case rel =>
          refine ⟨i + 1, by go_num, by omega, fun j hj hji => ?_, by first | rfl | trivial⟩
          rcases Nat.lt_or_ge j i with h | h
          · exact HNO.out j hj h
          · obtain rfl : j = i := by omega
            exact of_decide_eq_false HD.out.symm
        case measure => simp [intOf]; omega
      · have hf : modeOf s = m := by
          unfold modeOf
          rw [find_take (p := fun m => decide (digs m = s)) hil (fun j hj => decide_eq_false (HNO.out j (by omega) hj)) HD.out.symm, HMM.out]; rfl
        have HF := Lib.hid hf
        clear hf
        go_wp2_with fail
        go_ret
        exact ⟨by rw [HF.out]; rfl, H0.out.1⟩
    · obtain rfl : i = 5 := by omega
      have t1 : decide (((5 : Nat) : Int) < 5) = false := rfl
      have hf : modeOf s = 0 := by
        unfold modeOf
        rw [List.find?_eq_none.2]
        · rfl
        · intro x hx
          obtain ⟨j, hj, rfl⟩ := List.getElem_of_mem hx
          rw [decide_eq_true_eq]
          exact HNO.out j hj hj
      have HF := Lib.hid hf
      clear hf
      go_wp2_with fail
      go_ret
      exact ⟨by rw [HF.out]; rfl, H0.out.1⟩
end Go.Proofs.Ytbllpjphlanchaa
