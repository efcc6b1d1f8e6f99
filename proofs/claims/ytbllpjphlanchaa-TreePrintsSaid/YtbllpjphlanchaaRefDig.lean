/-
  The document's Digits, named: the walks.
-/
import Derived.Test.YtbllpjphlanchaaNamed
namespace Go.Proofs.Ytbllpjphlanchaa
open Go.RowKit Go.Mix Go.WideMaps

def wordsL : List (List UInt8) := [[52, 48, 48, 48, 48], [49, 48, 48, 54, 52, 52], [49, 48, 48, 55, 53, 53], [49, 50, 48, 48, 48, 48], [49, 54, 48, 48, 48, 48]]
theorem digs_word : ∀ i (h : i < modesL.length), digs modesL[i] = wordsL[i]'(by exact h) := by decide
theorem digs_none {m : Int} (h : ∀ i (h : i < modesL.length), modesL[i] ≠ m) : digs m = [] := by
  have h0 := h 0 (by decide)
  have h1 := h 1 (by decide)
  have h2 := h 2 (by decide)
  have h3 := h 3 (by decide)
  have h4 := h 4 (by decide)
  simp [modesL] at h0 h1 h2 h3 h4
  unfold digs
  rw [if_neg (Ne.symm h0), if_neg (Ne.symm h1), if_neg (Ne.symm h2), if_neg (Ne.symm h3), if_neg (Ne.symm h4)]
def wordsC : Array Value := #[.string ⟨#[52, 48, 48, 48, 48]⟩, .string ⟨#[49, 48, 48, 54, 52, 52]⟩, .string ⟨#[49, 48, 48, 55, 53, 53]⟩, .string ⟨#[49, 50, 48, 48, 48, 48]⟩, .string ⟨#[49, 54, 48, 48, 48, 48]⟩]
def modesC : Array Value := #[.int .i64 16384, .int .i64 33188, .int .i64 33261, .int .i64 40960, .int .i64 57344]

set_option maxRecDepth 100000 in
set_option maxHeartbeats 2000000 in
theorem refDigits_any (m : Int) (w : World) : Calls Try.prog 22 #[.int .i64 m] w fun e w' => e = .returned (.string (strOf (digs m))) ∧ Below w.heap.size w w' := by
  obtain ⟨C, hC⟩ : ∃ C : Array Value, C = modesC := ⟨_, rfl⟩
  obtain ⟨D, hD⟩ : ∃ D : Array Value, D = wordsC := ⟨_, rfl⟩
  obtain ⟨w2, hw2⟩ : ∃ w2, w2 = (w.alloc (.cells C 3)).alloc (.cells D 9) := ⟨_, rfl⟩
  have hb0 : Below w.heap.size w w2 := by rw [hw2]; exact ((Below.refl _ _).alloc (Nat.le_refl _) _).alloc (by simp) _
  have k0 : w2.heap[w.heap.size]? = some (.cells C 3 (0, 0)) := by
    rw [hw2, Below.block ((Below.refl _ _).alloc (Nat.le_refl _) _) _ (by simp)]; exact heap_alloc_last _ _ _ rfl
  have k1 : w2.heap[w.heap.size + 1]? = some (.cells D 9 (0, 0)) := by rw [hw2]; exact heap_alloc_last _ _ _ (by simp)
  have HK := Lib.hid (And.intro hb0 (And.intro k0 k1))
  have HCD := Lib.hid (And.intro hC hD)
  rw [hC, hD] at hw2
  unfold modesC wordsC at hw2
  have HW := Lib.hid hw2
  clear hw2 hb0 k0 k1 hC hD
  go_enter Try.func22, Try.ntmps22
  go_wp2_with fail
  rw [← HW.out]
  clear HW
  go_loopw [5] (fun s5 wr => ∃ i : Nat, s5 = .int .i64 (i : Int) ∧ i ≤ 5 ∧ (∀ j (hj : j < modesL.length), j < i → modesL[j] ≠ m) ∧ wr = w2) (fun s5 _ => 5 - (intOf s5).toNat)
  case atStart => exact ⟨0, rfl, by omega, fun _ _ h => absurd h (Nat.not_lt_zero _), rfl⟩
  case round =>
    obtain ⟨i, rfl, hi, hno, rfl⟩ := hrel
    have HNO := Lib.hid hno
    clear hno
    by_cases hi5 : i < 5
    · have t0 : (i : Int) < 5 := by omega
      have hil : i < modesL.length := hi5
      have c0 : wr.cell? ⟨w.heap.size, i, none⟩ = some (.int .i64 modesL[i]) := by
        rw [cell_of_row _ _ _ _ _ _ HK.out.2.1, HCD.out.1]
        match i, hi5 with
        | 0, _ => rfl
        | 1, _ => rfl
        | 2, _ => rfl
        | 3, _ => rfl
        | 4, _ => rfl
      have c1 : wr.cell? ⟨w.heap.size + 1, i, none⟩ = some (.string (strOf (digs modesL[i]))) := by
        rw [cell_of_row _ _ _ _ _ _ HK.out.2.2, HCD.out.2]
        match i, hi5 with
        | 0, _ => rfl
        | 1, _ => rfl
        | 2, _ => rfl
        | 3, _ => rfl
        | 4, _ => rfl
      obtain ⟨M, hM⟩ : ∃ M, M = modesL[i] := ⟨_, rfl⟩
      have HM := Lib.hid hM
      rw [← hM] at c0 c1
      clear hM
      by_cases he : M = m
      · have t2 : (M == m) = true := by rw [beq_iff_eq]; exact he
        have HE := Lib.hid he
        clear he
        go_wp2_with fail
        go_ret
        exact ⟨by rw [HE.out]; rfl, HK.out.1⟩
      · have t2 : (M == m) = false := by rw [beq_eq_false_iff_ne]; exact he
        have HE := Lib.hid he
        clear he
        go_wp2_with fail
        go_roundw
        case rel =>
          refine ⟨i + 1, by go_num, by omega, fun j hj hji => ?_, by first | rfl | trivial⟩
          rcases Nat.lt_or_ge j i with h | h
          · exact HNO.out j hj h
          · obtain rfl : j = i := by omega
            rw [← HM.out]; exact HE.out
        case measure => simp [intOf]; omega
    · obtain rfl : i = 5 := by omega
      have HF := Lib.hid (digs_none fun j hj => HNO.out j hj hj)
      go_wp2_with fail
      go_ret
      exact ⟨by rw [HF.out]; rfl, HK.out.1⟩

set_option maxRecDepth 100000 in
set_option maxHeartbeats 2000000 in
theorem refNamed_any (s : List UInt8) (hl : s.length ≤ 1000000) (w : World) : Calls Try.prog 23 #[.string (strOf s)] w fun e w' => e = .returned (.bool (namedL s)) ∧ w = w' := by
  have E1 : ((strOf s).toList == [46]) = decide (s = [46]) := strOf_eq s _
  have E2 : ((strOf s).toList == [46, 46]) = decide (s = [46, 46]) := strOf_eq s _
  have hsz : (strOf s).size = s.length := strOf_size s
  have HIX := Lib.hid (fun (i : Nat) (h : i < s.length) (W : World) => str_at Try.underlying9 s (i : Int) rfl (List.getElem?_eq_getElem h) W)
  have hN : namedL s = (decide (s ≠ []) && decide (s.length ≤ 255) && decide (s ≠ [46]) && decide (s ≠ [46, 46]) && !s.any isLow) := rfl
  generalize namedL s = N at *
  generalize strOf s = S at *
  by_cases h0 : s = []
  · have h0' : ((s.length : Int) == 0) = true := by rw [h0]; rfl
    obtain rfl : N = false := by rw [hN, decide_eq_false (not_not_intro h0)]; rfl
    clear hN h0 E1 E2 hl HIX
    go_enter Try.func23, Try.ntmps23
    go_wp2_with fail
    go_ret
    exact ⟨rfl, rfl⟩
  have hpos : 0 < s.length := List.length_pos_iff.2 h0
  have h0' : ((s.length : Int) == 0) = false := by rw [beq_eq_false_iff_ne]; omega
  rw [decide_eq_true h0, Bool.true_and] at hN
  by_cases h1 : s.length ≤ 255
  case neg =>
    obtain rfl : N = false := by rw [hN, decide_eq_false h1]; rfl
    have h1' : (255 : Int) < (s.length : Int) := by omega
    have h1'' : 255 < s.length := by omega
    clear hN h0 E1 E2 hl h1 HIX
    go_enter Try.func23, Try.ntmps23
    go_wp2_with fail
    go_ret
    exact ⟨rfl, rfl⟩
  rw [decide_eq_true h1, Bool.true_and] at hN
  have h1' : ¬ (255 : Int) < (s.length : Int) := by omega
  by_cases h2 : s = [46]
  · rw [decide_eq_true h2] at E1
    obtain rfl : N = false := by rw [hN, decide_eq_false (not_not_intro h2)]; rfl
    clear hN h0 E2 hl h1 h2 HIX
    go_enter Try.func23, Try.ntmps23
    go_wp2_with fail
    go_ret
    exact ⟨rfl, rfl⟩
  rw [decide_eq_false h2] at E1
  rw [decide_eq_true h2, Bool.true_and] at hN
  by_cases h3 : s = [46, 46]
  · rw [decide_eq_true h3] at E2
    obtain rfl : N = false := by rw [hN, decide_eq_false (not_not_intro h3)]; rfl
    clear hN h0 hl h1 h2 h3 HIX
    go_enter Try.func23, Try.ntmps23
    go_wp2_with fail
    go_ret
    exact ⟨rfl, rfl⟩
  rw [decide_eq_false h3] at E2
  rw [decide_eq_true h3, Bool.true_and] at hN
  have HN := Lib.hid hN
  clear hN h0 hl h2 h3
  go_enter Try.func23, Try.ntmps23
  go_wp2_with fail
  clear E1 E2 h0' h1'
  go_loopw [3] (fun s3 wr => ∃ i : Nat, s3 = .int .i64 (i : Int) ∧ i ≤ s.length ∧ (s.take i).any isLow = false ∧ wr = w) (fun s3 _ => s.length - (intOf s3).toNat)
  case atStart => exact ⟨0, rfl, Nat.zero_le _, rfl, rfl⟩
  case round =>
    obtain ⟨i, rfl, hi, hno, rfl⟩ := hrel
    have HNO := Lib.hid hno
    clear hno
    by_cases hin : i < s.length
    · have t0 : (i : Int) < (s.length : Int) := by omega
      have IX := HIX.out i hin
      obtain ⟨c, hc⟩ : ∃ c, c = s[i] := ⟨_, rfl⟩
      rw [← hc] at IX
      have HC := Lib.hid hc
      clear hc
      by_cases e0 : c = 0
      · have t1 : ((c.toNat : Int) == 0) = true := by rw [e0]; rfl
        have HL := Lib.hid (show isLow c = true by rw [e0]; rfl)
        clear e0
        go_wp2_with fail
        go_ret
        refine ⟨?_, rfl⟩
        rw [HN.out, List.any_eq_true.2 ⟨s[i], List.getElem_mem hin, by rw [← HC.out]; exact HL.out⟩]; rfl
      · have t1 : ((c.toNat : Int) == 0) = false := by
          rw [beq_eq_false_iff_ne]
          intro h; exact e0 (UInt8.toNat_inj.1 (by show c.toNat = 0; omega))
        by_cases e1 : c = 47
        · have t2 : ((c.toNat : Int) == 47) = true := by rw [e1]; rfl
          have HL := Lib.hid (show isLow c = true by rw [e1]; rfl)
          clear e0 e1
          go_wp2_with fail
          go_ret
          refine ⟨?_, rfl⟩
          rw [HN.out, List.any_eq_true.2 ⟨s[i], List.getElem_mem hin, by rw [← HC.out]; exact HL.out⟩]; rfl
        · have t2 : ((c.toNat : Int) == 47) = false := by
            rw [beq_eq_false_iff_ne]
            intro h; exact e1 (UInt8.toNat_inj.1 (by show c.toNat = 47; omega))
          have HL := Lib.hid (show isLow c = false by
            unfold isLow
            rw [Bool.eq_false_iff]
            intro hcn
            simp at hcn
            rcases hcn with h | h
            · exact e0 h
            · exact e1 h)
          clear e0 e1
          go_wp2_with fail
          go_roundw
          case rel =>
            refine ⟨i + 1, by go_num, by omega, ?_, by first | rfl | trivial⟩
            refine any_take_add HNO.out fun k hk h1 h2 => ?_
            obtain rfl : k = i := by omega
            rw [← HC.out]; exact HL.out
          case measure => simp [intOf]; omega
    · obtain rfl : i = s.length := by omega
      have t0 : ¬ (s.length : Int) < (s.length : Int) := by omega
      go_wp2_with fail
      go_ret
      refine ⟨?_, rfl⟩
      have := HNO.out
      rw [List.take_length] at this
      rw [HN.out, this]; rfl
end Go.Proofs.Ytbllpjphlanchaa
