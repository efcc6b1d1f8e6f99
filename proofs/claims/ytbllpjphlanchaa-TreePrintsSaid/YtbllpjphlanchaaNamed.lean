/-
  tree.named: the walk.
-/
import Derived.Test.YtbllpjphlanchaaAnyOf
namespace Go.Proofs.Ytbllpjphlanchaa
open Go.RowKit Go.Mix Go.WideMaps

theorem indexAny_any (chars : List UInt8) : ∀ l : List UInt8, decide (0 ≤ Lib.indexAny l chars) = l.any fun b => chars.contains b
  | [] => rfl
  | b :: l => by
    have ih := indexAny_any chars l
    have hge := Lib.indexAny_ge chars l
    rw [List.any_cons, ← ih, Lib.indexAny]
    cases h : chars.contains b
    · rw [if_neg Bool.false_ne_true, Bool.false_or]
      split
      · rename_i h1
        have := beq_iff_eq.1 h1
        rw [decide_eq_false (by omega), decide_eq_false (by omega)]
      · rename_i h1
        have h2 : Lib.indexAny l chars ≠ -1 := fun e => h1 (beq_iff_eq.2 e)
        rw [decide_eq_true (by omega), decide_eq_true (by omega)]
    · rw [if_pos rfl, Bool.true_or]; rfl

theorem indexLow (l : List UInt8) (hl : l.length ≤ 1000000) (w : World) : Calls Try.prog 36 #[.string (strOf l), .string ⟨#[0, 47]⟩] w fun e w' => ∃ n : Int, e = .returned (.int .i64 n) ∧ decide (0 ≤ n) = l.any isLow ∧ Below w.heap.size w w' := by
  by_cases h8 : l.length ≤ 8
  · exact indexAny_short l h8 w
  · have hs : (strOf l).size = l.length := strOf_size l
    refine (Try.strings_IndexAny_long ((zero_of_info (P := Try.prog) (n := 256) (by kernel_rfl)).1) (strOf l) ⟨#[0, 47]⟩ w (by decide) (by omega) (by omega) (by decide) ?_).mono ?_
    · intro j b hj
      have : b ∈ ([0, 47] : List UInt8) := List.mem_of_getElem? hj
      simp at this
      rcases this with rfl | rfl <;> decide
    · rintro e w' ⟨rfl, rfl⟩
      exact ⟨_, rfl, indexAny_any _ _, ((Below.refl _ _).alloc (Nat.le_refl _) _).alloc (by simp) _⟩

set_option maxRecDepth 100000 in
set_option maxHeartbeats 2000000 in
theorem containsLow (l : List UInt8) (hl : l.length ≤ 1000000) (w : World) : Calls Try.prog 29 #[.string (strOf l), .string ⟨#[0, 47]⟩] w fun e w' => e = .returned (.bool (l.any isLow)) ∧ Below w.heap.size w w' := by
  have C := fun W => indexLow l hl W
  generalize strOf l = S at *
  go_enter Try.func29, Try.ntmps29
  go_wp2_with fail
  refine (C _).mono ?_
  rintro e w3 ⟨m, rfl, hm, hw3⟩
  have HW := Lib.hid (And.intro hw3 hm)
  clear C hw3 hm
  go_wp2_with fail
  go_ret
  exact ⟨by rw [← HW.out.2]; rfl, HW.out.1⟩

/-- Is it a name? -/
def namedL (s : List UInt8) : Bool := decide (s ≠ []) && decide (s.length ≤ 255) && decide (s ≠ [46]) && decide (s ≠ [46, 46]) && !s.any isLow

set_option maxRecDepth 100000 in
set_option maxHeartbeats 2000000 in
theorem named_any (s : List UInt8) (hl : s.length ≤ 1000000) (w : World) : Calls Try.prog 24 #[.string (strOf s)] w fun e w' => e = .returned (.bool (namedL s)) ∧ Below w.heap.size w w' := by
  have C := fun W => containsLow s hl W
  have E0 : ((strOf s).toList.isEmpty) = decide (s = []) := by rw [strOf_list]; cases s <;> rfl
  have E1 : ((strOf s).toList == [46]) = decide (s = [46]) := by rw [strOf_list, Bool.eq_iff_iff, beq_iff_eq, decide_eq_true_eq]
  have E2 : ((strOf s).toList == [46, 46]) = decide (s = [46, 46]) := by rw [strOf_list, Bool.eq_iff_iff, beq_iff_eq, decide_eq_true_eq]
  have hsz : (strOf s).size = s.length := strOf_size s
  have HB := Lib.hid (Below.refl w.heap.size w)
  have hN : namedL s = (decide (s ≠ []) && decide (s.length ≤ 255) && decide (s ≠ [46]) && decide (s ≠ [46, 46]) && !s.any isLow) := rfl
  generalize namedL s = N at *
  generalize strOf s = S at *
  generalize s.any isLow = L at *
  by_cases h0 : s = []
  · rw [decide_eq_true h0] at E0
    obtain rfl : N = false := by rw [hN, decide_eq_false (not_not_intro h0)]; rfl
    clear hN h0 E1 E2 C hl
    go_enter Try.func24, Try.ntmps24
    go_wp2_with fail
    go_ret
    exact ⟨rfl, HB.out⟩
  rw [decide_eq_false h0] at E0
  rw [decide_eq_true h0, Bool.true_and] at hN
  by_cases h1 : s.length ≤ 255
  case neg =>
    obtain rfl : N = false := by rw [hN, decide_eq_false h1]; rfl
    have h1' : ¬ ((s.length : Int) ≤ 255) := by omega
    clear hN h0 E1 E2 C hl h1
    go_enter Try.func24, Try.ntmps24
    go_wp2_with fail
    go_ret
    exact ⟨rfl, HB.out⟩
  rw [decide_eq_true h1, Bool.true_and] at hN
  have h1' : ((s.length : Int) ≤ 255) := by omega
  by_cases h2 : s = [46]
  · rw [decide_eq_true h2] at E1
    obtain rfl : N = false := by rw [hN, decide_eq_false (not_not_intro h2)]; rfl
    clear hN h0 E2 C hl h1 h2
    go_enter Try.func24, Try.ntmps24
    go_wp2_with fail
    go_ret
    exact ⟨rfl, HB.out⟩
  rw [decide_eq_false h2] at E1
  rw [decide_eq_true h2, Bool.true_and] at hN
  by_cases h3 : s = [46, 46]
  · rw [decide_eq_true h3] at E2
    obtain rfl : N = false := by rw [hN, decide_eq_false (not_not_intro h3)]; rfl
    clear hN h0 C hl h1 h2 h3
    go_enter Try.func24, Try.ntmps24
    go_wp2_with fail
    go_ret
    exact ⟨rfl, HB.out⟩
  rw [decide_eq_false h3] at E2
  rw [decide_eq_true h3, Bool.true_and] at hN
  subst hN
  clear h0 hl h1 h2 h3
  go_enter Try.func24, Try.ntmps24
  go_wp2_with fail
  refine (C _).mono ?_
  rintro e w3 ⟨rfl, hw3⟩
  have HW := Lib.hid hw3
  clear C hw3
  go_wp2_with fail
  go_ret
  exact ⟨rfl, HW.out⟩
end Go.Proofs.Ytbllpjphlanchaa
