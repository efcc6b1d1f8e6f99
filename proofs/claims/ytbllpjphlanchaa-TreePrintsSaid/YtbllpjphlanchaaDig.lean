/-
  tree.digits: the walk.
-/
import Derived.Test.YtbllpjphlanchaaEnt
namespace Go.Proofs.Ytbllpjphlanchaa
open Go.RowKit Go.Mix Go.WideMaps

/-- A mode's digits. -/
def digs (m : Int) : List UInt8 := if m = 16384 then [52, 48, 48, 48, 48] else if m = 33188 then [49, 48, 48, 54, 52, 52] else if m = 33261 then [49, 48, 48, 55, 53, 53] else if m = 40960 then [49, 50, 48, 48, 48, 48] else if m = 57344 then [49, 54, 48, 48, 48, 48] else []

set_option maxRecDepth 100000 in
set_option maxHeartbeats 2000000 in
theorem digits_any (m : Int) (w : World) : Calls Try.prog 21 #[.int .i64 m] w fun e w' => e = .returned (.string (strOf (digs m))) ∧ w = w' := by
  by_cases h1 : m = 16384
  · subst h1
    go_enter Try.func21, Try.ntmps21
    go_wp2_with fail
    go_ret
    exact ⟨rfl, rfl⟩
  by_cases h2 : m = 33188
  · subst h2
    go_enter Try.func21, Try.ntmps21
    go_wp2_with fail
    go_ret
    exact ⟨rfl, rfl⟩
  by_cases h3 : m = 33261
  · subst h3
    go_enter Try.func21, Try.ntmps21
    go_wp2_with fail
    go_ret
    exact ⟨rfl, rfl⟩
  by_cases h4 : m = 40960
  · subst h4
    go_enter Try.func21, Try.ntmps21
    go_wp2_with fail
    go_ret
    exact ⟨rfl, rfl⟩
  by_cases h5 : m = 57344
  · subst h5
    go_enter Try.func21, Try.ntmps21
    go_wp2_with fail
    go_ret
    exact ⟨rfl, rfl⟩
  have e1 : (m == 16384) = false := by rw [beq_eq_false_iff_ne]; exact h1
  have e2 : (m == 33188) = false := by rw [beq_eq_false_iff_ne]; exact h2
  have e3 : (m == 33261) = false := by rw [beq_eq_false_iff_ne]; exact h3
  have e4 : (m == 40960) = false := by rw [beq_eq_false_iff_ne]; exact h4
  have e5 : (m == 57344) = false := by rw [beq_eq_false_iff_ne]; exact h5
  have HE := Lib.hid (show digs m = [] by unfold digs; rw [if_neg h1, if_neg h2, if_neg h3, if_neg h4, if_neg h5])
  go_enter Try.func21, Try.ntmps21
  go_wp2_with fail
  go_ret
  exact ⟨by rw [HE.out]; rfl, rfl⟩
end Go.Proofs.Ytbllpjphlanchaa
