/-
  A manifest's files out of a text: plain.
-/
import Derived.Test.YtifoledkmjlmoaaDoorNextM
namespace Go.Proofs.YtifoledkmjlmoaaDoor
open Go.RowKit Go.Mix Go.WideMaps

noncomputable def readM : Nat → List UInt8 → Option (List MFile)
  | _, [] => some []
  | 0, _ :: _ => none
  | n + 1, c :: s => match stepP (c :: s) with
    | none => none
    | some (f, r) => (readM n r).map (f :: ·)
theorem stepP_len {s r : List UInt8} {f : MFile} (h : stepP s = some (f, r)) : r.length < s.length ∧ f.path.length ≤ s.length ∧ f.flag.length ≤ s.length := by
  unfold stepP at h
  split at h
  · next hc =>
    rw [Bool.and_eq_true] at hc
    split at h
    · simp only [Option.some.injEq, Prod.mk.injEq] at h
      obtain ⟨rfl, rfl⟩ := h
      have h1 := cutA_len s 10
      have h2 := cutA_len (cutA s 10) 0
      have h3 := (cutB_len (cutA s 10) 0).1
      refine ⟨(cutB_len s 10).2 hc.1, by show (cutA (cutA s 10) 0).length ≤ _; omega, by show ((cutB (cutA s 10) 0).drop 40).length ≤ _; rw [List.length_drop]; omega⟩
    · cases h
  · cases h
theorem readM_fuel : ∀ (n m : Nat) (s : List UInt8), s.length ≤ n → s.length ≤ m → readM n s = readM m s := by
  intro n
  induction n with
  | zero => intro m s h1 h2; cases s with
    | nil => unfold readM; rfl
    | cons => simp at h1
  | succ n ih =>
    intro m s h1 h2
    cases s with
    | nil => unfold readM; rfl
    | cons c s =>
      cases m with
      | zero => simp at h2
      | succ m =>
        simp only [readM]
        cases h : stepP (c :: s) with
        | none => rfl
        | some x =>
          obtain ⟨f, r⟩ := x
          have := (stepP_len h).1
          simp only [List.length_cons] at this h1 h2
          simp only
          rw [ih m r (by omega) (by omega)]
theorem readM_none {s : List UInt8} (h0 : s ≠ []) (h : stepP s = none) : readM s.length s = none := by
  cases s with
  | nil => exact absurd rfl h0
  | cons c s => simp only [List.length_cons, readM, h]
theorem stepP_nil {r : List UInt8} {f : MFile} : stepP [] ≠ some (f, r) := fun h => by have := (stepP_len h).1; simp at this
theorem readM_some {s r : List UInt8} {f : MFile} (h : stepP s = some (f, r)) : readM s.length s = (readM r.length r).map (f :: ·) := by
  cases s with
  | nil => exact absurd h stepP_nil
  | cons c s =>
    have h1 := (stepP_len h).1
    simp only [List.length_cons, readM, h]
    rw [readM_fuel s.length r.length r (by simpa using Nat.lt_succ_iff.1 h1) (Nat.le_refl _)]
end Go.Proofs.YtifoledkmjlmoaaDoor
