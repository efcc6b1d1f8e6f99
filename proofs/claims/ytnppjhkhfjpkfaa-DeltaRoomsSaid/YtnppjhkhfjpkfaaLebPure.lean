/-
  Plain Lean: numbers in rows of seven bits.
-/
import Derived.Test.YtnppjhkhfjpkfaaBase
namespace Go.Proofs.Ytnppjhkhfjpkfaa

/-- The number, how many bytes told it, the error (0: none). -/
def lebGo : List UInt8 → Nat → Nat → Nat × Nat × Nat
  | [], _, _ => (0, 0, 3)
  | c :: r, i, k =>
    if i = 12 ∨ (0 < c.toNat % 128 ∧ 4611686018427387904 ≤ (c.toNat % 128) * 2 ^ (7 * i)) then (0, 0, 2)
    else if c.toNat < 128 then (k + (c.toNat % 128) * 2 ^ (7 * i), i + 1, 0)
    else lebGo r (i + 1) (k + (c.toNat % 128) * 2 ^ (7 * i))
def leb (l : List UInt8) : Nat × Nat × Nat := lebGo l 0 0

/-- May this row of seven be taken at place i? -/
def okSeven (s i : Nat) : Bool := !(decide (0 < s) && decide (4611686018427387904 ≤ s * 2 ^ (7 * i)))

theorem lebGo_nil (i k : Nat) : lebGo [] i k = (0, 0, 3) := rfl
theorem lebGo_cons (c : UInt8) (r : List UInt8) (i k : Nat) : lebGo (c :: r) i k =
    if i = 12 ∨ okSeven (c.toNat % 128) i = false then (0, 0, 2)
    else if c.toNat < 128 then (k + (c.toNat % 128) * 2 ^ (7 * i), i + 1, 0) else lebGo r (i + 1) (k + (c.toNat % 128) * 2 ^ (7 * i)) := by
  rw [lebGo]
  have e : (okSeven (c.toNat % 128) i = false) ↔ (0 < c.toNat % 128 ∧ 4611686018427387904 ≤ (c.toNat % 128) * 2 ^ (7 * i)) := by
    simp [okSeven]
  simp only [e]

theorem seven_lt (s i k : Nat) (hs : s < 128) (hk : k < 2 ^ (7 * i)) : k + s * 2 ^ (7 * i) < 2 ^ (7 * (i + 1)) := by
  have h1 : 2 ^ (7 * (i + 1)) = 128 * 2 ^ (7 * i) := by rw [Nat.mul_add, Nat.pow_add]; omega
  have h2 : s * 2 ^ (7 * i) ≤ 127 * 2 ^ (7 * i) := Nat.mul_le_mul_right _ (by omega)
  omega

theorem seven_small (s i : Nat) (h : okSeven s i = true) : s * 2 ^ (7 * i) < 4611686018427387904 := by
  simp only [okSeven, Bool.not_eq_true', Bool.and_eq_false_iff, decide_eq_false_iff_not] at h
  rcases h with h | h
  · obtain rfl : s = 0 := by omega
    simp
  · omega

/-- What was summed so far, and the next seven, stay below 2^62. -/
theorem seven_bound (s i k : Nat) (hs : s < 128) (hi : i ≤ 11) (hk : k < 2 ^ (7 * i)) (hk2 : k < 4611686018427387904) (h : okSeven s i = true) : k + s * 2 ^ (7 * i) < 4611686018427387904 := by
  have h1 := seven_small s i h
  by_cases h0 : s = 0
  · subst h0; simpa using hk2
  · by_cases hb : 7 * i ≤ 62
    · have e : (4611686018427387904 : Nat) = 2 ^ (62 - 7 * i) * 2 ^ (7 * i) := by rw [← Nat.pow_add, show 62 - 7 * i + 7 * i = 62 from by omega]
      rw [e] at h1 ⊢
      have h2 : s < 2 ^ (62 - 7 * i) := Nat.lt_of_mul_lt_mul_right h1
      have h3 : (s + 1) * 2 ^ (7 * i) ≤ 2 ^ (62 - 7 * i) * 2 ^ (7 * i) := Nat.mul_le_mul_right _ h2
      rw [Nat.add_mul] at h3
      omega
    · have h2 : 2 ^ 62 ≤ 2 ^ (7 * i) := Nat.pow_le_pow_right (by decide) (by omega)
      have h3 : 1 * 2 ^ (7 * i) ≤ s * 2 ^ (7 * i) := Nat.mul_le_mul_right _ (by omega)
      have h4 : (2 : Nat) ^ 62 = 4611686018427387904 := by decide
      omega

theorem lebGo_bounds (l : List UInt8) : ∀ i k, i ≤ 12 → k < 2 ^ (7 * i) → k < 4611686018427387904 →
    (lebGo l i k).1 < 4611686018427387904 ∧ (lebGo l i k).2.1 ≤ i + l.length ∧ (lebGo l i k).2.2 ≤ 3 ∧ ((lebGo l i k).2.2 ≠ 0 → (lebGo l i k).1 = 0 ∧ (lebGo l i k).2.1 = 0) := by
  induction l with
  | nil => intro i k _ _ _; simp [lebGo_nil]
  | cons c r ih =>
    intro i k hi hk hk2
    rw [lebGo_cons]
    by_cases h1 : i = 12 ∨ okSeven (c.toNat % 128) i = false
    · rw [if_pos h1]; simp
    · rw [if_neg h1]
      have hi' : i ≤ 11 := by omega
      have hok : okSeven (c.toNat % 128) i = true := by
        cases h : okSeven (c.toNat % 128) i with
        | true => rfl
        | false => exact absurd (.inr h) h1
      have hb := seven_bound (c.toNat % 128) i k (by omega) hi' hk hk2 hok
      by_cases h2 : c.toNat < 128
      · rw [if_pos h2]; simp; omega
      · rw [if_neg h2]
        have h3 := ih (i + 1) _ (by omega) (seven_lt _ i k (by omega) hk) hb
        simp only [List.length_cons]
        omega

theorem leb_bounds (l : List UInt8) : (leb l).1 < 4611686018427387904 ∧ (leb l).2.1 ≤ l.length ∧ (leb l).2.2 ≤ 3 ∧ ((leb l).2.2 ≠ 0 → (leb l).1 = 0 ∧ (leb l).2.1 = 0) := by
  have h := lebGo_bounds l 0 0 (by decide) (by decide) (by decide)
  simpa [leb] using h

end Go.Proofs.Ytnppjhkhfjpkfaa
