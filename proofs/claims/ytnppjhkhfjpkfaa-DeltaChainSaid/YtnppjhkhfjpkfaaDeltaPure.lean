/-
  Plain Lean: what a delta's bytes tell.
-/
import Derived.Test.YtnppjhkhfjpkfaaLebPure
namespace Go.Proofs.Ytnppjhkhfjpkfaa

/-- Both sizes, where the steps begin, the error. -/
def sizesOf (d : List UInt8) : Nat × Nat × Nat × Nat :=
  if (leb d).2.2 ≠ 0 then (0, 0, 0, (leb d).2.2)
  else if (leb (d.drop (leb d).2.1)).2.2 ≠ 0 then (0, 0, 0, (leb (d.drop (leb d).2.1)).2.2)
  else ((leb d).1, (leb (d.drop (leb d).2.1)).1, (leb d).2.1 + (leb (d.drop (leb d).2.1)).2.1, 0)

theorem sizesOf_bounds (d : List UInt8) : (sizesOf d).1 < 4611686018427387904 ∧ (sizesOf d).2.1 < 4611686018427387904 ∧ (sizesOf d).2.2.1 ≤ d.length ∧ (sizesOf d).2.2.2 ≤ 3 := by
  have h1 := leb_bounds d
  have h2 := leb_bounds (d.drop (leb d).2.1)
  rw [List.length_drop] at h2
  unfold sizesOf
  split
  · simp; omega
  · split
    · simp; omega
    · simp; omega

/-- A copy's place, size and how many bytes told them, behind i of its seven bits. -/
def tk (c : Nat) (d : List UInt8) : Nat → Option (Nat × Nat × Nat)
  | 0 => some (0, 0, 0)
  | i + 1 => match tk c d i with
    | none => none
    | some (p, s, n) => if c / 2 ^ i % 2 = 0 then some (p, s, n) else if d.length ≤ n then none
      else if i < 4 then some (p + (d.getD n 0).toNat * 2 ^ (8 * i), s, n + 1) else some (p, s + (d.getD n 0).toNat * 2 ^ (8 * (i - 4)), n + 1)

theorem tk_bounds (c : Nat) (d : List UInt8) : ∀ i p s n, tk c d i = some (p, s, n) → p < 2 ^ (8 * min i 4) ∧ s < 2 ^ (8 * (i - 4)) ∧ n ≤ i ∧ n ≤ d.length := by
  intro i
  induction i with
  | zero => intro p s n h; simp [tk] at h; obtain ⟨rfl, rfl, rfl⟩ := h; simp
  | succ i ih =>
    intro p s n h
    rw [tk] at h
    cases hp : tk c d i with
    | none => rw [hp] at h; cases h
    | some x =>
      obtain ⟨p', s', n'⟩ := x
      rw [hp] at h
      simp only at h
      obtain ⟨h1, h2, h3, h4⟩ := ih p' s' n' hp
      have hb := (d.getD n' 0).toNat_lt
      have m1 : 2 ^ (8 * min i 4) ≤ 2 ^ (8 * min (i + 1) 4) := Nat.pow_le_pow_right (by decide) (by omega)
      have m2 : 2 ^ (8 * (i - 4)) ≤ 2 ^ (8 * (i + 1 - 4)) := Nat.pow_le_pow_right (by decide) (by omega)
      split at h
      · simp at h; obtain ⟨rfl, rfl, rfl⟩ := h; exact ⟨by omega, by omega, by omega, h4⟩
      · split at h
        · cases h
        · split at h
          · rename_i h4'
            simp at h; obtain ⟨rfl, rfl, rfl⟩ := h
            refine ⟨?_, by omega, by omega, by omega⟩
            have e1 : min i 4 = i := by omega
            have e2 : min (i + 1) 4 = i + 1 := by omega
            rw [e1] at h1; rw [e2, Nat.mul_add, Nat.pow_add]
            have h5 : (d.getD n' 0).toNat * 2 ^ (8 * i) ≤ 255 * 2 ^ (8 * i) := Nat.mul_le_mul_right _ (by omega)
            simp only [List.getD_eq_getElem?_getD] at h5
            omega
          · rename_i h4'
            simp at h; obtain ⟨rfl, rfl, rfl⟩ := h
            refine ⟨by omega, ?_, by omega, by omega⟩
            have e1 : i + 1 - 4 = (i - 4) + 1 := by omega
            rw [e1, Nat.mul_add, Nat.pow_add]
            have h5 : (d.getD n' 0).toNat * 2 ^ (8 * (i - 4)) ≤ 255 * 2 ^ (8 * (i - 4)) := Nat.mul_le_mul_right _ (by omega)
            simp only [List.getD_eq_getElem?_getD] at h5
            omega

/-- A copy's place and size, and how many bytes told them; none: they end. -/
def takenOf (c : Nat) (d : List UInt8) : Option (Nat × Nat × Nat) :=
  match tk c d 7 with
  | none => none
  | some (p, s, n) => some (p, if s = 0 then 65536 else s, n)

theorem takenOf_bounds (c : Nat) (d : List UInt8) (p s n : Nat) (h : takenOf c d = some (p, s, n)) : p < 4294967296 ∧ s < 16777216 ∧ 1 ≤ s ∧ n ≤ 7 ∧ n ≤ d.length := by
  unfold takenOf at h
  cases hp : tk c d 7 with
  | none => rw [hp] at h; cases h
  | some x =>
    obtain ⟨p', s', n'⟩ := x
    rw [hp] at h
    simp at h
    obtain ⟨rfl, rfl, rfl⟩ := h
    obtain ⟨h1, h2, h3, h4⟩ := tk_bounds c d 7 _ _ _ hp
    simp at h1 h2
    refine ⟨h1, ?_, ?_, h3, h4⟩
    · split <;> omega
    · split <;> omega

/-- The steps behind the sizes: what is there, or the first error. 'f': fuel, one a step. -/
def steps (base : List UInt8) (b : Nat) : Nat → List UInt8 → List UInt8 → List UInt8 × Nat
  | 0, _, _ => ([], 4)
  | f + 1, d, out => match d with
    | [] => if out.length = b then (out, 0) else ([], 4)
    | c :: r =>
      if c.toNat = 0 then ([], 4)
      else if c.toNat < 128 then
        if r.length < c.toNat then ([], 3)
        else if b < out.length + c.toNat then ([], 4)
        else steps base b f (r.drop c.toNat) (out ++ r.take c.toNat)
      else match takenOf c.toNat r with
        | none => ([], 3)
        | some (p, s, n) =>
          if base.length < p + s then ([], 4)
          else if b < out.length + s then ([], 4)
          else steps base b f (r.drop n) (out ++ (base.drop p).take s)

def applyOf (base d : List UInt8) (most : Int) : List UInt8 × Nat :=
  if (sizesOf d).2.2.2 ≠ 0 then ([], (sizesOf d).2.2.2)
  else if (sizesOf d).1 ≠ base.length then ([], 4)
  else if most < ((sizesOf d).2.1 : Int) then ([], 2)
  else steps base (sizesOf d).2.1 (d.length + 1) (d.drop (sizesOf d).2.2.1) []

end Go.Proofs.Ytnppjhkhfjpkfaa
