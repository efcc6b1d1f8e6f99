/-
  Plain Lean: what the two sums compute, on numbers and lists of bytes.
-/
import Derived.Laws.BitsAllLaws
namespace Go.Proofs.Ytaapnjhkflpiiaa

def adStep (p : Nat × Nat) (c : UInt8) : Nat × Nat := ((p.1 + c.toNat) % 65521, (p.2 + (p.1 + c.toNat) % 65521) % 65521)
def ad (p : Nat × Nat) (l : List UInt8) : Nat × Nat := l.foldl adStep p
def adler (s : Nat) (l : List UInt8) : Nat := (ad (s % 65536, s / 65536) l).2 * 65536 + (ad (s % 65536, s / 65536) l).1

theorem take_snoc8 (l : List UInt8) (k : Nat) (h : k < l.length) : l.take (k + 1) = l.take k ++ [l[k]] := List.take_succ_eq_append_getElem h

theorem ad_take_succ (p : Nat × Nat) (l : List UInt8) (k : Nat) (h : k < l.length) : ad p (l.take (k+1)) = adStep (ad p (l.take k)) l[k] := by
  unfold ad; rw [take_snoc8 l k h, List.foldl_append]; rfl

theorem ad_lt (l : List UInt8) : ∀ p : Nat × Nat, p.1 < 65536 → p.2 < 65536 → (ad p l).1 < 65536 ∧ (ad p l).2 < 65536 := by
  induction l with
  | nil => intro p h1 h2; exact ⟨h1, h2⟩
  | cons c l ih => intro p h1 h2; exact ih _ (by simp only [adStep]; omega) (by simp only [adStep]; omega)

theorem ad_append (p : Nat × Nat) (a b : List UInt8) : ad p (a ++ b) = ad (ad p a) b := by unfold ad; rw [List.foldl_append]

/-- One bit of the CRC. -/
def crcBit (c : Nat) : Nat := c / 2 ^^^ (if c % 2 = 1 then 3988292384 else 0)
def crcBits : Nat → Nat → Nat
  | 0, c => c
  | n + 1, c => crcBits n (crcBit c)
def crcByte (c : Nat) (x : UInt8) : Nat := crcBits 8 (c ^^^ x.toNat)
def crcOf (c : Nat) (l : List UInt8) : Nat := l.foldl crcByte c
def crc (s : Nat) (l : List UInt8) : Nat := 4294967295 - crcOf (4294967295 - s) l

theorem crcOf_take_succ (c : Nat) (l : List UInt8) (k : Nat) (h : k < l.length) : crcOf c (l.take (k+1)) = crcByte (crcOf c (l.take k)) l[k] := by
  unfold crcOf; rw [take_snoc8 l k h, List.foldl_append]; rfl
theorem crcBits_succ (n c : Nat) : crcBits (n + 1) c = crcBit (crcBits n c) := by
  induction n generalizing c with
  | zero => rfl
  | succ n ih => rw [crcBits, ih]; rfl
theorem crcBit_lt (c : Nat) (h : c < 4294967296) : crcBit c < 4294967296 := by
  unfold crcBit
  refine Nat.xor_lt_two_pow (n := 32) (by omega) (by split <;> omega)
theorem crcBits_lt (n c : Nat) (h : c < 4294967296) : crcBits n c < 4294967296 := by
  induction n generalizing c with
  | zero => exact h
  | succ n ih => exact ih _ (crcBit_lt c h)
theorem xor_byte_lt (c : Nat) (x : UInt8) (h : c < 4294967296) : c ^^^ x.toNat < 4294967296 :=
  Nat.xor_lt_two_pow (n := 32) h (by have := x.toNat_lt; omega)
theorem crcByte_lt (c : Nat) (x : UInt8) (h : c < 4294967296) : crcByte c x < 4294967296 := crcBits_lt _ _ (xor_byte_lt c x h)
theorem crcOf_lt (l : List UInt8) : ∀ c, c < 4294967296 → crcOf c l < 4294967296 := by
  induction l with
  | nil => intro c h; exact h
  | cons x l ih => intro c h; exact ih _ (crcByte_lt c x h)
theorem crcOf_append (c : Nat) (a b : List UInt8) : crcOf c (a ++ b) = crcOf (crcOf c a) b := by unfold crcOf; rw [List.foldl_append]
theorem crc_lt (s : Nat) (l : List UInt8) : crc s l < 4294967296 := by unfold crc; omega
theorem adler_lt (s : Nat) (l : List UInt8) (h : s < 4294967296) : adler s l < 4294967296 := by
  have := ad_lt l (s % 65536, s / 65536) (by simp; omega) (by simp; omega)
  unfold adler; omega

/-- How the walk spells one bit. -/
theorem walk_crcBit (c : Nat) (h : c < 4294967296) :
    bits .xor .u32 ((c : Int) / 2) (bits .and .u32 3988292384 (-(bits .and .u32 c 1) % 4294967296)) = (crcBit c : Int) := by
  have e1 : bits .and .u32 (c : Int) 1 = ((c &&& 1 : Nat) : Int) := u32_and_nat c 1 h (by decide)
  rw [e1, Nat.and_one_is_mod]
  unfold crcBit
  have hc : c % 2 = 0 ∨ c % 2 = 1 := by omega
  rcases hc with hc | hc
  · rw [hc]
    have e2 : bits .and .u32 3988292384 (-((0 : Nat) : Int) % 4294967296) = ((3988292384 &&& 0 : Nat) : Int) := by
      rw [show (-((0 : Nat) : Int) % 4294967296) = ((0 : Nat) : Int) from by decide]; exact u32_and_nat 3988292384 0 (by decide) (by decide)
    rw [e2, Nat.and_zero, if_neg (by decide), show ((c : Int) / 2) = ((c / 2 : Nat) : Int) from by omega, u32_xor_nat _ _ (by omega) (by decide)]
  · rw [hc]
    have e2 : bits .and .u32 3988292384 (-((1 : Nat) : Int) % 4294967296) = ((3988292384 &&& 4294967295 : Nat) : Int) := by
      rw [show (-((1 : Nat) : Int) % 4294967296) = ((4294967295 : Nat) : Int) from by decide]; exact u32_and_nat 3988292384 4294967295 (by decide) (by decide)
    rw [e2, show 3988292384 &&& 4294967295 = 3988292384 from by decide, if_pos rfl, show ((c : Int) / 2) = ((c / 2 : Nat) : Int) from by omega, u32_xor_nat _ _ (by omega) (by decide)]

/-- How the walk spells '^x'. -/
theorem walk_not32 (c : Nat) (h : c < 4294967296) : bits .xor .u32 IntKind.u32.max (c : Int) = ((4294967295 - c : Nat) : Int) := by
  have e : IntKind.u32.max = ((4294967295 : Nat) : Int) := by decide
  rw [e, u32_xor_nat _ _ (by decide) h]
  congr 1
  have h2 : (4294967295 : Nat) ^^^ c = 4294967295 - c := by
    apply Nat.eq_of_testBit_eq
    intro i
    have e3 : (4294967295 : Nat) = 2 ^ 32 - 1 := rfl
    have e4 : 4294967295 - c = 2 ^ 32 - (c + 1) := by omega
    rw [Nat.testBit_xor, e4, Nat.testBit_two_pow_sub_succ (by simpa using h), e3, Nat.testBit_two_pow_sub_one]
    by_cases hi : i < 32
    · simp [hi]
    · have : c.testBit i = false := Nat.testBit_lt_two_pow (Nat.lt_of_lt_of_le h (by have := Nat.pow_le_pow_right (n := 2) (by decide) (show 32 ≤ i by omega); simpa using this))
      simp [hi, this]
  exact h2

theorem adler_nil (s : Nat) : adler s [] = (s / 65536) * 65536 + s % 65536 := rfl
theorem crc_nil (s : Nat) (h : s < 4294967296) : crc s [] = s := by show 4294967295 - (4294967295 - s) = s; omega

/-- The reference's bit: the lowest bits are summed, both numbers halved. -/
theorem crcBit_xor (c x : Nat) : crcBit (c ^^^ x) = (c / 2 ^^^ (if (c % 2 + x % 2) % 2 = 1 then 3988292384 else 0)) ^^^ (x / 2) := by
  unfold crcBit
  have e1 : (c ^^^ x) / 2 = c / 2 ^^^ x / 2 := by
    have h := @Nat.xor_div_two c x
    exact h
  have e2 : (c ^^^ x) % 2 = (c % 2 + x % 2) % 2 := by
    have h := @Nat.xor_mod_two_eq_one c x
    omega
  rw [e1, e2, Nat.xor_assoc, Nat.xor_assoc, Nat.xor_comm (x / 2)]

end Go.Proofs.Ytaapnjhkflpiiaa
