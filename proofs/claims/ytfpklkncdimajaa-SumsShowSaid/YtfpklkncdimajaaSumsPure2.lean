/-
  Plain Lean: the CRC is linear: taken together bit by bit.
-/
import Derived.Test.YtfpklkncdimajaaSumsPure
namespace Go.Proofs.Ytfpklkncdimajaa

theorem not_xor (c : Nat) (h : c < 4294967296) : (4294967295 : Nat) ^^^ c = 4294967295 - c := by
  apply Nat.eq_of_testBit_eq
  intro i
  have e3 : (4294967295 : Nat) = 2 ^ 32 - 1 := rfl
  have e4 : 4294967295 - c = 2 ^ 32 - (c + 1) := by omega
  rw [Nat.testBit_xor, e4, Nat.testBit_two_pow_sub_succ (by simpa using h), e3, Nat.testBit_two_pow_sub_one]
  by_cases hi : i < 32
  · simp [hi]
  · have : c.testBit i = false := Nat.testBit_lt_two_pow (Nat.lt_of_lt_of_le h (by have := Nat.pow_le_pow_right (n := 2) (by decide) (show 32 ≤ i by omega); simpa using this))
    simp [hi, this]

theorem crcBit_lin (a b : Nat) : crcBit (a ^^^ b) = crcBit a ^^^ crcBit b := by
  unfold crcBit
  have h := @Nat.xor_mod_two_eq_one a b
  rw [Nat.xor_div_two]
  have ha : a % 2 = 0 ∨ a % 2 = 1 := by omega
  have hb : b % 2 = 0 ∨ b % 2 = 1 := by omega
  rcases ha with ha | ha <;> rcases hb with hb | hb <;> simp only [ha, hb] at h ⊢ <;> simp at h <;> simp [h, Nat.xor_assoc]
  · rw [Nat.xor_comm (b / 2)]
  · have e : (3988292384 : Nat) ^^^ (b / 2 ^^^ 3988292384) = (3988292384 ^^^ 3988292384) ^^^ (b / 2) := by ac_rfl
    rw [e, Nat.xor_self, Nat.zero_xor]

theorem crcBits_lin (n a b : Nat) : crcBits n (a ^^^ b) = crcBits n a ^^^ crcBits n b := by
  induction n generalizing a b with
  | zero => rfl
  | succ n ih => simp only [crcBits]; rw [crcBit_lin, ih]

theorem xor_swap (a b c d : Nat) : (a ^^^ b) ^^^ (c ^^^ d) = (a ^^^ c) ^^^ (b ^^^ d) := by
  rw [Nat.xor_assoc, Nat.xor_assoc, ← Nat.xor_assoc b, Nat.xor_comm b, Nat.xor_assoc]

theorem crcByte_lin (a b : Nat) (x y : UInt8) : crcByte (a ^^^ b) (x ^^^ y) = crcByte a x ^^^ crcByte b y := by
  unfold crcByte
  rw [UInt8.toNat_xor, xor_swap, crcBits_lin]

theorem crcOf_snoc (c : Nat) (l : List UInt8) (x : UInt8) : crcOf c (l ++ [x]) = crcByte (crcOf c l) x := by unfold crcOf; rw [List.foldl_append]; rfl

/-- The first k bytes of the three, taken together. -/
def tog (L L' L'' : List UInt8) (k : Nat) : List UInt8 := (List.range k).map fun j => L.getD j 0 ^^^ L'.getD j 0 ^^^ L''.getD j 0
theorem tog_succ (L L' L'' : List UInt8) (k : Nat) : tog L L' L'' (k + 1) = tog L L' L'' k ++ [L.getD k 0 ^^^ L'.getD k 0 ^^^ L''.getD k 0] := by
  unfold tog; rw [List.range_succ, List.map_append]; rfl
theorem tog_length (L L' L'' : List UInt8) (k : Nat) : (tog L L' L'' k).length = k := by simp [tog]

theorem take_succ_getD (L : List UInt8) (k : Nat) (h : k < L.length) : L.take (k + 1) = L.take k ++ [L.getD k 0] := by
  rw [take_snoc8 L k h, List.getD_eq_getElem?_getD, List.getElem?_eq_getElem h]; rfl

theorem crcOf_tog (L L' L'' : List UInt8) (c c' c'' : Nat) (k : Nat) (h : k ≤ L.length) (h' : k ≤ L'.length) (h'' : k ≤ L''.length) :
    crcOf (c ^^^ c' ^^^ c'') (tog L L' L'' k) = crcOf c (L.take k) ^^^ crcOf c' (L'.take k) ^^^ crcOf c'' (L''.take k) := by
  induction k with
  | zero => simp [tog, crcOf]
  | succ k ih =>
    rw [tog_succ, crcOf_snoc, ih (by omega) (by omega) (by omega), take_succ_getD L k h, take_succ_getD L' k h', take_succ_getD L'' k h'', crcOf_snoc, crcOf_snoc, crcOf_snoc, crcByte_lin, crcByte_lin]

theorem xor3 (m a b c : Nat) : (m ^^^ a) ^^^ (m ^^^ b) ^^^ (m ^^^ c) = m ^^^ (a ^^^ b ^^^ c) := by
  have e : (m ^^^ a) ^^^ (m ^^^ b) ^^^ (m ^^^ c) = (m ^^^ m) ^^^ (m ^^^ (a ^^^ b ^^^ c)) := by ac_rfl
  rw [e, Nat.xor_self, Nat.zero_xor]

theorem crc_tog (L L' L'' : List UInt8) (k : Nat) (h : k ≤ L.length) (h' : k ≤ L'.length) (h'' : k ≤ L''.length) :
    crc 0 (L.take k) ^^^ crc 0 (L'.take k) ^^^ crc 0 (L''.take k) = crc 0 (tog L L' L'' k) := by
  have e := crcOf_tog L L' L'' 4294967295 4294967295 4294967295 k h h' h''
  have e2 : (4294967295 : Nat) ^^^ 4294967295 ^^^ 4294967295 = 4294967295 := by decide
  rw [e2] at e
  have a1 := crcOf_lt (L.take k) 4294967295 (by decide)
  have a2 := crcOf_lt (L'.take k) 4294967295 (by decide)
  have a3 := crcOf_lt (L''.take k) 4294967295 (by decide)
  have a4 := crcOf_lt (tog L L' L'' k) 4294967295 (by decide)
  show (4294967295 - crcOf 4294967295 _) ^^^ (4294967295 - crcOf 4294967295 _) ^^^ (4294967295 - crcOf 4294967295 _) = 4294967295 - crcOf 4294967295 _
  rw [← not_xor _ a1, ← not_xor _ a2, ← not_xor _ a3, ← not_xor _ a4, e, xor3]

/-- The walk's spelling. -/
theorem walk_tog (L L' L'' : List UInt8) (k : Nat) (h : k ≤ L.length) (h' : k ≤ L'.length) (h'' : k ≤ L''.length) :
    bits .xor .u32 (bits .xor .u32 (crc 0 (L.take k) : Int) (crc 0 (L'.take k) : Int)) (crc 0 (L''.take k) : Int) = (crc 0 (tog L L' L'' k) : Int) := by
  rw [u32_xor_nat _ _ (crc_lt _ _) (crc_lt _ _), u32_xor_nat _ _ (Nat.xor_lt_two_pow (n := 32) (crc_lt _ _) (crc_lt _ _)) (crc_lt _ _), crc_tog L L' L'' k h h' h'']

end Go.Proofs.Ytfpklkncdimajaa
