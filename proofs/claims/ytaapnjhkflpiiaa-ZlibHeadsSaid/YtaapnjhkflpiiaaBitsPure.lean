/-
  Plain Lean: bits as a row, and the bytes that hold them.
-/
import Derived.Test.YtaapnjhkflpiiaaInfPure
namespace Go.Proofs.Ytaapnjhkflpiiaa

def byteB (bs : List Nat) (j : Nat) : Nat → Nat
  | 0 => 0
  | i + 1 => byteB bs j i + bs.getD (8 * j + i) 0 * 2 ^ i
/-- The bytes of a row of bits, the lowest of each byte first. -/
def packB (bs : List Nat) : List UInt8 := (List.range ((bs.length + 7) / 8)).map fun j => UInt8.ofNat (byteB bs j 8)

def IsBits (bs : List Nat) : Prop := ∀ x ∈ bs, x < 2

theorem IsBits.getD {bs : List Nat} (h : IsBits bs) (i : Nat) : bs.getD i 0 < 2 := by
  rw [List.getD_eq_getElem?_getD]
  cases e : bs[i]? with
  | none => simp
  | some x => exact h x (List.mem_of_getElem? e)

theorem packB_len (bs : List Nat) : (packB bs).length = (bs.length + 7) / 8 := by simp [packB]

theorem byteB_lt (bs : List Nat) (h : IsBits bs) (j : Nat) : ∀ i, byteB bs j i < 2 ^ i := by
  intro i
  induction i with
  | zero => simp [byteB]
  | succ i ih =>
    rw [byteB, Nat.pow_succ]
    have h1 : bs.getD (8 * j + i) 0 * 2 ^ i ≤ 1 * 2 ^ i := Nat.mul_le_mul_right _ (by have := h.getD (8 * j + i); omega)
    omega

theorem byteB_bit (bs : List Nat) (h : IsBits bs) (j : Nat) : ∀ n i, i < n → byteB bs j n / 2 ^ i % 2 = bs.getD (8 * j + i) 0 := by
  intro n
  induction n with
  | zero => intro i hi; omega
  | succ n ih =>
    intro i hi
    have hb := h.getD (8 * j + n)
    rw [byteB]
    rcases Nat.lt_or_ge i n with h1 | h1
    · rw [← ih i h1]
      have e : 2 ^ n = 2 ^ i * (2 * 2 ^ (n - i - 1)) := by
        rw [← Nat.pow_succ', ← Nat.pow_add]; congr 1; omega
      rw [e, ← Nat.mul_assoc, Nat.mul_comm (bs.getD (8 * j + n) 0), Nat.mul_assoc, Nat.add_mul_div_left _ _ (Nat.pow_pos (by decide)),
        show bs.getD (8 * j + n) 0 * (2 * 2 ^ (n - i - 1)) = 2 * (bs.getD (8 * j + n) 0 * 2 ^ (n - i - 1)) from by rw [Nat.mul_left_comm]]
      omega
    · obtain rfl : i = n := by omega
      have h2 := byteB_lt bs h j i
      rw [Nat.add_mul_div_right _ _ (Nat.pow_pos (by decide)), Nat.div_eq_of_lt h2]
      omega

theorem packB_getD (bs : List Nat) (j : Nat) (hj : j < (bs.length + 7) / 8) : (packB bs).getD j 0 = UInt8.ofNat (byteB bs j 8) := by
  unfold packB
  rw [List.getD_eq_getElem?_getD, List.getElem?_map, List.getElem?_range hj]; rfl

/-- What was laid down is read. -/
theorem bitAt_packB (bs : List Nat) (h : IsBits bs) (i : Nat) (hi : i < bs.length) : bitAt (packB bs) i = bs.getD i 0 := by
  unfold bitAt
  rw [packB_getD bs (i / 8) (by omega)]
  have h1 := byteB_lt bs h (i / 8) 8
  have e : (UInt8.ofNat (byteB bs (i / 8) 8)).toNat = byteB bs (i / 8) 8 := by simp at h1 ⊢; omega
  rw [e, byteB_bit bs h (i / 8) 8 (i % 8) (by omega), show 8 * (i / 8) + i % 8 = i from by omega]

/-- The next bits of d from p on are X. -/
def Has (d : List UInt8) (p : Nat) (X : List Nat) : Prop := p + X.length ≤ 8 * d.length ∧ ∀ i, i < X.length → bitAt d (p + i) = X.getD i 0

theorem Has.left {d : List UInt8} {p : Nat} {X Y : List Nat} (h : Has d p (X ++ Y)) : Has d p X :=
  ⟨by have := h.1; simp at this; omega, fun i hi => by rw [h.2 i (by simp; omega), getD_app _ _ _ _ hi]⟩
theorem Has.right {d : List UInt8} {p : Nat} {X Y : List Nat} (h : Has d p (X ++ Y)) : Has d (p + X.length) Y :=
  ⟨by have := h.1; simp at this; omega, fun i hi => by
    rw [Nat.add_assoc, h.2 (X.length + i) (by simp; omega), getD_app_right _ _ _ _ (by omega)]; congr 1; omega⟩

theorem has_packB (bs : List Nat) (h : IsBits bs) : Has (packB bs) 0 bs :=
  ⟨by rw [packB_len]; omega, fun i hi => by rw [Nat.zero_add]; exact bitAt_packB bs h i hi⟩

/-- A number of n bits, the lowest first. -/
def numBits (k : Nat) : Nat → List Nat
  | 0 => []
  | n + 1 => numBits k n ++ [k / 2 ^ n % 2]
theorem numBits_len (k n : Nat) : (numBits k n).length = n := by induction n with
  | zero => rfl
  | succ n ih => simp [numBits, ih]
theorem numBits_getD (k : Nat) : ∀ n i, i < n → (numBits k n).getD i 0 = k / 2 ^ i % 2 := by
  intro n
  induction n with
  | zero => intro i h; omega
  | succ n ih =>
    intro i h
    rw [numBits]
    rcases Nat.lt_or_ge i n with h1 | h1
    · rw [getD_app _ _ _ _ (by rw [numBits_len]; exact h1), ih i h1]
    · obtain rfl : i = n := by omega
      rw [getD_app_right _ _ _ _ (by rw [numBits_len]; omega), numBits_len]; simp
theorem numBits_isBits (k n : Nat) : IsBits (numBits k n) := by
  induction n with
  | zero => intro x h; cases h
  | succ n ih =>
    intro x h
    rw [numBits] at h
    rcases List.mem_append.1 h with h | h
    · exact ih x h
    · rw [List.mem_singleton.1 h]; exact Nat.mod_lt _ (by decide)

theorem numAt_mod (d : List UInt8) (p k : Nat) : ∀ n, (∀ i, i < n → bitAt d (p + i) = k / 2 ^ i % 2) → numAt d p n = k % 2 ^ n := by
  intro n
  induction n with
  | zero => intro _; simp [numAt, Nat.mod_one]
  | succ n ih =>
    intro h
    rw [numAt, ih (fun i hi => h i (by omega)), h n (by omega), Nat.pow_succ, Nat.mod_mul, Nat.mul_comm (2 ^ n)]

theorem numR_has {d : List UInt8} {p k n : Nat} (h : Has d p (numBits k n)) : numR d n p = .ok (k % 2 ^ n, p + n) := by
  have h1 := h.1
  rw [numBits_len] at h1
  unfold numR
  rw [if_pos h1, numAt_mod d p k n (fun i hi => by rw [h.2 i (by rw [numBits_len]; exact hi), numBits_getD k n i hi])]

theorem byteB_congr (bs cs : List Nat) (j : Nat) : ∀ n, (∀ i, i < n → bs.getD (8 * j + i) 0 = cs.getD (8 * j + i) 0) → byteB bs j n = byteB cs j n := by
  intro n
  induction n with
  | zero => intro _; rfl
  | succ n ih => intro h; rw [byteB, byteB, ih (fun i hi => h i (by omega)), h n (by omega)]

theorem getD_out (bs : List Nat) (i : Nat) (h : bs.length ≤ i) : bs.getD i 0 = 0 := by
  rw [List.getD_eq_getElem?_getD, List.getElem?_eq_none h]; rfl

theorem byteB_end (bs : List Nat) (j m : Nat) (h : bs.length ≤ 8 * j + m) : ∀ n, m ≤ n → byteB bs j n = byteB bs j m := by
  intro n hn
  induction n with
  | zero => obtain rfl : m = 0 := by omega
            rfl
  | succ n ih =>
    rcases Nat.lt_or_ge m (n + 1) with h1 | h1
    · rw [byteB, getD_out bs _ (by omega), ih (by omega)]; omega
    · obtain rfl : m = n + 1 := by omega
      rfl

/-- The bytes, with room for one bit more. -/
def roomB (bs : List Nat) : List UInt8 := if bs.length % 8 = 0 then packB bs ++ [0] else packB bs

theorem roomB_len (bs : List Nat) : (roomB bs).length = bs.length / 8 + 1 := by
  unfold roomB
  split
  · rw [List.length_append, packB_len]; simp; omega
  · rw [packB_len]; omega

theorem roomB_getD (bs : List Nat) (j : Nat) (hj : j < bs.length / 8 + 1) : (roomB bs).getD j 0 = UInt8.ofNat (byteB bs j 8) := by
  unfold roomB
  split
  · rename_i h
    rcases Nat.lt_or_ge j (bs.length / 8) with h1 | h1
    · rw [getD_app _ _ _ _ (by rw [packB_len]; omega), packB_getD bs j (by omega)]
    · rw [getD_app_right _ _ _ _ (by rw [packB_len]; omega), packB_len, byteB_end bs j 0 (by omega) 8 (by omega), show j - (bs.length + 7) / 8 = 0 from by omega]
      rfl
  · exact packB_getD bs j (by omega)

theorem packB_snoc (bs : List Nat) (h : IsBits bs) (x : Nat) (hx : x < 2) :
    packB (bs ++ [x]) = (roomB bs).set (bs.length / 8) (UInt8.ofNat (byteB bs (bs.length / 8) (bs.length % 8) + x * 2 ^ (bs.length % 8))) ∧
    ((roomB bs).getD (bs.length / 8) 0).toNat = byteB bs (bs.length / 8) (bs.length % 8) ∧
    byteB bs (bs.length / 8) (bs.length % 8) ||| x * 2 ^ (bs.length % 8) = byteB bs (bs.length / 8) (bs.length % 8) + x * 2 ^ (bs.length % 8) ∧ byteB bs (bs.length / 8) (bs.length % 8) + x * 2 ^ (bs.length % 8) < 256 := by
  have hlt := byteB_lt bs h (bs.length / 8) (bs.length % 8)
  have hx2 : x * 2 ^ (bs.length % 8) ≤ 1 * 2 ^ (bs.length % 8) := Nat.mul_le_mul_right _ (by omega)
  have h8 : 2 ^ (bs.length % 8) * 2 ≤ 256 := by
    have h1 : 2 ^ (bs.length % 8) * 2 = 2 ^ (bs.length % 8 + 1) := by rw [Nat.pow_succ]
    rw [h1]
    exact Nat.pow_le_pow_right (by decide) (show bs.length % 8 + 1 ≤ 8 by omega)
  refine ⟨?_, ?_, ?_, by omega⟩
  · refine List.ext_getElem (by rw [packB_len, List.length_set, roomB_len]; simp; omega) fun j hj hj2 => ?_
    rw [packB_len] at hj
    simp only [List.length_append, List.length_singleton] at hj
    have e1 : (packB (bs ++ [x]))[j]'(by rw [packB_len]; simpa using hj) = UInt8.ofNat (byteB (bs ++ [x]) j 8) := by
      have := packB_getD (bs ++ [x]) j (by simpa using hj)
      rw [List.getD_eq_getElem?_getD, List.getElem?_eq_getElem (by rw [packB_len]; simpa using hj)] at this
      exact this
    rw [e1, List.getElem_set]
    split
    · rename_i hji
      subst hji
      congr 1
      rw [byteB_end (bs ++ [x]) (bs.length / 8) (bs.length % 8 + 1) (by simp; omega) 8 (by omega), byteB, byteB_congr (bs ++ [x]) bs _ _ (fun i hi => getD_app _ _ _ _ (by omega)),
        getD_app_right _ _ _ _ (by omega), show 8 * (bs.length / 8) + bs.length % 8 - bs.length = 0 from by omega]
      rfl
    · rename_i hji
      have hj3 : j < bs.length / 8 + 1 := by omega
      have e2 := roomB_getD bs j hj3
      rw [List.getD_eq_getElem?_getD, List.getElem?_eq_getElem (by rw [roomB_len]; exact hj3)] at e2
      simp only [Option.getD_some] at e2
      rw [e2, byteB_congr (bs ++ [x]) bs _ _ (fun i hi => getD_app _ _ _ _ (by omega))]
  · rw [roomB_getD bs _ (by omega), byteB_end bs (bs.length / 8) (bs.length % 8) (by omega) 8 (by omega)]
    simp; omega
  · have e : x * 2 ^ (bs.length % 8) = x <<< (bs.length % 8) := by rw [Nat.shiftLeft_eq]
    rw [e, Nat.or_comm, ← Nat.shiftLeft_add_eq_or_of_lt hlt, Nat.add_comm]

theorem IsBits.snoc {bs : List Nat} (h : IsBits bs) {x : Nat} (hx : x < 2) : IsBits (bs ++ [x]) := by
  intro y hy
  rcases List.mem_append.1 hy with h1 | h1
  · exact h y h1
  · rw [List.mem_singleton.1 h1]; exact hx
theorem IsBits.app {a b : List Nat} (h : IsBits a) (k : IsBits b) : IsBits (a ++ b) := by
  intro y hy
  rcases List.mem_append.1 hy with h1 | h1
  · exact h y h1
  · exact k y h1

end Go.Proofs.Ytaapnjhkflpiiaa
