/-
  Plain Lean: what a change shows: a change within up to four bytes that stand together changes the CRC, a change of one byte changes Adler's sum.
-/
import Derived.Test.YtfpklkncdimajaaSumsPure2
namespace Go.Proofs.Ytfpklkncdimajaa

theorem crcBit_inj (a b : Nat) (ha : a < 4294967296) (hb : b < 4294967296) (h : crcBit a = crcBit b) : a = b := by
  unfold crcBit at h
  have hx : ∀ x y : Nat, x < 2147483648 → y < 2147483648 → x ^^^ 3988292384 = y → False := fun x y hx hy e => by
    have e2 : x ^^^ y = 3988292384 := by rw [← e, ← Nat.xor_assoc, Nat.xor_self, Nat.zero_xor]
    have := Nat.xor_lt_two_pow (n := 31) hx hy
    omega
  have ea : a % 2 = 0 ∨ a % 2 = 1 := by omega
  have eb : b % 2 = 0 ∨ b % 2 = 1 := by omega
  rcases ea with ea | ea <;> rcases eb with eb | eb <;> simp only [ea, eb] at h <;> simp at h
  · omega
  · exact (hx _ _ (by omega) (by omega) h.symm).elim
  · exact (hx _ _ (by omega) (by omega) h).elim
  · have e2 : (a / 2 ^^^ 3988292384) ^^^ 3988292384 = (b / 2 ^^^ 3988292384) ^^^ 3988292384 := by rw [h]
    rw [Nat.xor_assoc, Nat.xor_assoc, Nat.xor_self, Nat.xor_zero, Nat.xor_zero] at e2
    omega

theorem crcBits_inj (n : Nat) : ∀ a b : Nat, a < 4294967296 → b < 4294967296 → crcBits n a = crcBits n b → a = b := by
  induction n with
  | zero => intro a b _ _ h; exact h
  | succ n ih => intro a b ha hb h; exact crcBit_inj a b ha hb (ih _ _ (crcBit_lt a ha) (crcBit_lt b hb) h)

theorem xor_right_inj (a b x : Nat) (h : a ^^^ x = b ^^^ x) : a = b := by
  have e2 : (a ^^^ x) ^^^ x = (b ^^^ x) ^^^ x := by rw [h]
  rwa [Nat.xor_assoc, Nat.xor_assoc, Nat.xor_self, Nat.xor_zero, Nat.xor_zero] at e2

theorem crcByte_inj (a b : Nat) (x : UInt8) (ha : a < 4294967296) (hb : b < 4294967296) (h : crcByte a x = crcByte b x) : a = b :=
  xor_right_inj _ _ _ (crcBits_inj 8 _ _ (xor_byte_lt a x ha) (xor_byte_lt b x hb) h)

theorem crcOf_inj (l : List UInt8) : ∀ a b : Nat, a < 4294967296 → b < 4294967296 → crcOf a l = crcOf b l → a = b := by
  induction l with
  | nil => intro a b _ _ h; exact h
  | cons x l ih => intro a b ha hb h; exact crcByte_inj a b x ha hb (ih _ _ (crcByte_lt a x ha) (crcByte_lt b x hb) h)

theorem crcBit_even (y : Nat) : crcBit (2 * y) = y := by
  unfold crcBit; rw [if_neg (by omega), Nat.xor_zero]; omega
theorem crcBits_shift (y : Nat) : crcBits 8 (256 * y) = y := by
  have e : ∀ z, crcBit (2 * z) = z := crcBit_even
  rw [show 256 * y = 2 * (2 * (2 * (2 * (2 * (2 * (2 * (2 * y))))))) from by omega]
  simp only [crcBits, e]

/-- Where a byte's step leaves a small number, what it began with is known. -/
theorem crcByte_back (c y : Nat) (x : UInt8) (hc : c < 4294967296) (hy : y < 16777216) (h : crcByte c x = y) : c = x.toNat ^^^ (256 * y) := by
  have e := crcBits_inj 8 (c ^^^ x.toNat) (256 * y) (xor_byte_lt c x hc) (by omega) (by rw [crcBits_shift]; exact h)
  rw [← e, Nat.xor_comm c, ← Nat.xor_assoc, Nat.xor_self, Nat.zero_xor]

theorem xor_nought (x : UInt8) (y : Nat) (h : x.toNat ^^^ (256 * y) = 0) : x = 0 ∧ y = 0 := by
  have e : x.toNat = 256 * y := by
    have := xor_right_inj x.toNat (256 * y) (256 * y) (by rw [h, Nat.xor_self])
    exact this
  have := x.toNat_lt
  have h0 : y = 0 := by omega
  exact ⟨UInt8.toNat_inj.1 (by rw [e, h0]; rfl), h0⟩

theorem xor_shift_lt (x : UInt8) (y m : Nat) (h : 256 * y < 2 ^ m) (hm : 8 ≤ m) : x.toNat ^^^ (256 * y) < 2 ^ m :=
  Nat.xor_lt_two_pow (Nat.lt_of_lt_of_le x.toNat_lt (Nat.pow_le_pow_right (by decide) hm)) h

theorem crc4 (T : List UInt8) (h : T.length ≤ 4) (e : crcOf 0 T = 0) : ∀ x ∈ T, x = 0 := by
  have l1 : ∀ x : UInt8, crcByte 0 x < 4294967296 := fun x => crcByte_lt 0 x (by decide)
  match T, h with
  | [], _ => intro x hx; cases hx
  | [a], _ =>
    have h1 := crcByte_back 0 0 a (by decide) (by decide) e
    have h2 := xor_nought a 0 h1.symm
    simp [h2]
  | [a, b], _ =>
    have h1 := crcByte_back _ 0 b (l1 a) (by decide) e
    have h2 := crcByte_back 0 _ a (by decide) (Nat.lt_trans (xor_shift_lt b 0 8 (by decide) (by decide)) (by decide)) h1
    obtain ⟨r1, r2⟩ := xor_nought a _ h2.symm
    obtain ⟨r3, _⟩ := xor_nought b _ r2
    simp [r1, r3]
  | [a, b, c], _ =>
    have h1 := crcByte_back _ 0 c (crcByte_lt _ b (l1 a)) (by decide) e
    have g1 := xor_shift_lt c 0 8 (by decide) (by decide)
    have h2 := crcByte_back _ _ b (l1 a) (Nat.lt_trans g1 (by decide)) h1
    have g2 := xor_shift_lt b (c.toNat ^^^ (256 * 0)) 16 (by omega) (by decide)
    have h3 := crcByte_back 0 _ a (by decide) (Nat.lt_trans g2 (by decide)) h2
    obtain ⟨r1, r2⟩ := xor_nought a _ h3.symm
    obtain ⟨r3, r4⟩ := xor_nought b _ r2
    obtain ⟨r5, _⟩ := xor_nought c _ r4
    simp [r1, r3, r5]
  | [a, b, c, d], _ =>
    have h1 := crcByte_back _ 0 d (crcByte_lt _ c (crcByte_lt _ b (l1 a))) (by decide) e
    have g1 := xor_shift_lt d 0 8 (by decide) (by decide)
    have h2 := crcByte_back _ _ c (crcByte_lt _ b (l1 a)) (Nat.lt_trans g1 (by decide)) h1
    have g2 := xor_shift_lt c (d.toNat ^^^ (256 * 0)) 16 (by omega) (by decide)
    have h3 := crcByte_back _ _ b (l1 a) (Nat.lt_trans g2 (by decide)) h2
    have g3 := xor_shift_lt b (c.toNat ^^^ (256 * (d.toNat ^^^ (256 * 0)))) 24 (by omega) (by decide)
    have h4 := crcByte_back 0 _ a (by decide) g3 h3
    obtain ⟨r1, r2⟩ := xor_nought a _ h4.symm
    obtain ⟨r3, r4⟩ := xor_nought b _ r2
    obtain ⟨r5, r6⟩ := xor_nought c _ r4
    obtain ⟨r7, _⟩ := xor_nought d _ r6
    simp [r1, r3, r5, r7]
  | _ :: _ :: _ :: _ :: _ :: _, h => simp at h

theorem crcOf_zeros (T : List UInt8) (h : ∀ x ∈ T, x = 0) : crcOf 0 T = 0 := by
  induction T with
  | nil => rfl
  | cons x T ih =>
    have e : x = 0 := h x (by simp)
    subst e
    show crcOf (crcByte 0 0) T = 0
    have e2 : crcByte 0 0 = 0 := by decide
    rw [e2]
    exact ih fun y hy => h y (by simp [hy])

/-- The bytes from k on, as they stand, and those that are changed by t. -/
def win (L : List UInt8) (k m : Nat) : List UInt8 := (List.range m).map fun j => L.getD (k + j) 0
def winX (L : List UInt8) (k : Nat) (t : Nat → UInt8) (m : Nat) : List UInt8 := (List.range m).map fun j => L.getD (k + j) 0 ^^^ t j
/-- L, its m bytes from k on changed by t. -/
def chg (L : List UInt8) (k : Nat) (t : Nat → UInt8) (m : Nat) : List UInt8 := L.take k ++ winX L k t m ++ L.drop (k + m)

theorem winX_succ (L : List UInt8) (k : Nat) (t : Nat → UInt8) (m : Nat) : winX L k t (m + 1) = winX L k t m ++ [L.getD (k + m) 0 ^^^ t m] := by
  unfold winX; rw [List.range_succ, List.map_append]; rfl
theorem win_succ (L : List UInt8) (k m : Nat) : win L k (m + 1) = win L k m ++ [L.getD (k + m) 0] := by
  unfold win; rw [List.range_succ, List.map_append]; rfl
theorem winX_length (L : List UInt8) (k : Nat) (t : Nat → UInt8) (m : Nat) : (winX L k t m).length = m := by simp [winX]

theorem chg_zero (L : List UInt8) (k : Nat) (t : Nat → UInt8) : chg L k t 0 = L := by simp [chg, winX]

theorem chg_length (L : List UInt8) (k : Nat) (t : Nat → UInt8) (m : Nat) (h : k + m ≤ L.length) : (chg L k t m).length = L.length := by
  simp [chg, winX_length]; omega

theorem chg_at (L : List UInt8) (k : Nat) (t : Nat → UInt8) (m : Nat) (h : k + m < L.length) : (chg L k t m).getD (k + m) 0 = L.getD (k + m) 0 := by
  have h1 : (L.take k ++ winX L k t m).length = k + m := by simp [winX_length]; omega
  unfold chg
  rw [List.getD_eq_getElem?_getD, List.getElem?_append_right (by omega), h1, Nat.sub_self, List.getElem?_drop, Nat.add_zero, ← List.getD_eq_getElem?_getD]

theorem chg_succ (L : List UInt8) (k : Nat) (t : Nat → UInt8) (m : Nat) (h : k + m < L.length) : chg L k t (m + 1) = (chg L k t m).set (k + m) (L.getD (k + m) 0 ^^^ t m) := by
  have h1 : (L.take k ++ winX L k t m).length = k + m := by simp [winX_length]; omega
  unfold chg
  rw [List.set_append_right _ _ (by omega), h1, Nat.sub_self, List.drop_eq_getElem_cons h, List.set_cons_zero, winX_succ, ← Nat.add_assoc]
  simp

theorem win_whole (L : List UInt8) (k m : Nat) (h : k + m ≤ L.length) : L = L.take k ++ win L k m ++ L.drop (k + m) := by
  induction m with
  | zero => simp [win]
  | succ m ih =>
    have e := ih (by omega)
    rw [win_succ, ← Nat.add_assoc]
    rw [List.drop_eq_getElem_cons (by omega)] at e
    have e2 : L.getD (k + m) 0 = L[k + m] := by rw [List.getD_eq_getElem?_getD, List.getElem?_eq_getElem (by omega)]; rfl
    rw [e2]
    simpa using e

theorem crcOf_winX (L : List UInt8) (k : Nat) (t : Nat → UInt8) (m s : Nat) : crcOf s (winX L k t m) = crcOf s (win L k m) ^^^ crcOf 0 ((List.range m).map t) := by
  induction m with
  | zero => simp [winX, win, crcOf]
  | succ m ih => rw [winX_succ, win_succ, crcOf_snoc, crcOf_snoc, List.range_succ, List.map_append, show List.map t [m] = [t m] from rfl, crcOf_snoc, ih, crcByte_lin]

theorem crc_shows (L : List UInt8) (k : Nat) (t : Nat → UInt8) (m : Nat) (hm : m ≤ 4) (h : k + m ≤ L.length) : crc 0 (chg L k t m) = crc 0 L ↔ ∀ j, j < m → t j = 0 := by
  have e1 : crc 0 L = crc 0 (L.take k ++ win L k m ++ L.drop (k + m)) := by rw [← win_whole L k m h]
  have hP := crcOf_lt (L.take k) 4294967295 (by decide)
  have ha : ∀ X : List UInt8, crcOf (crcOf 4294967295 (L.take k)) X < 4294967296 := fun X => crcOf_lt X _ hP
  have hl : ∀ X : List UInt8, crcOf 4294967295 X < 4294967296 := fun X => crcOf_lt X _ (by decide)
  constructor
  · intro he
    rw [e1] at he
    unfold crc chg at he
    have l1 := hl (L.take k ++ winX L k t m ++ L.drop (k + m))
    have l2 := hl (L.take k ++ win L k m ++ L.drop (k + m))
    have he2 : crcOf 4294967295 (L.take k ++ winX L k t m ++ L.drop (k + m)) = crcOf 4294967295 (L.take k ++ win L k m ++ L.drop (k + m)) := by
      simp only [Nat.sub_zero] at he
      omega
    rw [crcOf_append, crcOf_append, crcOf_append, crcOf_append] at he2
    have he3 := crcOf_inj _ _ _ (ha _) (ha _) he2
    rw [crcOf_winX] at he3
    have he4 : crcOf 0 ((List.range m).map t) = 0 := by
      have e5 : crcOf 0 ((List.range m).map t) ^^^ crcOf (crcOf 4294967295 (L.take k)) (win L k m) = 0 ^^^ crcOf (crcOf 4294967295 (L.take k)) (win L k m) := by rw [Nat.xor_comm, he3, Nat.zero_xor]
      exact xor_right_inj _ _ _ e5
    intro j hj
    exact crc4 _ (by simp; exact hm) he4 (t j) (List.mem_map.2 ⟨j, List.mem_range.2 hj, rfl⟩)
  · intro hz
    have e2 : winX L k t m = win L k m := by
      unfold winX win
      refine List.map_congr_left fun j hj => ?_
      rw [hz j (List.mem_range.1 hj)]; simp
    rw [e1]; unfold chg; rw [e2]

/-- Adler's sum, the lower half: the bytes' sum. -/
theorem ad_fst (l : List UInt8) : ∀ p : Nat × Nat, p.1 < 65521 → (ad p l).1 = (p.1 + (l.map UInt8.toNat).sum) % 65521 := by
  induction l with
  | nil => intro p h; simp [ad]; omega
  | cons c l ih =>
    intro p h
    show (ad (adStep p c) l).1 = _
    rw [ih _ (by simp only [adStep]; omega)]
    simp only [adStep, List.map_cons, List.sum_cons]
    omega

theorem adler_shows (L : List UInt8) (k : Nat) (t : Nat → UInt8) (h : k < L.length) : adler 1 (chg L k t 1) = adler 1 L ↔ t 0 = 0 := by
  have e1 : adler 1 L = adler 1 (L.take k ++ win L k 1 ++ L.drop (k + 1)) := by rw [← win_whole L k 1 (by omega)]
  have w1 : win L k 1 = [L.getD k 0] := by simp [win]
  have w2 : winX L k t 1 = [L.getD k 0 ^^^ t 0] := by simp [winX]
  constructor
  · intro he
    rw [e1] at he
    unfold chg adler at he
    rw [show ((1 : Nat) % 65536, 1 / 65536) = (1, 0) from rfl, w1, w2] at he
    have a1 := ad_lt (L.take k ++ [L.getD k 0 ^^^ t 0] ++ L.drop (k + 1)) (1, 0) (by decide) (by decide)
    have a2 := ad_lt (L.take k ++ [L.getD k 0] ++ L.drop (k + 1)) (1, 0) (by decide) (by decide)
    have f1 := ad_fst (L.take k ++ [L.getD k 0 ^^^ t 0] ++ L.drop (k + 1)) (1, 0) (by decide)
    have f2 := ad_fst (L.take k ++ [L.getD k 0] ++ L.drop (k + 1)) (1, 0) (by decide)
    simp only [List.map_append, List.sum_append, List.map_cons, List.map_nil, List.sum_cons, List.sum_nil] at f1 f2
    have x1 := (L.getD k 0 ^^^ t 0).toNat_lt
    have x2 := (L.getD k 0).toNat_lt
    have e3 : (L.getD k 0 ^^^ t 0).toNat = (L.getD k 0).toNat := by omega
    rw [UInt8.toNat_xor] at e3
    have e4 : (t 0).toNat = 0 := by
      have e5 : (t 0).toNat ^^^ (L.getD k 0).toNat = 0 ^^^ (L.getD k 0).toNat := by rw [Nat.xor_comm, e3, Nat.zero_xor]
      exact xor_right_inj _ _ _ e5
    exact UInt8.toNat_inj.1 e4
  · intro hz
    have e2 : winX L k t 1 = win L k 1 := by rw [w1, w2, hz]; simp
    rw [e1]; unfold chg; rw [e2]

end Go.Proofs.Ytfpklkncdimajaa
