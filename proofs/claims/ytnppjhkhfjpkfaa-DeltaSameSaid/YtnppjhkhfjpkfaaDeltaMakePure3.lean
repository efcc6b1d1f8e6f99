/-
  Plain Lean: a step that copies, read again; what is made becomes the target, and how long it is.
-/
import Derived.Test.YtnppjhkhfjpkfaaDeltaMakePure2
namespace Go.Proofs.Ytnppjhkhfjpkfaa

def byteOf (v j : Nat) : Nat := v / 2 ^ (8 * j) % 256
/-- The byte's mark, and the byte, if it is not nought. -/
def flag (v j : Nat) : Nat := if byteOf v j = 0 then 0 else 1
def piece (v j : Nat) : List UInt8 := if byteOf v j = 0 then [] else [UInt8.ofNat (byteOf v j)]

theorem piece_len (v j : Nat) : (piece v j).length = flag v j := by unfold piece flag; split <;> rfl
theorem flag_le (v j : Nat) : flag v j ≤ 1 := by unfold flag; split <;> omega

theorem bitsOf_eq (v bit n : Nat) : bitsOf v bit (n + 1) = ((bitsOf v bit n).1 + bit * (flag v n * 2 ^ n), (bitsOf v bit n).2 ++ piece v n) := by
  show (if v / 2 ^ (8 * n) % 256 = 0 then bitsOf v bit n else ((bitsOf v bit n).1 + bit * 2 ^ n, (bitsOf v bit n).2 ++ [UInt8.ofNat (v / 2 ^ (8 * n) % 256)])) = _
  unfold flag piece byteOf
  split <;> simp

theorem bits4 (v : Nat) : bitsOf v 1 4 = (flag v 0 + 2 * flag v 1 + 4 * flag v 2 + 8 * flag v 3, piece v 0 ++ piece v 1 ++ piece v 2 ++ piece v 3) := by
  rw [bitsOf_eq, bitsOf_eq, bitsOf_eq, bitsOf_eq]; simp [bitsOf]; omega
theorem bits2 (v : Nat) : bitsOf v 16 2 = (16 * flag v 0 + 32 * flag v 1, piece v 0 ++ piece v 1) := by
  rw [bitsOf_eq, bitsOf_eq]; simp [bitsOf]; omega

theorem mod_succ (v n : Nat) : v % 2 ^ (8 * (n + 1)) = v % 2 ^ (8 * n) + byteOf v n * 2 ^ (8 * n) := by
  unfold byteOf
  rw [show 8 * (n + 1) = 8 * n + 8 from by omega, Nat.pow_add, Nat.mod_mul, Nat.mul_comm (2 ^ (8 * n))]

theorem tk_step (c : Nat) (d : List UInt8) (i p s n : Nat) (h : tk c d i = some (p, s, n)) :
    tk c d (i + 1) = if c / 2 ^ i % 2 = 0 then some (p, s, n) else if d.length ≤ n then none
      else if i < 4 then some (p + (d.getD n 0).toNat * 2 ^ (8 * i), s, n + 1) else some (p, s + (d.getD n 0).toNat * 2 ^ (8 * (i - 4)), n + 1) := by
  rw [tk, h]

theorem getD_of_drop {d : List UInt8} {n : Nat} {x : UInt8} {r : List UInt8} (h : d.drop n = x :: r) : n < d.length ∧ d.getD n 0 = x ∧ d.drop (n + 1) = r := by
  have hl : n < d.length := by
    rcases Nat.lt_or_ge n d.length with h' | h'
    · exact h'
    · rw [List.drop_of_length_le h'] at h; cases h
  rw [List.drop_eq_getElem_cons hl] at h
  injection h with h1 h2
  exact ⟨hl, by rw [List.getD_eq_getElem?_getD, List.getElem?_eq_getElem hl]; exact h1, h2⟩

theorem byteOf_toNat (v j : Nat) : (UInt8.ofNat (byteOf v j)).toNat = byteOf v j := by
  have : byteOf v j < 256 := Nat.mod_lt _ (by decide)
  simp; omega

theorem tk_place (c v : Nat) (d : List UInt8) (i n : Nat) (r : List UInt8) (hi : i < 4) (h : tk c d i = some (v % 2 ^ (8 * i), 0, n)) (hc : c / 2 ^ i % 2 = flag v i) (hd : d.drop n = piece v i ++ r) :
    tk c d (i + 1) = some (v % 2 ^ (8 * (i + 1)), 0, n + flag v i) ∧ d.drop (n + flag v i) = r := by
  rw [tk_step c d i _ _ _ h, hc, mod_succ]
  unfold flag at *
  by_cases hb : byteOf v i = 0
  · unfold piece at hd
    rw [if_pos hb] at hd ⊢
    simp [hb] at hd ⊢; exact hd
  · unfold piece at hd
    rw [if_neg hb] at hd ⊢
    obtain ⟨h1, h2, h3⟩ := getD_of_drop hd
    rw [if_neg (by decide), if_neg (by omega), if_pos hi, h2, byteOf_toNat]
    exact ⟨rfl, h3⟩

theorem tk_size (c p v : Nat) (d : List UInt8) (i n : Nat) (r : List UInt8) (hi : 4 ≤ i) (h : tk c d i = some (p, v % 2 ^ (8 * (i - 4)), n)) (hc : c / 2 ^ i % 2 = flag v (i - 4)) (hd : d.drop n = piece v (i - 4) ++ r) :
    tk c d (i + 1) = some (p, v % 2 ^ (8 * (i - 4 + 1)), n + flag v (i - 4)) ∧ d.drop (n + flag v (i - 4)) = r := by
  rw [tk_step c d i _ _ _ h, hc, mod_succ]
  unfold flag at *
  by_cases hb : byteOf v (i - 4) = 0
  · unfold piece at hd
    rw [if_pos hb] at hd ⊢
    simp [hb] at hd ⊢; exact hd
  · unfold piece at hd
    rw [if_neg hb] at hd ⊢
    obtain ⟨h1, h2, h3⟩ := getD_of_drop hd
    rw [if_neg (by decide), if_neg (by omega), if_neg (by omega), h2, byteOf_toNat]
    exact ⟨rfl, h3⟩

/-- A copy's own bytes. -/
def copHead (place size : Nat) : Nat := 128 + (bitsOf place 1 4).1 + (bitsOf size 16 2).1
def copTail (place size : Nat) : List UInt8 := (bitsOf place 1 4).2 ++ (bitsOf size 16 2).2

theorem copHead_lt (place size : Nat) : 128 ≤ copHead place size ∧ copHead place size < 192 := by
  unfold copHead
  rw [bits4, bits2]
  have := flag_le place 0; have := flag_le place 1; have := flag_le place 2; have := flag_le place 3; have := flag_le size 0; have := flag_le size 1
  simp only; omega

theorem copTail_len (place size : Nat) : (copTail place size).length ≤ 6 ∧ (place = 0 → (copTail place size).length ≤ 2) ∧ (size = 65536 → (copTail place size).length ≤ 4) := by
  unfold copTail
  rw [bits4, bits2]
  simp only [List.length_append, piece_len]
  have := flag_le place 0; have := flag_le place 1; have := flag_le place 2; have := flag_le place 3; have := flag_le size 0; have := flag_le size 1
  refine ⟨by omega, ?_, ?_⟩
  · rintro rfl
    have h : ∀ j, flag 0 j = 0 := fun j => by unfold flag byteOf; simp
    simp only [h]; omega
  · rintro rfl
    have h0 : flag 65536 0 = 0 := by decide
    have h1 : flag 65536 1 = 0 := by decide
    rw [h0, h1]; omega

theorem taken_cop (place size : Nat) (r : List UInt8) (hp : place < 4294967296) (hs : 1 ≤ size) (hs2 : size ≤ 65536) :
    takenOf (copHead place size) (copTail place size ++ r) = some (place, size, (copTail place size).length) := by
  have f0 := flag_le place 0; have f1 := flag_le place 1; have f2 := flag_le place 2; have f3 := flag_le place 3; have g0 := flag_le size 0; have g1 := flag_le size 1
  obtain ⟨c, hc⟩ : ∃ c, c = copHead place size := ⟨_, rfl⟩
  obtain ⟨d, hd⟩ : ∃ d, d = copTail place size ++ r := ⟨_, rfl⟩
  have hc2 : c = 128 + (flag place 0 + 2 * flag place 1 + 4 * flag place 2 + 8 * flag place 3) + (16 * flag size 0 + 32 * flag size 1) := by rw [hc, copHead, bits4, bits2]
  have hd2 : d.drop 0 = piece place 0 ++ (piece place 1 ++ (piece place 2 ++ (piece place 3 ++ (piece size 0 ++ (piece size 1 ++ r))))) := by rw [hd, copTail, bits4, bits2]; simp
  have hlen : (copTail place size).length = flag place 0 + flag place 1 + flag place 2 + flag place 3 + flag size 0 + flag size 1 := by
    rw [copTail, bits4, bits2]; simp only [List.length_append, piece_len]; omega
  rw [hlen, ← hc, ← hd]
  have t0 : tk c d 0 = some (place % 2 ^ (8 * 0), 0, 0) := by simp [tk, Nat.mod_one]
  obtain ⟨t1, d1⟩ := tk_place c place d 0 _ _ (by decide) t0 (by simp; omega) hd2
  obtain ⟨t2, d2⟩ := tk_place c place d 1 _ _ (by decide) t1 (by simp; omega) d1
  obtain ⟨t3, d3⟩ := tk_place c place d 2 _ _ (by decide) t2 (by simp; omega) d2
  obtain ⟨t4, d4⟩ := tk_place c place d 3 _ _ (by decide) t3 (by simp; omega) d3
  have t4' : tk c d 4 = some (place, size % 2 ^ (8 * (4 - 4)), 0 + flag place 0 + flag place 1 + flag place 2 + flag place 3) := by
    rw [t4, Nat.mod_eq_of_lt (show place < 2 ^ (8 * (3 + 1)) by simpa using hp)]; simp [Nat.mod_one]
  obtain ⟨t5, d5⟩ := tk_size c place size d 4 _ _ (by decide) t4' (by simp; omega) d4
  obtain ⟨t6, d6⟩ := tk_size c place size d 5 _ _ (by decide) t5 (by simp; omega) d5
  have t7 := tk_step c d 6 _ _ _ t6
  rw [if_pos (by simp; omega)] at t7
  unfold takenOf
  rw [t7]
  simp only [Nat.zero_add, Nat.reduceSub, Nat.reduceAdd, Nat.reduceMul]
  congr 3
  split
  · omega
  · omega

theorem copF_succ (g place size : Nat) (h : size ≠ 0) : copF (g + 1) place size = UInt8.ofNat (copHead place (min size 65536)) :: (copTail place (min size 65536) ++ copF g (place + min size 65536) (size - min size 65536)) := by
  rw [copF, if_neg h]; rfl

theorem steps_cop (base : List UInt8) (b : Nat) (g : Nat) : ∀ (place size : Nat) (r o : List UInt8) (f : Nat), size ≤ g → place + size ≤ base.length → base.length < 4294967296 → (copF g place size ++ r).length < f → o.length + size ≤ b →
    ∃ f', r.length < f' ∧ steps base b f (copF g place size ++ r) o = steps base b f' r (o ++ (base.drop place).take size) := by
  induction g with
  | zero =>
    intro place size r o f h _ _ hf _
    obtain rfl : size = 0 := by omega
    exact ⟨f, by simpa [copF] using hf, by simp [copF]⟩
  | succ g ih =>
    intro place size r o f h hp hbl hf hb
    by_cases h0 : size = 0
    · subst h0
      exact ⟨f, by simpa [copF] using hf, by simp [copF]⟩
    · rw [copF_succ g place size h0] at hf ⊢
      obtain ⟨f, rfl⟩ : ∃ f', f = f' + 1 := ⟨f - 1, by omega⟩
      obtain ⟨n, hn⟩ : ∃ n, n = min size 65536 := ⟨_, rfl⟩
      rw [← hn] at hf ⊢
      obtain ⟨h1, h2⟩ := copHead_lt place n
      have e : (UInt8.ofNat (copHead place n)).toNat = copHead place n := by simp; omega
      have hl : ((base.drop place).take n).length = n := by rw [List.length_take, List.length_drop]; omega
      obtain ⟨f', hf', hs⟩ := ih (place + n) (size - n) r (o ++ (base.drop place).take n) f (by omega) (by omega) hbl (by simp only [List.cons_append, List.length_cons, List.length_append] at hf ⊢; omega) (by rw [List.length_append, hl]; omega)
      refine ⟨f', hf', ?_⟩
      have e3 : (base.drop place).take n ++ (base.drop (place + n)).take (size - n) = (base.drop place).take size := by
        rw [← List.drop_drop, show size = n + (size - n) from by omega, List.take_add]
        simp
      rw [List.append_assoc, e3] at hs
      rw [← hs, List.cons_append, steps, e, List.append_assoc]
      rw [if_neg (by omega), if_neg (by omega), taken_cop place n _ (by omega) (by omega) (by omega)]
      simp only
      rw [if_neg (by omega), if_neg (by omega), List.drop_left]

theorem copF_len (g : Nat) : ∀ place size, size ≤ g → (copF g place size).length ≤ 7 * (size / 65536) + (if size % 65536 = 0 then 0 else 7) := by
  induction g with
  | zero => intro place size h; simp [copF]
  | succ g ih =>
    intro place size h
    by_cases h0 : size = 0
    · subst h0; simp [copF]
    · rw [copF_succ g place size h0]
      have h1 := ih (place + min size 65536) (size - min size 65536) (by omega)
      have h2 := (copTail_len place (min size 65536)).1
      simp only [List.length_cons, List.length_append]
      rcases Nat.lt_or_ge size 65536 with h3 | h3
      · have e : size - min size 65536 = 0 := by omega
        rw [e] at h1 ⊢
        have h1' : (copF g (place + min size 65536) 0).length ≤ 0 := by simpa using h1
        rw [if_neg (by omega)]
        omega
      · have e : size - min size 65536 = size - 65536 := by omega
        have e2 : size / 65536 = (size - 65536) / 65536 + 1 := by omega
        have e3 : size % 65536 = (size - 65536) % 65536 := by omega
        rw [e] at h1 ⊢
        rw [e2, e3]
        split at h1 <;> split <;> omega

theorem insF_len (f : Nat) : ∀ t : List UInt8, t.length ≤ f → (insF f t).length ≤ t.length + (t.length + 126) / 127 := by
  induction f with
  | zero => intro t h; simp [insF]
  | succ f ih =>
    intro t h
    rw [insF]
    split
    · simp
    · have h1 := ih (t.drop (min t.length 127)) (by rw [List.length_drop]; omega)
      rw [List.length_drop] at h1
      simp only [List.length_cons, List.length_append, List.length_take]
      rcases Nat.lt_or_ge t.length 127 with h3 | h3
      · have e : min t.length 127 = t.length := by omega
        rw [e] at h1 ⊢
        omega
      · have e : min t.length 127 = 127 := by omega
        rw [e] at h1 ⊢
        omega

theorem frontOf_spec : ∀ (a b : List UInt8), frontOf a b ≤ a.length ∧ frontOf a b ≤ b.length ∧ a.take (frontOf a b) = b.take (frontOf a b)
  | [], b => by simp [frontOf]
  | x :: xs, [] => by simp [frontOf]
  | x :: xs, y :: ys => by
    rw [frontOf]
    split
    · rename_i h
      subst h
      obtain ⟨h1, h2, h3⟩ := frontOf_spec xs ys
      simp [h1, h2, h3]
    · simp

theorem frontOf_self : ∀ a : List UInt8, frontOf a a = a.length
  | [] => rfl
  | x :: xs => by rw [frontOf, if_pos rfl, frontOf_self xs]; rfl

theorem lebF_len (f : Nat) : ∀ (n k : Nat), n < 128 ^ k → (lebF f n).length ≤ max k 1 := by
  induction f with
  | zero => intro n k _; simp [lebF]
  | succ f ih =>
    intro n k h
    rw [lebF]
    split
    · simp; omega
    · cases k with
      | zero => simp at h; omega
      | succ k =>
        cases k with
        | zero => simp at h; omega
        | succ k =>
          have := ih (n / 128) (k + 1) (by rw [Nat.pow_succ] at h; omega)
          simp; omega

/-- The three parts of what is made: how many bytes stay ahead, how many behind. -/
def aheadOf (base target : List UInt8) : Nat := if frontOf base target < 8 then 0 else frontOf base target
def behindOf (base target : List UInt8) : Nat :=
  let b := frontOf (base.drop (frontOf base target)).reverse (target.drop (frontOf base target)).reverse
  if b < 8 then 0 else b

theorem makeOf_eq (base target : List UInt8) : makeOf base target = lebOf base.length ++ lebOf target.length ++ copOf 0 (aheadOf base target) ++
    insOf ((target.drop (aheadOf base target)).take (target.length - behindOf base target - aheadOf base target)) ++ copOf (base.length - behindOf base target) (behindOf base target) := rfl

theorem parts_spec (base target : List UInt8) : aheadOf base target + behindOf base target ≤ base.length ∧ aheadOf base target + behindOf base target ≤ target.length ∧
    base.take (aheadOf base target) = target.take (aheadOf base target) ∧
    base.drop (base.length - behindOf base target) = target.drop (target.length - behindOf base target) := by
  obtain ⟨h1, h2, h3⟩ := frontOf_spec base target
  obtain ⟨k1, k2, k3⟩ := frontOf_spec (base.drop (frontOf base target)).reverse (target.drop (frontOf base target)).reverse
  simp only [List.length_reverse, List.length_drop] at k1 k2
  have hb : aheadOf base target ≤ frontOf base target := by unfold aheadOf; split <;> omega
  have hbb : behindOf base target ≤ frontOf (base.drop (frontOf base target)).reverse (target.drop (frontOf base target)).reverse := by
    unfold behindOf; simp only; split <;> omega
  refine ⟨by omega, by omega, ?_, ?_⟩
  · unfold aheadOf; split
    · simp
    · exact h3
  · unfold behindOf
    simp only
    split
    · simp
    · generalize frontOf (base.drop (frontOf base target)).reverse (target.drop (frontOf base target)).reverse = b at *
      rw [List.take_reverse, List.take_reverse, List.reverse_inj, List.length_drop, List.length_drop, List.drop_drop, List.drop_drop] at k3
      rw [show base.length - b = frontOf base target + (base.length - frontOf base target - b) from by omega, show target.length - b = frontOf base target + (target.length - frontOf base target - b) from by omega]
      exact k3

theorem sizesOf_make (a b : Nat) (r : List UInt8) (ha : a < 4611686018427387904) (hb : b < 4611686018427387904) :
    sizesOf (lebOf a ++ (lebOf b ++ r)) = (a, b, (lebOf a).length + (lebOf b).length, 0) := by
  unfold sizesOf
  rw [leb_lebOf a _ ha]
  simp only [List.drop_left]
  rw [leb_lebOf b _ hb]
  simp

theorem steps_end (base : List UInt8) (b f : Nat) (o : List UInt8) (hf : 0 < f) : steps base b f [] o = if o.length = b then (o, 0) else ([], 4) := by
  cases f with
  | zero => omega
  | succ f => rfl

/-- The steps that are made, and whatever stands behind them. -/
theorem steps_make (base target x : List UInt8) (f : Nat) (hbl : base.length < 4294967296)
    (hf : (copOf 0 (aheadOf base target) ++ insOf ((target.drop (aheadOf base target)).take (target.length - behindOf base target - aheadOf base target)) ++ copOf (base.length - behindOf base target) (behindOf base target) ++ x).length < f) :
    ∃ f', x.length < f' ∧ steps base target.length f (copOf 0 (aheadOf base target) ++ insOf ((target.drop (aheadOf base target)).take (target.length - behindOf base target - aheadOf base target)) ++ copOf (base.length - behindOf base target) (behindOf base target) ++ x) [] = steps base target.length f' x target := by
  obtain ⟨h1, h2, h3, h4⟩ := parts_spec base target
  generalize aheadOf base target = p at *
  generalize behindOf base target = q at *
  have hm : ((target.drop p).take (target.length - q - p)).length = target.length - q - p := by rw [List.length_take, List.length_drop]; omega
  rw [List.append_assoc, List.append_assoc] at hf ⊢
  obtain ⟨f1, hf1, e1⟩ := steps_cop base target.length p 0 p _ [] f (Nat.le_refl _) (by omega) hbl hf (by simp; omega)
  rw [List.drop_zero, List.nil_append] at e1
  obtain ⟨f2, hf2, e2⟩ := steps_ins base target.length _ ((target.drop p).take (target.length - q - p)) (copOf (base.length - q) q ++ x) (base.take p) f1 (Nat.le_refl _) hf1 (by rw [hm, List.length_take]; omega)
  obtain ⟨f3, hf3, e3⟩ := steps_cop base target.length q (base.length - q) q x (base.take p ++ (target.drop p).take (target.length - q - p)) f2 (Nat.le_refl _) (by omega) hbl hf2 (by rw [List.length_append, hm, List.length_take]; omega)
  refine ⟨f3, hf3, ?_⟩
  unfold copOf insOf at *
  rw [e1, e2, e3]
  congr 1
  have e4 : (base.drop (base.length - q)).take q = target.drop (target.length - q) := by
    rw [h4]; exact List.take_of_length_le (by rw [List.length_drop]; omega)
  rw [e4, h3]
  have e5 : target.drop (target.length - q) = (target.drop p).drop (target.length - q - p) := by rw [List.drop_drop]; congr 1; omega
  rw [e5, List.append_assoc, List.take_append_drop, List.take_append_drop]

theorem makeOf_eq2 (base target : List UInt8) : makeOf base target = lebOf base.length ++ (lebOf target.length ++ (copOf 0 (aheadOf base target) ++
    insOf ((target.drop (aheadOf base target)).take (target.length - behindOf base target - aheadOf base target)) ++ copOf (base.length - behindOf base target) (behindOf base target))) := by
  rw [makeOf_eq]; simp

/-- What is made, and more behind it, applied. -/
theorem apply_make_more (base target x : List UInt8) (most : Int) (hbl : base.length < 4294967296) (htl : target.length < 4294967296) (hm : (target.length : Int) ≤ most) :
    ∃ f, x.length < f ∧ applyOf base (makeOf base target ++ x) most = steps base target.length f x target := by
  have e : makeOf base target ++ x = lebOf base.length ++ (lebOf target.length ++ (copOf 0 (aheadOf base target) ++
    insOf ((target.drop (aheadOf base target)).take (target.length - behindOf base target - aheadOf base target)) ++ copOf (base.length - behindOf base target) (behindOf base target) ++ x)) := by
    rw [makeOf_eq2]; simp
  have hs := sizesOf_make base.length target.length (copOf 0 (aheadOf base target) ++
    insOf ((target.drop (aheadOf base target)).take (target.length - behindOf base target - aheadOf base target)) ++ copOf (base.length - behindOf base target) (behindOf base target) ++ x) (by omega) (by omega)
  rw [← e] at hs
  unfold applyOf
  rw [hs]
  simp only [ne_eq, not_true_eq_false, if_false]
  rw [if_neg (by omega)]
  have hd : (makeOf base target ++ x).drop ((lebOf base.length).length + (lebOf target.length).length) = copOf 0 (aheadOf base target) ++
    insOf ((target.drop (aheadOf base target)).take (target.length - behindOf base target - aheadOf base target)) ++ copOf (base.length - behindOf base target) (behindOf base target) ++ x := by
    rw [e, ← List.append_assoc, ← List.length_append]
    exact List.drop_left
  rw [hd]
  refine steps_make base target x _ hbl ?_
  rw [e]
  simp only [List.length_append]
  omega

theorem apply_make (base target : List UInt8) (most : Int) (hbl : base.length < 4294967296) (htl : target.length < 4294967296) (hm : (target.length : Int) ≤ most) : applyOf base (makeOf base target) most = (target, 0) := by
  obtain ⟨f, hf, e⟩ := apply_make_more base target [] most hbl htl hm
  rw [List.append_nil] at e
  rw [e, steps_end _ _ _ _ (by simpa using hf), if_pos rfl]

theorem sizes_make (base target x : List UInt8) (hbl : base.length < 4294967296) (htl : target.length < 4294967296) :
    sizesOf (makeOf base target ++ x) = (base.length, target.length, (lebOf base.length).length + (lebOf target.length).length, 0) := by
  rw [makeOf_eq2, List.append_assoc, List.append_assoc]
  exact sizesOf_make _ _ _ (by omega) (by omega)

theorem make_small (base target : List UInt8) (hbl : base.length ≤ 1000) (htl : target.length ≤ 1000) : (makeOf base target).length ≤ 30 + target.length + target.length / 100 := by
  obtain ⟨h1, h2, -, -⟩ := parts_spec base target
  rw [makeOf_eq]
  have l1 := lebF_len 10 base.length 2 (by omega)
  have l2 := lebF_len 10 target.length 2 (by omega)
  generalize aheadOf base target = p at *
  generalize behindOf base target = q at *
  have l3 := copF_len p 0 p (Nat.le_refl _)
  have l4 := copF_len q (base.length - q) q (Nat.le_refl _)
  have l5 := insF_len _ ((target.drop p).take (target.length - q - p)) (Nat.le_refl _)
  have hm : ((target.drop p).take (target.length - q - p)).length = target.length - q - p := by rw [List.length_take, List.length_drop]; omega
  rw [hm] at l5
  simp only [List.length_append]
  unfold lebOf copOf insOf
  rw [hm]
  split at l3 <;> split at l4 <;> omega

theorem make_same (b : List UInt8) (hbl : b.length ≤ 200000) : (makeOf b b).length ≤ 30 + 7 * (b.length / 65536) := by
  have hf := frontOf_self b
  rw [makeOf_eq]
  have l1 := lebF_len 10 b.length 3 (by omega)
  have hq : behindOf b b = 0 := by unfold behindOf; rw [hf]; simp [frontOf]
  have hp : aheadOf b b = if b.length < 8 then 0 else b.length := by unfold aheadOf; rw [hf]
  rw [hq]
  generalize aheadOf b b = p at *
  have l3 := copF_len p 0 p (Nat.le_refl _)
  have l5 := insF_len _ ((b.drop p).take (b.length - 0 - p)) (Nat.le_refl _)
  have hm : ((b.drop p).take (b.length - 0 - p)).length = b.length - 0 - p := by rw [List.length_take, List.length_drop]; omega
  rw [hm] at l5
  simp only [List.length_append]
  unfold lebOf copOf insOf
  rw [hm, copF]
  simp only [List.length_nil]
  split at hp <;> split at l3 <;> omega

end Go.Proofs.Ytnppjhkhfjpkfaa
