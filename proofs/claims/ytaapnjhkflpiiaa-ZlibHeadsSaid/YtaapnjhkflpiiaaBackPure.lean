/-
  Plain Lean: what is packed by the codes that are given is unpacked to what it was.
-/
import Derived.Test.YtaapnjhkflpiiaaInfSto
import Derived.Test.YtaapnjhkflpiiaaFixedPure
namespace Go.Proofs.Ytaapnjhkflpiiaa

/-- The next sign, out of a row of bits. -/
def signB (cs : Nat → Nat) (sg : List Nat) : List Nat → Nat → Nat → Nat → Nat → Option Nat
  | [], _, _, _, _ => none
  | b :: X, l, n, fi, k =>
    if 2 * n + b < 2 * fi + cs l then (if X = [] then some (sg.getD (k + (2 * n + b - 2 * fi)) 0) else none)
    else if k + cs l = sg.length then none
    else signB cs sg X (l + 1) (2 * n + b) (2 * fi + cs l) (k + cs l)

theorem Has.cons {d : List UInt8} {p b : Nat} {X : List Nat} (h : Has d p (b :: X)) : p < 8 * d.length ∧ bitAt d p = b ∧ Has d (p + 1) X := by
  have h1 := h.1
  rw [List.length_cons] at h1
  refine ⟨by omega, ?_, by omega, fun i hi => ?_⟩
  · have := h.2 0 (by simp)
    simpa using this
  · have := h.2 (i + 1) (by simp; omega)
    rw [Nat.add_right_comm, Nat.add_assoc, this]; rfl

theorem signGo_of_B (d : List UInt8) (ls : List Nat) (cs : Nat → Nat) (hcs : ∀ l, l < 16 → 1 ≤ l → cnt ls l = cs l) : ∀ (X : List Nat) (f l n fi k p s : Nat), Has d p X → X.length ≤ f → l + f = 16 → 1 ≤ l → signB cs (sgn ls) X l n fi k = some s →
    signGo d ls f l n fi k p = .ok (s, p + X.length) := by
  intro X
  induction X with
  | nil => intro f l n fi k p s _ _ _ _ h; cases h
  | cons b X ih =>
    intro f l n fi k p s hX hXf hl h1 h
    obtain ⟨hp, hb, hX2⟩ := hX.cons
    rw [List.length_cons] at hXf
    rw [signB] at h
    cases f with
    | zero => omega
    | succ f =>
      rw [signGo, if_pos hp, hb, hcs l (by omega) h1]
      split at h
      · rename_i hc
        rw [if_pos hc]
        split at h
        · rename_i hnil
          injection h with h
          rw [h, hnil]; rfl
        · cases h
      · rename_i hc
        rw [if_neg hc]
        split at h
        · cases h
        · rename_i hk
          rw [if_neg hk, ih f (l + 1) _ _ _ (p + 1) s hX2 (by omega) (by omega) (by omega) h, List.length_cons, Nat.add_assoc, Nat.add_comm 1]

def csL (l : Nat) : Nat := if l = 7 then 24 else if l = 8 then 152 else if l = 9 then 112 else 0
def csD (l : Nat) : Nat := if l = 5 then 32 else 0
theorem cntL : ∀ l, l < 16 → 1 ≤ l → cnt fixedL l = csL l := by decide +kernel
theorem cntD : ∀ l, l < 16 → 1 ≤ l → cnt fixedD l = csD l := by decide +kernel
theorem signsL : ∀ s, s < 286 → signB csL (sgn fixedL) (signBits s) 1 0 0 0 = some s := by decide +kernel
theorem signsD : ∀ s, s < 32 → signB csD (sgn fixedD) (codeBits s 5) 1 0 0 0 = some s := by decide +kernel

theorem signR_L {d : List UInt8} {p s : Nat} (hs : s < 286) (h : Has d p (signBits s)) : signR d fixedL p = .ok (s, p + (signBits s).length) :=
  signGo_of_B d fixedL csL cntL _ 15 1 0 0 0 p s h (by have := signBits_len s; omega) rfl (by decide) (signsL s hs)
theorem signR_D {d : List UInt8} {p s : Nat} (hs : s < 32) (h : Has d p (codeBits s 5)) : signR d fixedD p = .ok (s, p + 5) := by
  have := signGo_of_B d fixedD csD cntD _ 15 1 0 0 0 p s h (by rw [codeBits_len]; omega) rfl (by decide) (signsD s hs)
  rw [codeBits_len] at this
  exact this

theorem bind_of {α β : Type} (x : α) (k : α → Except Nat β) : (Except.ok x : Except Nat α).bind k = k x := rfl

theorem moreF_lo (c k : Nat) : ∀ f m, (c ≤ k / 2 ^ m → f + m = 16 → k < 2 ^ 16 → c ≤ 2 * (k / 2 ^ moreF c k f m) + 1) := by
  intro f
  induction f with
  | zero => intro m hm h16 hk; rw [moreF]; omega
  | succ f ih =>
    intro m hm h16 hk
    rw [moreF, if_neg (by omega)]
    by_cases h : c ≤ k / 2 ^ (m + 1)
    · exact ih (m + 1) h (by omega) hk
    · have h1 : moreF c k f (m + 1) = m + 1 := by
        cases f with
        | zero => rfl
        | succ f => rw [moreF, if_pos (by omega)]
      rw [h1, Nat.pow_succ, ← Nat.div_div_eq_div_mul]
      omega

theorem div_back (k m : Nat) : k / 2 ^ m * 2 ^ m + k % 2 ^ m = k := by rw [Nat.mul_comm]; exact Nat.div_add_mod k (2 ^ m)

/-- A length is read. -/
theorem len_read {d : List UInt8} {p n : Nat} (h3 : 3 ≤ n) (hn : n ≤ 258) (h : Has d p (lengthBits n)) :
    ∃ s p1, signR d fixedL p = .ok (s, p1) ∧ 256 < s ∧ lenR d s p1 = .ok (n, p + (lengthBits n).length) := by
  unfold lengthBits at h ⊢
  by_cases h258 : n = 258
  · rw [if_pos h258] at h ⊢
    have e := signR_L (show 285 < 286 by omega) h
    generalize p + (signBits 285).length = q at *
    refine ⟨285, q, e, by omega, ?_⟩
    rw [lenR_b, if_neg (show ¬ 285 < 265 by omega), if_pos rfl, h258]
  · rw [if_neg h258] at h ⊢
    by_cases h8 : n - 3 < 8
    · rw [if_pos h8] at h ⊢
      refine ⟨257 + (n - 3), _, signR_L (by omega) h, by omega, ?_⟩
      rw [lenR_b, if_pos (show 257 + (n - 3) < 265 by omega), show 257 + (n - 3) - 254 = n by omega]
    · rw [if_neg h8] at h ⊢
      have hs := moreF_stop 8 (n - 3) (by decide) 16 0 rfl (by omega)
      have hl := moreF_lo 8 (n - 3) 16 0 (by simp; omega) rfl (by omega)
      have hm1 : 1 ≤ moreF 8 (n - 3) 16 0 := by
        rcases Nat.eq_zero_or_pos (moreF 8 (n - 3) 16 0) with h0 | h0
        · rw [h0] at hs; simp at hs; omega
        · exact h0
      generalize moreF 8 (n - 3) 16 0 = m at *
      have hb := div_back (n - 3) m
      have hm5 : m ≤ 5 := by
        rcases Nat.lt_or_ge 5 m with h6 | h6
        · have h64 : 2 ^ 6 ≤ 2 ^ m := Nat.pow_le_pow_right (by decide) h6
          have : (n - 3) / 2 ^ m = 0 ∨ 4 * 2 ^ m ≤ n - 3 := by
            right
            have : 4 * 2 ^ m ≤ (n - 3) / 2 ^ m * 2 ^ m := Nat.mul_le_mul_right _ (by omega)
            omega
          omega
        · exact h6
      generalize hx : (n - 3) / 2 ^ m = x at *
      generalize hr : (n - 3) % 2 ^ m = r at *
      have hx4 : x % 4 = x - 4 := by omega
      refine ⟨257 + 4 * (m + 1) + x % 4, _, signR_L (by omega) h.left, by omega, ?_⟩
      have hR := numR_has h.right
      rw [lenR_b, if_neg (by omega), if_neg (by omega), if_neg (by omega), show (257 + 4 * (m + 1) + x % 4 - 257) / 4 - 1 = m by omega, show (257 + 4 * (m + 1) + x % 4 - 257) % 4 = x - 4 by omega, hR]
      show Except.ok (3 + (4 + (x - 4)) * 2 ^ m + r % 2 ^ m, _) = _
      have hr2 : r % 2 ^ m = r := by rw [← hr, Nat.mod_mod]
      rw [hr2, show 4 + (x - 4) = x by omega, List.length_append, numBits_len]
      congr 2
      · omega
      · omega

/-- A distance is read. -/
theorem dist_read {d : List UInt8} {p n : Nat} (h1 : 1 ≤ n) (hn : n ≤ 32768) (h : Has d p (distBits n)) :
    ∃ s p1, signR d fixedD p = .ok (s, p1) ∧ distR d s p1 = .ok (n, p + (distBits n).length) := by
  unfold distBits at h ⊢
  by_cases h4 : n - 1 < 4
  · rw [if_pos h4] at h ⊢
    refine ⟨n - 1, _, signR_D (by omega) h, ?_⟩
    rw [distR_b, if_pos h4, codeBits_len, show n - 1 + 1 = n by omega]
  · rw [if_neg h4] at h ⊢
    have hs := moreF_stop 4 (n - 1) (by decide) 16 0 rfl (by omega)
    have hl := moreF_lo 4 (n - 1) 16 0 (by simp; omega) rfl (by omega)
    have hm1 : 1 ≤ moreF 4 (n - 1) 16 0 := by
      rcases Nat.eq_zero_or_pos (moreF 4 (n - 1) 16 0) with h0 | h0
      · rw [h0] at hs; simp at hs; omega
      · exact h0
    generalize moreF 4 (n - 1) 16 0 = m at *
    have hb := div_back (n - 1) m
    have hm13 : m ≤ 13 := by
      rcases Nat.lt_or_ge 13 m with h6 | h6
      · have h64 : 2 ^ 14 ≤ 2 ^ m := Nat.pow_le_pow_right (by decide) h6
        have : 2 * 2 ^ m ≤ (n - 1) / 2 ^ m * 2 ^ m := Nat.mul_le_mul_right _ (by omega)
        omega
      · exact h6
    generalize hx : (n - 1) / 2 ^ m = x at *
    generalize hr : (n - 1) % 2 ^ m = r at *
    refine ⟨2 * (m + 1) + x % 2, _, signR_D (by omega) h.left, ?_⟩
    have hR := numR_has h.right
    rw [codeBits_len] at hR
    rw [distR_b, if_neg (by omega), if_neg (by omega), show (2 * (m + 1) + x % 2) / 2 - 1 = m by omega, show (2 * (m + 1) + x % 2) % 2 = x - 2 by omega, hR]
    show Except.ok (1 + (2 + (x - 2)) * 2 ^ m + r % 2 ^ m, _) = _
    have hr2 : r % 2 ^ m = r := by rw [← hr, Nat.mod_mod]
    rw [hr2, show 2 + (x - 2) = x by omega, List.length_append, numBits_len, codeBits_len]
    congr 2
    · omega
    · omega

theorem comF_same : ∀ (a b : List UInt8) (n : Nat), n ≤ comF a b → ∀ j, j < n → a.getD j 0 = b.getD j 0
  | [], b, n, h, j, hj => by rw [comF_nil_left] at h; omega
  | x :: xs, [], n, h, j, hj => by rw [comF_nil_right] at h; omega
  | x :: xs, y :: ys, n, h, j, hj => by
    rw [comF] at h
    split at h
    · rename_i hxy
      cases j with
      | zero => exact hxy
      | succ j => exact comF_same xs ys (n - 1) (by omega) j (by omega)
    · omega
theorem getD_drop (b : List UInt8) (k j : Nat) : (b.drop k).getD j 0 = b.getD (k + j) 0 := by
  rw [List.getD_eq_getElem?_getD, List.getElem?_drop, List.getD_eq_getElem?_getD]

/-- What comes again. -/
theorem again_spec (b : List UInt8) (i : Nat) (h : 3 ≤ (again b i).1) : 1 ≤ (again b i).2 ∧ (again b i).2 ≤ i ∧ (again b i).2 ≤ 32768 ∧ (again b i).1 ≤ 258 ∧ i + (again b i).1 ≤ b.length ∧
    ∀ j, j < (again b i).1 → b.getD (i + j) 0 = b.getD (i - (again b i).2 + j) 0 := by
  unfold again at h ⊢
  split at h
  · rename_i h3
    rw [if_pos h3]
    split at h
    · rename_i was hw
      have hlt := lastSeen_lt _ _ _ _ hw
      split at h
      · rename_i hd
        rw [if_pos hd]
        simp only at h ⊢
        have hc := comF_le (b.drop was) (b.drop i)
        rw [List.length_drop] at hc
        refine ⟨by omega, by omega, by omega, by omega, by omega, fun j hj => ?_⟩
        have := comF_same _ _ _ (Nat.le_refl _) j (show j < comF (b.drop was) (b.drop i) by omega)
        rw [getD_drop, getD_drop] at this
        rw [← this]
        congr 1
        omega
      · simp at h
    · simp at h
  · simp at h

theorem take_next (b : List UInt8) (i : Nat) (h : i < b.length) : b.take i ++ [b.getD i 0] = b.take (i + 1) := by
  rw [List.take_succ_eq_append_getElem h, List.getD_eq_getElem?_getD, List.getElem?_eq_getElem h]; rfl

theorem copy_again (b : List UInt8) (most : Int) (back : Nat) (h1 : 1 ≤ back) : ∀ (n i : Nat), back ≤ i → i + n ≤ b.length → (∀ j, j < n → b.getD (i + j) 0 = b.getD (i - back + j) 0) → ((i + n : Nat) : Int) ≤ most → copyGo most back n (b.take i) = .ok (b.take (i + n)) := by
  intro n
  induction n with
  | zero => intro i _ _ _ _; rw [copyGo]; rfl
  | succ n ih =>
    intro i hb hl hs hm
    have hlen : (b.take i).length = i := by rw [List.length_take]; omega
    have hc : (b.take i).getD ((b.take i).length - back) 0 = b.getD i 0 := by
      rw [hlen, List.getD_eq_getElem?_getD, List.getElem?_take, if_pos (by omega), ← List.getD_eq_getElem?_getD]
      have := hs 0 (by omega)
      simpa using this.symm
    rw [copyGo_b, hc]
    have hp : putR most (b.take i) (b.getD i 0) = .ok (b.take (i + 1)) := by
      unfold putR; rw [if_neg (by rw [hlen]; omega), take_next b i (by omega)]
    rw [hp]
    show copyGo most back n (b.take (i + 1)) = _
    rw [ih (i + 1) (by omega) (by omega) (fun j hj => by
      have := hs (j + 1) (by omega)
      rw [show i + 1 + j = i + (j + 1) by omega, this]
      congr 1
      omega) (by omega), show i + 1 + n = i + (n + 1) by omega]

theorem sgnD_len : (sgn fixedD).length = 32 := by decide +kernel

theorem signsR_fixedGo (b d : List UInt8) (most : Int) (hm : (b.length : Int) ≤ most) : ∀ (f i F p : Nat), Has d p (fixedGo b f i ++ signBits 256) → b.length < i + f → i ≤ b.length → 8 * d.length < p + F →
    signsR d most fixedL fixedD F p (b.take i) = .ok (p + (fixedGo b f i).length + (signBits 256).length, b) := by
  intro f
  induction f with
  | zero => intro i F p _ h1 h2; omega
  | succ f ih =>
    intro i F p hH h1 h2 hF
    rw [fixedGo] at hH ⊢
    obtain ⟨F, rfl⟩ : ∃ g, F = g + 1 := ⟨F - 1, by
      have := hH.1
      omega⟩
    rw [signsR_b]
    by_cases hi : i < b.length
    · rw [if_pos hi] at hH ⊢
      by_cases h3 : 3 ≤ (again b i).1
      · rw [if_pos h3] at hH ⊢
        obtain ⟨b1, b2, b3, b4, b5, b6⟩ := again_spec b i h3
        obtain ⟨n, hn⟩ : ∃ n, n = (again b i).1 := ⟨_, rfl⟩
        obtain ⟨back, hback⟩ : ∃ k, k = (again b i).2 := ⟨_, rfl⟩
        rw [← hn] at hH h3 b4 b5 b6 ⊢
        rw [← hback] at hH b1 b2 b3 b6 ⊢
        rw [List.append_assoc, List.append_assoc] at hH
        obtain ⟨s, p1, e1, e2, e3⟩ := len_read h3 b4 hH.left
        obtain ⟨s2, p3, e4, e5⟩ := dist_read b1 b3 hH.right.left
        have hlp := signR_le e1
        have hlp2 := (lenR_pos e3 hlp.2.1).1
        have hlp3 := signR_le e4
        have hlp4 := (distR_pos e5 hlp3.2.1).1
        simp only at hlp2 hlp4
        have e6 := copy_again b most back b1 n i b2 b5 b6 (by omega)
        have e7 : ¬ (b.take i).length < back := by rw [List.length_take]; omega
        rw [e1, bind_of]
        dsimp only
        rw [if_neg (show ¬ s < 256 by omega), if_neg (show ¬ s = 256 by omega), e3, bind_of]
        dsimp only
        rw [if_neg (show ¬ (sgn fixedD).length = 0 by rw [sgnD_len]; decide), e4, bind_of]
        dsimp only
        rw [e5, bind_of]
        dsimp only
        rw [if_neg e7, e6, bind_of, ih (i + n) F _ hH.right.right (by omega) b5 (by omega), List.length_append, List.length_append]
        congr 2
        omega
      · rw [if_neg h3] at hH ⊢
        rw [List.append_assoc] at hH
        have hlt := (b.getD i 0).toNat_lt
        have e1 := signR_L (by omega) hH.left
        have hlp := signR_le e1
        rw [e1, bind_of]
        dsimp only
        have hp : putR most (b.take i) (UInt8.ofNat (b.getD i 0).toNat) = .ok (b.take (i + 1)) := by
          unfold putR
          rw [if_neg (by rw [List.length_take]; omega), UInt8.ofNat_toNat, take_next b i hi]
        rw [if_pos hlt, hp, bind_of, ih (i + 1) F _ hH.right (by omega) (by omega) (by omega), List.length_append]
        congr 2
        omega
    · rw [if_neg hi] at hH ⊢
      rw [List.nil_append] at hH
      have e1 := signR_L (by decide) hH
      rw [e1, bind_of]
      dsimp only
      rw [if_neg (show ¬ 256 < 256 by decide), if_pos rfl, List.take_of_length_le (by omega)]
      rfl

theorem fixedGo_isBits (b : List UInt8) : ∀ (f i : Nat), IsBits (fixedGo b f i) := by
  intro f
  induction f with
  | zero => intro i x h; cases h
  | succ f ih =>
    intro i
    rw [fixedGo]
    split
    · split
      · exact ((lengthBits_isBits _).app (distBits_isBits _)).app (ih _)
      · exact (signBits_isBits _).app (ih _)
    · intro x h; cases h
theorem fixedBits_isBits (b : List UInt8) : IsBits (fixedBits b) := ((numBits_isBits _ _).app (fixedGo_isBits _ _ _)).app (signBits_isBits _)

/-- What is packed by the codes that are given comes back. -/
theorem rawOf_fixed (b : List UInt8) (most : Int) (hm : (b.length : Int) ≤ most) : rawOf (fixedOf b) most = (b, (fixedOf b).length, 0) := by
  have hH := has_packB (fixedBits b) (fixedBits_isBits b)
  have hl : (fixedOf b).length = ((fixedBits b).length + 7) / 8 := packB_len _
  unfold fixedBits at hH
  rw [List.append_assoc] at hH
  have h3 : numBits 3 3 = numBits 1 1 ++ numBits 1 2 := by decide
  rw [h3, List.append_assoc] at hH
  have n1 : numR (fixedOf b) 1 0 = .ok (1, 1) := numR_has hH.left
  have n2 : numR (fixedOf b) 2 1 = .ok (1, 3) := numR_has hH.right.left
  have hS := signsR_fixedGo b (fixedOf b) most hm (b.length + 1) 0 (8 * (fixedOf b).length + 1) 3 hH.right.right (by omega) (by omega) (by omega)
  rw [List.take_zero] at hS
  rw [rawOf_end, rawGo_b, n1, bind_of]
  dsimp only
  rw [n2, bind_of]
  dsimp only
  rw [show blockR (fixedOf b) most 1 3 [] = signsR (fixedOf b) most fixedL fixedD (8 * (fixedOf b).length + 1) 3 [] from rfl, hS, bind_of, if_pos rfl]
  show (b, (3 + (fixedGo b (b.length + 1) 0).length + (signBits 256).length + 7) / 8, 0) = _
  rw [hl]
  unfold fixedBits
  rw [List.length_append, List.length_append, numBits_len]

theorem rawOf_pack (b : List UInt8) (most : Int) (hm : (b.length : Int) ≤ most) : rawOf (rawPackOf b) most = (b, (rawPackOf b).length, 0) := by
  unfold rawPackOf
  split
  · exact rawOf_fixed b most hm
  · unfold storedOf
    rw [storedE_F]
    exact rawOf_storedE 65535 (by decide) (by decide) _ b (Nat.lt_succ_self _) most hm

end Go.Proofs.Ytaapnjhkflpiiaa
