/-
  Plain: bytes by the codes that are given, and so much that comes again.
-/
import Derived.Test.YtaapnjhkflpiiaaBackPure
import Derived.Test.YtaapnjhkflpiiaaRefB
namespace Go.Proofs.Ytaapnjhkflpiiaa

def litBits : List UInt8 → List Nat
  | [] => []
  | c :: t => signBits c.toNat ++ litBits t
theorem litBits_app (b c : List UInt8) : litBits (b ++ c) = litBits b ++ litBits c := by
  induction b with
  | nil => rfl
  | cons x t ih => show signBits x.toNat ++ litBits (t ++ c) = _; rw [ih, ← List.append_assoc]; rfl
theorem litBits_isBits (b : List UInt8) : IsBits (litBits b) := by
  induction b with
  | nil => intro x h; cases h
  | cons x t ih => exact (signBits_isBits _).app ih
theorem litBits_len (b : List UInt8) : (litBits b).length ≤ 15 * b.length := by
  induction b with
  | nil => exact Nat.zero_le _
  | cons x t ih =>
    show (signBits x.toNat ++ litBits t).length ≤ 15 * (t.length + 1)
    have := signBits_len x.toNat
    rw [List.length_append]; omega

theorem signsR_lits (d : List UInt8) (most : Int) : ∀ (b o : List UInt8) (F p : Nat) (X : List Nat), Has d p (litBits b ++ X) → ((o.length + b.length : Nat) : Int) ≤ most → 8 * d.length < p + F →
    ∃ G, 8 * d.length < p + (litBits b).length + G ∧ signsR d most fixedL fixedD F p o = signsR d most fixedL fixedD G (p + (litBits b).length) (o ++ b) := by
  intro b
  induction b with
  | nil => intro o F p X _ _ hF; exact ⟨F, by simpa [litBits] using hF, by simp [litBits]⟩
  | cons c t ih =>
    intro o F p X hH hm hF
    have hH' : Has d p (signBits c.toNat ++ (litBits t ++ X)) := by rw [← List.append_assoc]; exact hH
    obtain ⟨F, rfl⟩ : ∃ g, F = g + 1 := ⟨F - 1, by have := hH.1; omega⟩
    have hlt := c.toNat_lt
    have e1 := signR_L (show c.toNat < 286 by omega) hH'.left
    have hlp := signR_le e1
    rw [signsR_b, e1, bind_of]
    dsimp only
    have hp : putR most o (UInt8.ofNat c.toNat) = .ok (o ++ [c]) := by
      unfold putR
      rw [if_neg (by simp at hm; omega), UInt8.ofNat_toNat]
    rw [if_pos hlt, hp, bind_of]
    obtain ⟨G, h1, h2⟩ := ih (o ++ [c]) F _ X hH'.right (by simp at hm ⊢; omega) (by omega)
    have e : p + (signBits c.toNat).length + (litBits t).length = p + (litBits (c :: t)).length := by
      show _ = p + (signBits c.toNat ++ litBits t).length
      rw [List.length_append]; omega
    rw [e] at h1 h2
    exact ⟨G, h1, by rw [h2, List.append_assoc]; rfl⟩

def growL (back : Nat) : Nat → List UInt8 → List UInt8
  | 0, o => o
  | n + 1, o => growL back n (o ++ [o.getD (o.length - back) 0])
theorem growL_len (back : Nat) : ∀ (n : Nat) (o : List UInt8), (growL back n o).length = o.length + n := by
  intro n
  induction n with
  | zero => intro o; rfl
  | succ n ih => intro o; rw [growL, ih, List.length_append]; simp; omega
theorem copy_grow (most : Int) (back : Nat) : ∀ (n : Nat) (o : List UInt8), ((o.length + n : Nat) : Int) ≤ most → copyGo most back n o = .ok (growL back n o) := by
  intro n
  induction n with
  | zero => intro o _; rfl
  | succ n ih =>
    intro o hm
    have hp : putR most o (o.getD (o.length - back) 0) = .ok (o ++ [o.getD (o.length - back) 0]) := by unfold putR; rw [if_neg (by omega)]
    rw [copyGo_b, hp]
    show copyGo most back n _ = _
    rw [ih _ (by simp at hm ⊢; omega)]
    rfl

def tailBits (b : List UInt8) (dd : Nat) : List Nat := if b = [] then [] else signBits 264 ++ codeBits dd 5
def fixBits (b : List UInt8) (dd : Nat) : List Nat := [1, 1, 0] ++ litBits b ++ tailBits b dd ++ signBits 256
def fixWant (b : List UInt8) (dd : Nat) : List UInt8 := if b = [] then [] else growL (dd + 1) 10 b

theorem tailBits_isBits (b : List UInt8) (dd : Nat) : IsBits (tailBits b dd) := by
  unfold tailBits
  split
  · intro x h; cases h
  · exact (signBits_isBits _).app (codeBits_isBits _ _)
theorem fixBits_isBits (b : List UInt8) (dd : Nat) : IsBits (fixBits b dd) := by
  have h3 : IsBits [1, 1, 0] := by intro x h; simp at h; omega
  exact ((h3.app (litBits_isBits b)).app (tailBits_isBits b dd)).app (signBits_isBits _)
theorem fixBits_len (b : List UInt8) (dd : Nat) (hb : b.length ≤ 300) : (fixBits b dd).length ≤ 5000 := by
  have h1 := litBits_len b
  have h2 := signBits_len 264
  have h3 := signBits_len 256
  unfold fixBits tailBits
  rw [List.length_append, List.length_append, List.length_append]
  split
  · simp; omega
  · rw [List.length_append, codeBits_len]; simp; omega

theorem rawOf_fix (b : List UInt8) (dd : Nat) (hdd : b ≠ [] → dd < 4 ∧ dd < b.length) (hb : b.length ≤ 300) :
    rawOf (packB (fixBits b dd)) 1000 = (fixWant b dd, (packB (fixBits b dd)).length, 0) := by
  have hH := has_packB (fixBits b dd) (fixBits_isBits b dd)
  have hl : (packB (fixBits b dd)).length = ((fixBits b dd).length + 7) / 8 := packB_len _
  generalize hd : packB (fixBits b dd) = d at *
  have h3 : ([1, 1, 0] : List Nat) = numBits 1 1 ++ numBits 1 2 := by decide
  have hH2 : Has d 0 (numBits 1 1 ++ (numBits 1 2 ++ (litBits b ++ (tailBits b dd ++ signBits 256)))) := by
    have : fixBits b dd = numBits 1 1 ++ (numBits 1 2 ++ (litBits b ++ (tailBits b dd ++ signBits 256))) := by
      unfold fixBits; rw [h3]; simp
    rw [← this]; exact hH
  have n1 : numR d 1 0 = .ok (1, 1) := numR_has hH2.left
  have n2 : numR d 2 1 = .ok (1, 3) := numR_has hH2.right.left
  have hH3 : Has d 3 (litBits b ++ (tailBits b dd ++ signBits 256)) := hH2.right.right
  obtain ⟨G, g1, g2⟩ := signsR_lits d 1000 b [] (8 * d.length + 1) 3 _ hH3 (by simp; omega) (by omega)
  rw [List.nil_append] at g2
  have hH4 := hH3.right
  have hS : signsR d 1000 fixedL fixedD (8 * d.length + 1) 3 [] = .ok (3 + (litBits b).length + (tailBits b dd).length + (signBits 256).length, fixWant b dd) := by
    rw [g2]
    generalize 3 + (litBits b).length = p at *
    have hfin : ∀ (F q : Nat) (o : List UInt8), Has d q (signBits 256) → 8 * d.length < q + F → signsR d 1000 fixedL fixedD F q o = .ok (q + (signBits 256).length, o) := by
      intro F q o hq hF
      obtain ⟨F, rfl⟩ : ∃ g, F = g + 1 := ⟨F - 1, by have := hq.1; omega⟩
      rw [signsR_b, signR_L (by decide) hq, bind_of]
      dsimp only
      rw [if_neg (show ¬ 256 < 256 by decide), if_pos rfl]
    by_cases h0 : b = []
    · subst h0
      have e : tailBits [] dd = [] := rfl
      rw [e] at hH4 ⊢
      exact hfin G p _ hH4 g1
    · have e : tailBits b dd = signBits 264 ++ codeBits dd 5 := if_neg h0
      have e2 : fixWant b dd = growL (dd + 1) 10 b := if_neg h0
      obtain ⟨hd4, hdl⟩ := hdd h0
      rw [e] at hH4
      rw [List.append_assoc] at hH4
      obtain ⟨G, rfl⟩ : ∃ g, G = g + 1 := ⟨G - 1, by have := hH4.1; omega⟩
      have s1 := signR_L (show 264 < 286 by decide) hH4.left
      have s2 := signR_D (show dd < 32 by omega) hH4.right.left
      have hle1 := signR_le s1
      have hle2 := signR_le s2
      rw [signsR_b, s1, bind_of]
      dsimp only
      rw [if_neg (show ¬ 264 < 256 by decide), if_neg (show ¬ 264 = 256 by decide), lenR_b, if_pos (show 264 < 265 by decide), bind_of]
      dsimp only
      rw [if_neg (show ¬ (sgn fixedD).length = 0 by rw [sgnD_len]; decide), s2, bind_of]
      dsimp only
      rw [distR_b, if_pos hd4, bind_of]
      dsimp only
      rw [if_neg (by omega), show 264 - 254 = 10 from rfl, copy_grow 1000 (dd + 1) 10 b (by omega), bind_of]
      have hr := hH4.right.right
      rw [codeBits_len] at hr
      rw [hfin G _ _ hr (by omega), e, e2, List.length_append, codeBits_len]
      congr 2 <;> omega
  rw [rawOf_end, rawGo_b, n1, bind_of]
  dsimp only
  rw [n2, bind_of]
  dsimp only
  rw [show blockR d 1000 1 3 [] = signsR d 1000 fixedL fixedD (8 * d.length + 1) 3 [] from rfl, hS, bind_of, if_pos rfl]
  show (fixWant b dd, (3 + (litBits b).length + (tailBits b dd).length + (signBits 256).length + 7) / 8, 0) = _
  rw [hl]
  unfold fixBits
  rw [List.length_append, List.length_append, List.length_append]
  rfl

/-- Bits as text. -/
def textOf (bs : List Nat) : List UInt8 := bs.map fun x => UInt8.ofNat (48 + x)
theorem textOf_app (a b : List Nat) : textOf (a ++ b) = textOf a ++ textOf b := by unfold textOf; rw [List.map_append]
theorem textOf_len (a : List Nat) : (textOf a).length = a.length := by unfold textOf; rw [List.length_map]
theorem genL_text : ∀ s, s < 286 → (genC fixedL).getD s [] = textOf (signBits s) := by decide +kernel
end Go.Proofs.Ytaapnjhkflpiiaa
