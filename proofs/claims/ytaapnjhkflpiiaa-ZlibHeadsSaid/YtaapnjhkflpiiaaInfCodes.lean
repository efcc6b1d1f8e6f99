/-
  Plain Lean: canonical codes as texts of bits (the document's way), and the next sign by them.
-/
import Derived.Test.YtaapnjhkflpiiaaInfPure
namespace Go.Proofs.Ytaapnjhkflpiiaa

/-- The l lowest bits of v as a text, the highest first. -/
def bitsText : Nat → Nat → List UInt8
  | 0, _ => []
  | l + 1, v => bitsText l (v / 2) ++ [UInt8.ofNat (48 + v % 2)]

theorem bitsText_len (l : Nat) : ∀ v, (bitsText l v).length = l := by
  induction l with
  | zero => intro v; rfl
  | succ l ih => intro v; simp [bitsText, ih]

theorem bitsText_snoc (l n b : Nat) (hb : b < 2) : bitsText l n ++ [UInt8.ofNat (48 + b)] = bitsText (l + 1) (2 * n + b) := by
  rw [bitsText, show (2 * n + b) / 2 = n from by omega, show (2 * n + b) % 2 = b from by omega]

theorem digit_inj {a b : Nat} (h : UInt8.ofNat (48 + a % 2) = UInt8.ofNat (48 + b % 2)) : a % 2 = b % 2 := by
  have h1 := congrArg UInt8.toNat h
  simp at h1
  omega

theorem bitsText_inj (l : Nat) : ∀ v w, v < 2 ^ l → w < 2 ^ l → bitsText l v = bitsText l w → v = w := by
  induction l with
  | zero => intro v w h1 h2 _; simp at h1 h2; omega
  | succ l ih =>
    intro v w h1 h2 h
    rw [bitsText, bitsText] at h
    have h3 := List.append_inj h (by rw [bitsText_len, bitsText_len])
    have h4 := digit_inj (List.cons.inj h3.2).1
    rw [Nat.pow_succ] at h1 h2
    have := ih (v / 2) (w / 2) (by omega) (by omega) h3.1
    omega

theorem bitsText_take (m : Nat) : ∀ l v, (bitsText (l + m) v).take l = bitsText l (v / 2 ^ m) := by
  induction m with
  | zero => intro l v; rw [Nat.add_zero, List.take_of_length_le (by rw [bitsText_len]; omega)]; simp
  | succ m ih =>
    intro l v
    rw [show l + (m + 1) = (l + m) + 1 from rfl, bitsText, List.take_append_of_le_length (by rw [bitsText_len]; omega), ih, Nat.div_div_eq_div_mul, Nat.pow_succ, Nat.mul_comm 2]

theorem bitsText_pad (m : Nat) : ∀ l v, bitsText l v ++ List.replicate m 48 = bitsText (l + m) (v * 2 ^ m) := by
  induction m with
  | zero => intro l v; simp
  | succ m ih =>
    intro l v
    rw [List.replicate_succ', ← List.append_assoc, ih, show l + (m + 1) = (l + m) + 1 from rfl, Nat.pow_succ, ← Nat.mul_assoc, Nat.mul_comm _ 2]
    exact bitsText_snoc (l + m) (v * 2 ^ m) 0 (by decide)

/-- The first code behind those of the lengths up to l. -/
def F (ls : List Nat) : Nat → Nat
  | 0 => 0
  | l + 1 => 2 * F ls l + cnt ls (l + 1)

theorem F_room (ls : List Nat) (l : Nat) (h : l ≤ 15) : F ls l * 2 ^ (15 - l) = roomTo ls l := by
  induction l with
  | zero => simp [F, roomTo]
  | succ l ih =>
    have e : 2 ^ (15 - l) = 2 * 2 ^ (15 - (l + 1)) := by rw [show 15 - l = (15 - (l + 1)) + 1 from by omega, Nat.pow_succ, Nat.mul_comm]
    rw [roomTo, ← ih (by omega), F, Nat.add_mul, e]
    congr 1
    rw [Nat.mul_assoc, Nat.mul_left_comm]

theorem roomTo_mono (ls : List Nat) (l m : Nat) (h : l ≤ m) : roomTo ls l ≤ roomTo ls m := by
  induction m with
  | zero => obtain rfl : l = 0 := by omega
            exact Nat.le_refl _
  | succ m ih =>
    rcases Nat.lt_or_ge l (m + 1) with h1 | h1
    · exact Nat.le_trans (ih (by omega)) (by rw [roomTo]; omega)
    · obtain rfl : l = m + 1 := by omega
      exact Nat.le_refl _

/-- Codes fit. -/
theorem F_le (ls : List Nat) (l : Nat) (h : l ≤ 15) (hr : roomTo ls 15 ≤ 32768) : F ls l ≤ 2 ^ l := by
  have h1 := F_room ls l h
  have h2 := roomTo_mono ls l 15 h
  have h3 : 2 ^ l * 2 ^ (15 - l) = 32768 := by rw [← Nat.pow_add, show l + (15 - l) = 15 from by omega]
  exact Nat.le_of_mul_le_mul_right (by rw [h1, h3]; omega) (Nat.pow_pos (n := 15 - l) (by decide : 0 < 2))

theorem idxTo_mem (ls : List Nat) (n i j : Nat) : j ∈ idxTo ls n i ↔ j < i ∧ ls.getD j 0 = n := by
  induction i with
  | zero => simp [idxTo]
  | succ i ih =>
    rw [idxTo]
    split
    · rename_i h
      rw [List.mem_append, ih, List.mem_singleton]
      constructor
      · rintro (h1 | rfl)
        · exact ⟨by omega, h1.2⟩
        · exact ⟨by omega, h⟩
      · intro h1
        by_cases e : j = i
        · exact .inr e
        · exact .inl ⟨by omega, h1.2⟩
    · rename_i h
      rw [ih]
      constructor
      · intro h1; exact ⟨by omega, h1.2⟩
      · intro h1
        refine ⟨?_, h1.2⟩
        rcases Nat.lt_or_ge j i with h2 | h2
        · exact h2
        · obtain rfl : j = i := by omega
          exact absurd h1.2 h

/-- How many before i have i's length. -/
def rank (ls : List Nat) (i : Nat) : Nat := (idxTo ls (ls.getD i 0) i).length

theorem idxTo_prefix (ls : List Nat) (n i j : Nat) (h : i ≤ j) : ∃ r, idxTo ls n j = idxTo ls n i ++ r := by
  induction j with
  | zero => obtain rfl : i = 0 := by omega
            exact ⟨[], by simp⟩
  | succ j ih =>
    rcases Nat.lt_or_ge i (j + 1) with h1 | h1
    · obtain ⟨r, hr⟩ := ih (by omega)
      rw [idxTo]
      split
      · exact ⟨r ++ [j], by rw [hr, List.append_assoc]⟩
      · exact ⟨r, hr⟩
    · obtain rfl : i = j + 1 := by omega
      exact ⟨[], by simp⟩

theorem idx_rank (ls : List Nat) (i : Nat) (hi : i < ls.length) : rank ls i < cnt ls (ls.getD i 0) ∧ (idx ls (ls.getD i 0)).getD (rank ls i) 0 = i := by
  obtain ⟨r, hr⟩ := idxTo_prefix ls (ls.getD i 0) (i + 1) ls.length hi
  have e : idxTo ls (ls.getD i 0) (i + 1) = idxTo ls (ls.getD i 0) i ++ [i] := by rw [idxTo, if_pos rfl]
  unfold cnt idx rank
  rw [hr, e]
  refine ⟨by simp, ?_⟩
  rw [List.append_assoc, getD_app_right _ _ _ _ (Nat.le_refl _)]
  simp

theorem rank_idxTo (ls : List Nat) (n : Nat) : ∀ i r, r < (idxTo ls n i).length → (idxTo ls n i).getD r 0 < i ∧ ls.getD ((idxTo ls n i).getD r 0) 0 = n ∧ (idxTo ls n ((idxTo ls n i).getD r 0)).length = r := by
  intro i
  induction i with
  | zero => intro r h; simp [idxTo] at h
  | succ i ih =>
    intro r h
    rw [idxTo] at h ⊢
    split at h
    · rename_i hn
      rw [if_pos hn]
      rcases Nat.lt_or_ge r (idxTo ls n i).length with h1 | h1
      · rw [getD_app _ _ _ _ h1]
        obtain ⟨a, b, c⟩ := ih r h1
        exact ⟨by omega, b, c⟩
      · have e : r = (idxTo ls n i).length := by simp at h; omega
        rw [getD_app_right _ _ _ _ h1, e]
        simp only [Nat.sub_self, List.getD_cons_zero]
        exact ⟨by omega, hn, trivial⟩
    · rename_i hn
      rw [if_neg hn]
      obtain ⟨a, b, c⟩ := ih r h
      exact ⟨by omega, b, c⟩

/-- A sign's code. -/
def val (ls : List Nat) (i : Nat) : Nat := 2 * F ls (ls.getD i 0 - 1) + rank ls i

theorem val_lt (ls : List Nat) (i : Nat) (hi : i < ls.length) (h1 : 1 ≤ ls.getD i 0) : val ls i < F ls (ls.getD i 0) := by
  have h := (idx_rank ls i hi).1
  unfold val
  generalize ls.getD i 0 = l at *
  obtain ⟨m, rfl⟩ : ∃ m, l = m + 1 := ⟨l - 1, by omega⟩
  rw [F, Nat.add_sub_cancel]
  omega

theorem sgnTo_len_mono (ls : List Nat) (l m : Nat) (h : l ≤ m) : (sgnTo ls l).length ≤ (sgnTo ls m).length := by
  induction m with
  | zero => obtain rfl : l = 0 := by omega
            exact Nat.le_refl _
  | succ m ih =>
    rcases Nat.lt_or_ge l (m + 1) with h1 | h1
    · exact Nat.le_trans (ih (by omega)) (by rw [sgnTo]; simp)
    · obtain rfl : l = m + 1 := by omega
      exact Nat.le_refl _

theorem sgnTo_prefix (ls : List Nat) (l m : Nat) (h : l ≤ m) : ∃ r, sgnTo ls m = sgnTo ls l ++ r := by
  induction m with
  | zero => obtain rfl : l = 0 := by omega
            exact ⟨[], by simp⟩
  | succ m ih =>
    rcases Nat.lt_or_ge l (m + 1) with h1 | h1
    · obtain ⟨r, hr⟩ := ih (by omega)
      exact ⟨r ++ idx ls (m + 1), by rw [sgnTo, hr, List.append_assoc]⟩
    · obtain rfl : l = m + 1 := by omega
      exact ⟨[], by simp⟩

/-- The signs of length l + 1 stand behind the shorter ones. -/
theorem sgn_getD (ls : List Nat) (l r : Nat) (hl : l < 15) (hr : r < cnt ls (l + 1)) : (sgn ls).getD ((sgnTo ls l).length + r) 0 = (idx ls (l + 1)).getD r 0 := by
  obtain ⟨t, ht⟩ := sgnTo_prefix ls (l + 1) 15 (by omega)
  unfold sgn
  rw [ht, sgnTo, List.append_assoc, getD_app_right _ _ _ _ (by omega)]
  rw [show (sgnTo ls l).length + r - (sgnTo ls l).length = r from by omega]
  exact getD_app _ _ _ _ hr

end Go.Proofs.Ytaapnjhkflpiiaa
