/-
  A body's entry, as the document reads it: plain.
-/
import Derived.Test.YtbllpjphlanchaaEntsPure
namespace Go.Proofs.Ytbllpjphlanchaa
open Go.RowKit Go.Mix

theorem fz_spec {l : List UInt8} {c : UInt8} {i : Nat} (h : fz l c = some i) : l[i]? = some c ∧ ∀ k : Nat, k < i → l[k]? ≠ some c := by
  unfold fz at h
  rw [List.findIdx?_eq_some_iff_getElem] at h
  obtain ⟨hi, h1, h2⟩ := h
  refine ⟨by rw [List.getElem?_eq_getElem hi, of_decide_eq_true h1], fun k hk he => ?_⟩
  have := h2 k hk
  rw [decide_eq_true_eq] at this
  rw [List.getElem?_eq_getElem (by omega)] at he
  exact this (by injection he)

/-- A word that is a mode's. -/
theorem modeOf_word {s : List UInt8} (h : modeOf s ≠ 0) : s.length ≤ 6 ∧ (∀ k : Nat, s[k]? ≠ some 0) := by
  unfold modeOf at h
  cases hf : modesL.find? fun m => decide (digs m = s) with
  | none => rw [hf] at h; exact absurd rfl h
  | some m =>
    have h1 := List.find?_some hf
    have h2 := List.mem_of_find?_eq_some hf
    have h3 := of_decide_eq_true h1
    subst h3
    simp [modesL] at h2
    rcases h2 with rfl | rfl | rfl | rfl | rfl
    all_goals
      refine ⟨by decide, fun k => ?_⟩
      intro hk
      have := List.mem_of_getElem? hk
      exact absurd this (by decide)
theorem digs_dif : ∀ j k : Fin 5, k.1 < j.1 → digs (modesL[k.1]'(k.2)) ≠ digs (modesL[j.1]'(j.2)) := by decide
/-- What is found, each mode by its digits. -/
theorem modeOf_at {s : List UInt8} {j : Nat} (hj : j < modesL.length) (h : digs modesL[j] = s) : modeOf s = modesL[j] := by
  unfold modeOf
  rw [find_take (p := fun m => decide (digs m = s)) hj (fun k hk => ?_) (decide_eq_true h)]
  · rfl
  · rw [decide_eq_false_iff_not, ← h]
    exact digs_dif ⟨j, hj⟩ ⟨k, Nat.lt_trans hk hj⟩ hk
theorem modeOf_no {s : List UInt8} (h : ∀ j (hj : j < modesL.length), digs modesL[j] ≠ s) : modeOf s = 0 := by
  unfold modeOf
  rw [List.find?_eq_none.2]
  · rfl
  · intro x hx
    obtain ⟨j, hj, rfl⟩ := List.getElem_of_mem hx
    rw [decide_eq_true_eq]
    exact h j hj

/-- Where the word ends: none of its bytes is a space; it ends with the body, at a space, or behind seven bytes. -/
def WordAt (b : List UInt8) (i : Nat) : Prop := i ≤ b.length ∧ i ≤ 7 ∧ (∀ k : Nat, k < i → b[k]? ≠ some 32) ∧ (i = b.length ∨ b[i]? = some 32 ∨ i = 7)

theorem step_word {b r : List UInt8} {e : Ent} (h : stepE b = some (e, r)) : ∃ i j, fz b 0 = some i ∧ j < i ∧ b[j]? = some 32 ∧ (∀ k : Nat, k < j → b[k]? ≠ some 32) ∧ modeOf (b.take j) ≠ 0 ∧ 20 ≤ (b.drop (i + 1)).length := by
  unfold stepE at h
  split at h
  · cases h
  · rename_i i hi
    split at h
    · cases h
    · rename_i j hj
      split at h
      · rename_i hc
        obtain ⟨h1, h2⟩ := fz_spec hj
        have hji : j < i := by
          have := (List.getElem?_eq_some_iff.1 h1).1
          rw [List.length_take] at this
          omega
        refine ⟨i, j, hi, hji, ?_, fun k hk => ?_, ?_, hc.2⟩
        · rw [List.getElem?_take, if_pos hji] at h1; exact h1
        · have := h2 k hk
          rw [List.getElem?_take, if_pos (by omega)] at this
          exact this
        · have := hc.1
          rw [List.take_take, Nat.min_eq_left (by omega)] at this
          exact this
      · cases h
theorem word_eq {b r : List UInt8} {e : Ent} {i : Nat} (hw : WordAt b i) (h : stepE b = some (e, r)) : modeOf (b.take i) ≠ 0 ∧ b[i]? = some 32 := by
  obtain ⟨z, j, _, hjz, hj, hbef, hm, _⟩ := step_word h
  obtain ⟨h1, h2, h3, h4⟩ := hw
  have hjl := (List.getElem?_eq_some_iff.1 hj).1
  have h6 := (modeOf_word hm).1
  rw [List.length_take] at h6
  have hij : i ≤ j := by
    rcases Nat.lt_or_ge j i with h | h
    · exact absurd hj (h3 j h)
    · exact h
  have hji : j = i := by
    rcases h4 with h | h | h
    · omega
    · rcases Nat.lt_or_ge i j with h' | h'
      · exact absurd h (hbef i h')
      · omega
    · omega
  subst hji
  exact ⟨hm, hj⟩
theorem ref_none1 {b : List UInt8} {i : Nat} (hw : WordAt b i) (hb : modeOf (b.take i) = 0 ∨ b[i]? ≠ some 32) : stepE b = none := by
  cases h : stepE b with
  | none => rfl
  | some x =>
    obtain ⟨e, r⟩ := x
    obtain ⟨h1, h2⟩ := word_eq hw h
    rcases hb with hb | hb
    · exact absurd hb h1
    · exact absurd h2 hb
/-- Where the name ends. -/
def NameAt (b : List UInt8) (i z : Nat) : Prop := i < z ∧ z ≤ b.length ∧ (∀ k : Nat, i < k → k < z → b[k]? ≠ some 0) ∧ (z = b.length ∨ b[z]? = some 0)
theorem ref_fz {b : List UInt8} {i z : Nat} (hw : WordAt b i) (hm : modeOf (b.take i) ≠ 0) (h32 : b[i]? = some 32) (hz : NameAt b i z) (h0 : b[z]? = some 0) : fz b 0 = some z ∧ fz (b.take z) 32 = some i := by
  obtain ⟨h1, h2, h3, _⟩ := hz
  refine ⟨fz_some h0 fun k hk => ?_, fz_some (by rw [List.getElem?_take, if_pos h1]; exact h32) fun k hk => by rw [List.getElem?_take, if_pos (by omega)]; exact hw.2.2.1 k hk⟩
  rcases Nat.lt_or_ge k i with h | h
  · have := (modeOf_word hm).2 k
    rw [List.getElem?_take, if_pos h] at this
    exact this
  · rcases Nat.lt_or_eq_of_le h with h' | h'
    · exact h3 k h' hk
    · subst h'; rw [h32]; decide
theorem ref_none2 {b : List UInt8} {i z : Nat} (hw : WordAt b i) (hm : modeOf (b.take i) ≠ 0) (h32 : b[i]? = some 32) (hz : NameAt b i z) (hb : z = b.length ∨ b.length - z < 21) : stepE b = none := by
  cases h : stepE b with
  | none => rfl
  | some x =>
    obtain ⟨e, r⟩ := x
    obtain ⟨y, j, hy, hjy, hj, hbef, hmj, h20⟩ := step_word h
    obtain ⟨y1, y2⟩ := fz_spec hy
    obtain ⟨_, w2, w3, w4⟩ := hw
    have hji : j = i := by
      rcases Nat.lt_or_ge j i with h | h
      · exact absurd hj (w3 j h)
      · rcases Nat.lt_or_ge i j with h' | h'
        · exact absurd h32 (hbef i h')
        · omega
    subst hji
    obtain ⟨z1, z2, z3, z4⟩ := hz
    have hyl := (List.getElem?_eq_some_iff.1 y1).1
    rw [List.length_drop] at h20
    have hyz : z ≤ y := by
      rcases Nat.lt_or_ge y z with h | h
      · exact absurd y1 (z3 y hjy h)
      · exact h
    rcases z4 with h | h
    · omega
    · have : y ≤ z := by
        rcases Nat.lt_or_ge z y with h' | h'
        · exact absurd h (y2 z h')
        · exact h'
      rcases hb with hb | hb <;> omega
theorem ref_some {b : List UInt8} {i z : Nat} (hw : WordAt b i) (hm : modeOf (b.take i) ≠ 0) (h32 : b[i]? = some 32) (hz : NameAt b i z) (hb : ¬ (z = b.length ∨ b.length - z < 21)) :
    ∃ x : Id20, x.1 = (b.drop (z + 1)).take 20 ∧ stepE b = some (⟨modeOf (b.take i), (b.take z).drop (i + 1), x⟩, b.drop (z + 1 + 20)) := by
  have h0 : b[z]? = some 0 := by
    rcases hz.2.2.2 with h | h
    · exact absurd (.inl h) hb
    · exact h
  obtain ⟨e1, e2⟩ := ref_fz hw hm h32 hz h0
  have hl : 20 ≤ (b.drop (z + 1)).length := by rw [List.length_drop]; omega
  refine ⟨⟨(b.drop (z + 1)).take 20, by rw [List.length_take]; omega⟩, rfl, ?_⟩
  have ht : (b.take z).take i = b.take i := by rw [List.take_take, Nat.min_eq_left (Nat.le_of_lt hz.1)]
  unfold stepE
  rw [e1]
  simp only [e2]
  rw [dif_pos ⟨by rw [ht]; exact hm, hl⟩]
  simp only [ht, List.drop_drop]

/-- What has been read, and what is left. -/
theorem readE_nil : ∀ n, readE n [] = some []
  | 0 => rfl
  | _ + 1 => rfl
theorem readE_fuel : ∀ (n m : Nat) (b : List UInt8), b.length ≤ n → b.length ≤ m → readE n b = readE m b
  | 0, m, b, hn, _ => by
    obtain rfl : b = [] := List.eq_nil_of_length_eq_zero (by omega)
    rw [readE_nil, readE_nil]
  | n + 1, 0, b, _, hm => by
    obtain rfl : b = [] := List.eq_nil_of_length_eq_zero (by omega)
    rw [readE_nil, readE_nil]
  | n + 1, m + 1, b, hn, hm => by
    unfold readE
    split
    · rfl
    · split
      · rfl
      · rename_i e r h
        have := stepE_len h
        rw [readE_fuel n m r (by omega) (by omega)]
theorem readE_none {b : List UInt8} (h0 : b ≠ []) (h : stepE b = none) : readE b.length b = none := by
  cases b with
  | nil => exact absurd rfl h0
  | cons x b => rw [List.length_cons, readE, if_neg h0, h]
theorem readE_some {b r : List UInt8} {e : Ent} (h : stepE b = some (e, r)) : readE b.length b = (readE r.length r).map (e :: ·) := by
  have h1 := stepE_len h
  cases b with
  | nil => simp at h1
  | cons x b =>
    rw [List.length_cons, readE, if_neg (by simp), h]
    simp only
    rw [readE_fuel b.length r.length r (by simp at h1; omega) (Nat.le_refl _)]
end Go.Proofs.Ytbllpjphlanchaa
