/-
  A tree's body, read: plain.
-/
import Derived.Test.YtbllpjphlanchaaPrint10
namespace Go.Proofs.Ytbllpjphlanchaa
open Go.RowKit Go.Mix

/-- Where a byte stands first. -/
def fz (l : List UInt8) (c : UInt8) : Option Nat := l.findIdx? fun x => decide (x = c)
theorem fz_some {l : List UInt8} {c : UInt8} {i : Nat} (h1 : l[i]? = some c) (h2 : ∀ k : Nat, k < i → l[k]? ≠ some c) : fz l c = some i := by
  obtain ⟨hi, he⟩ := List.getElem?_eq_some_iff.1 h1
  unfold fz
  rw [List.findIdx?_eq_some_iff_getElem]
  refine ⟨hi, decide_eq_true he, fun j hj => ?_⟩
  rw [decide_eq_true_eq]
  intro e
  exact h2 j hj (by rw [List.getElem?_eq_getElem (by omega), e])
theorem fz_none {l : List UInt8} {c : UInt8} (h : ∀ k : Nat, l[k]? ≠ some c) : fz l c = none := by
  unfold fz
  rw [List.findIdx?_eq_none_iff]
  intro x hx
  rw [decide_eq_false_iff_not]
  rintro rfl
  obtain ⟨k, hk, hke⟩ := List.getElem_of_mem hx
  exact h k (by rw [List.getElem?_eq_getElem hk, hke])

/-- One entry off the front of a body; what is behind it. -/
def stepE (b : List UInt8) : Option (Ent × List UInt8) :=
  match fz b 0 with
  | none => none
  | some i =>
    match fz (b.take i) 32 with
    | none => none
    | some j => if h : modeOf ((b.take i).take j) ≠ 0 ∧ 20 ≤ (b.drop (i + 1)).length then
        some (⟨modeOf ((b.take i).take j), (b.take i).drop (j + 1), ⟨(b.drop (i + 1)).take 20, by rw [List.length_take]; omega⟩⟩, (b.drop (i + 1)).drop 20) else none
theorem stepE_len {b r : List UInt8} {e : Ent} (h : stepE b = some (e, r)) : r.length + 20 < b.length := by
  unfold stepE at h
  split at h
  · cases h
  · rename_i i hi
    split at h
    · cases h
    · split at h
      · rename_i hc
        injection h with h
        injection h with _ h
        rw [← h, List.length_drop]
        have := hc.2
        rw [List.length_drop] at this ⊢
        omega
      · cases h
theorem stepE_name {b r : List UInt8} {e : Ent} (h : stepE b = some (e, r)) : e.name.length < b.length := by
  have h0 := stepE_len h
  unfold stepE at h
  split at h
  · cases h
  · split at h
    · cases h
    · split at h
      · rename_i hc
        injection h with h
        injection h with h _
        rw [← h]
        show ((b.take _).drop _).length < _
        have := hc.2
        rw [List.length_drop] at this
        rw [List.length_drop, List.length_take]
        omega
      · cases h

/-- What comes of a body, entry by entry; false: it is none. -/
def entL : Nat → List UInt8 → List (Ent × Bool)
  | 0, _ => []
  | n + 1, b => if b = [] then [] else match stepE b with
    | none => [(ent0, false)]
    | some (e, r) => (e, true) :: entL n r
theorem entL_nil : ∀ n, entL n [] = []
  | 0 => rfl
  | _ + 1 => rfl
theorem entL_fuel : ∀ (n m : Nat) (b : List UInt8), b.length ≤ n → b.length ≤ m → entL n b = entL m b
  | 0, m, b, hn, _ => by
    obtain rfl : b = [] := List.eq_nil_of_length_eq_zero (by omega)
    rw [entL_nil, entL_nil]
  | n + 1, 0, b, _, hm => by
    obtain rfl : b = [] := List.eq_nil_of_length_eq_zero (by omega)
    rw [entL_nil, entL_nil]
  | n + 1, m + 1, b, hn, hm => by
    unfold entL
    split
    · rfl
    · split
      · rfl
      · rename_i e r h
        have := stepE_len h
        rw [entL_fuel n m r (by omega) (by omega)]
theorem entL_len : ∀ (n : Nat) (b : List UInt8), (entL n b).length ≤ n
  | 0, _ => Nat.le_refl _
  | n + 1, b => by
    unfold entL
    split
    · exact Nat.zero_le _
    · split
      · simp
      · rw [List.length_cons]; exact Nat.succ_le_succ (entL_len n _)
theorem entL_none {b : List UInt8} (h0 : b ≠ []) (h : stepE b = none) : entL b.length b = [(ent0, false)] := by
  cases b with
  | nil => exact absurd rfl h0
  | cons x b => rw [List.length_cons, entL, if_neg h0, h]
theorem entL_some {b r : List UInt8} {e : Ent} (h : stepE b = some (e, r)) : entL b.length b = (e, true) :: entL r.length r := by
  have h1 := stepE_len h
  cases b with
  | nil => simp at h1
  | cons x b =>
    rw [List.length_cons, entL, if_neg (by simp), h]
    simp only
    rw [entL_fuel b.length r.length r (by simp at h1; omega) (Nat.le_refl _)]

def FzAt (l : List UInt8) (c : UInt8) (ok : Bool) (hl tl : List UInt8) : Prop := (ok = true ∧ ∃ i, fz l c = some i ∧ hl = l.take i ∧ tl = l.drop (i + 1)) ∨ (ok = false ∧ fz l c = none)
theorem step_none {r hl tl ml nl : List UInt8} {ok is : Bool} (h1 : FzAt r 0 ok hl tl) (h2 : FzAt hl 32 is ml nl) (hb : ok = false ∨ is = false ∨ modeOf ml = 0 ∨ tl.length < 20) : stepE r = none := by
  unfold stepE
  rcases h1 with ⟨rfl, i, e1, rfl, rfl⟩ | ⟨rfl, e1⟩
  · rw [e1]
    rcases h2 with ⟨rfl, j, e2, rfl, rfl⟩ | ⟨rfl, e2⟩
    · simp only [e2]
      rw [dif_neg]
      rintro ⟨h3, h4⟩
      rcases hb with h | h | h | h
      · cases h
      · cases h
      · exact h3 h
      · omega
    · simp only [e2]
  · rw [e1]
theorem step_some {r hl tl ml nl : List UInt8} (h1 : FzAt r 0 true hl tl) (h2 : FzAt hl 32 true ml nl) (hm : modeOf ml ≠ 0) (ht : 20 ≤ tl.length) : stepE r = some (⟨modeOf ml, nl, ⟨tl.take 20, by rw [List.length_take]; omega⟩⟩, tl.drop 20) := by
  unfold stepE
  rcases h1 with ⟨_, i, e1, rfl, rfl⟩ | ⟨h, _⟩
  · rw [e1]
    rcases h2 with ⟨_, j, e2, rfl, rfl⟩ | ⟨h, _⟩
    · simp only [e2]
      rw [dif_pos ⟨hm, ht⟩]
    · cases h
  · cases h

/-- A body's entries, without a look at their order. -/
def readE : Nat → List UInt8 → Option (List Ent)
  | 0, _ => some []
  | n + 1, b => if b = [] then some [] else match stepE b with
    | none => none
    | some (e, r) => (readE n r).map (e :: ·)
theorem entL_names : ∀ (n : Nat) (b : List UInt8), ∀ x ∈ entL n b, x.1.name.length ≤ b.length
  | 0, _, x, hx => by simp [entL] at hx
  | n + 1, b, x, hx => by
    unfold entL at hx
    split at hx
    · simp at hx
    · split at hx
      · simp at hx; subst hx; simp [ent0]
      · rename_i e r h1
        simp only [List.mem_cons] at hx
        rcases hx with rfl | hx
        · exact Nat.le_of_lt (stepE_name h1)
        · have := entL_names n r x hx
          have := stepE_len h1
          omega
theorem entL_true : ∀ (n : Nat) (b : List UInt8), (∀ x ∈ entL n b, x.2 = true) → readE n b = some ((entL n b).map (·.1))
  | 0, _, _ => rfl
  | n + 1, b, h => by
    unfold entL readE at *
    split
    · rfl
    · rename_i h0
      rw [if_neg h0] at h
      split
      · rename_i h1
        rw [h1] at h
        have := h (ent0, false) (by simp)
        cases this
      · rename_i e r h1
        rw [h1] at h
        simp only at h
        rw [entL_true n r (fun x hx => h x (by simp [hx]))]
        rfl
theorem entL_false : ∀ (n : Nat) (b : List UInt8), (∃ x ∈ entL n b, x.2 = false) → readE n b = none
  | 0, _, h => by obtain ⟨x, hx, _⟩ := h; simp [entL] at hx
  | n + 1, b, h => by
    unfold entL readE at *
    split
    · rename_i h0
      rw [if_pos h0] at h
      obtain ⟨x, hx, _⟩ := h
      simp at hx
    · rename_i h0
      rw [if_neg h0] at h
      split
      · rfl
      · rename_i e r h1
        rw [h1] at h
        obtain ⟨x, hx, hf⟩ := h
        simp only [List.mem_cons] at hx
        rcases hx with rfl | hx
        · cases hf
        · rw [entL_false n r ⟨x, hx, hf⟩]; rfl
end Go.Proofs.Ytbllpjphlanchaa
