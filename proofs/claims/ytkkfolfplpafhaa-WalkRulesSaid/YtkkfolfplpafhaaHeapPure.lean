/-
  Plain Lean: a heap as a row of numbers, its least one ahead.
-/
import Derived.Test.YtkkfolfplpafhaaBase
namespace Go.Proofs.Ytkkfolfplpafhaa

def swapL (h : List Nat) (i j : Nat) : List Nat := (h.set i (h.getD j 0)).set j (h.getD i 0)
theorem swapL_len (h : List Nat) (i j : Nat) : (swapL h i j).length = h.length := by unfold swapL; rw [List.length_set, List.length_set]
theorem getD_set {h : List Nat} {i v k : Nat} (hi : i < h.length) : (h.set i v).getD k 0 = if k = i then v else h.getD k 0 := by
  rw [List.getD_eq_getElem?_getD, List.getD_eq_getElem?_getD, List.getElem?_set]
  by_cases hk : k = i
  · subst hk; rw [if_pos rfl, if_pos rfl, if_pos hi]; rfl
  · rw [if_neg (fun e => hk e.symm), if_neg hk]
theorem swapL_getD {h : List Nat} {i j k : Nat} (hi : i < h.length) (hj : j < h.length) : (swapL h i j).getD k 0 = if k = j then h.getD i 0 else if k = i then h.getD j 0 else h.getD k 0 := by
  unfold swapL
  rw [getD_set (by rw [List.length_set]; exact hj), getD_set hi]

theorem count_set (h : List Nat) : ∀ (i v b : Nat), i < h.length → (h.set i v).count b + (if h.getD i 0 = b then 1 else 0) = h.count b + (if v = b then 1 else 0) := by
  induction h with
  | nil => intro i v b hi; simp at hi
  | cons a t ih =>
    intro i v b hi
    cases i with
    | zero =>
      rw [List.set_cons_zero, List.count_cons, List.count_cons, List.getD_cons_zero]
      simp only [beq_iff_eq]
      omega
    | succ i =>
      rw [List.set_cons_succ, List.count_cons, List.count_cons, List.getD_cons_succ]
      have := ih i v b (by simpa using hi)
      omega
theorem swapL_count {h : List Nat} {i j : Nat} (hi : i < h.length) (hj : j < h.length) (b : Nat) : (swapL h i j).count b = h.count b := by
  have h1 := count_set h i (h.getD j 0) b hi
  have h2 := count_set (h.set i (h.getD j 0)) j (h.getD i 0) b (by rw [List.length_set]; exact hj)
  rw [getD_set hi] at h2
  unfold swapL
  by_cases hij : j = i
  · subst hij
    rw [if_pos rfl] at h2
    omega
  · rw [if_neg hij] at h2
    omega

/-- A row whose order is a heap's. -/
def HeapOK (h : List Nat) : Prop := ∀ j, 0 < j → j < h.length → h.getD ((j - 1) / 2) 0 ≤ h.getD j 0
/-- A heap's order, but at i (a thing that may rise). -/
def UpOK (h : List Nat) (i : Nat) : Prop := (∀ j, 0 < j → j < h.length → j ≠ i → h.getD ((j - 1) / 2) 0 ≤ h.getD j 0) ∧ (∀ j, 0 < j → j < h.length → (j - 1) / 2 = i → 0 < i → h.getD ((i - 1) / 2) 0 ≤ h.getD j 0)
/-- A heap's order, but below i (a thing that may sink). -/
def DownOK (h : List Nat) (i : Nat) : Prop := (∀ j, 0 < j → j < h.length → (j - 1) / 2 ≠ i → h.getD ((j - 1) / 2) 0 ≤ h.getD j 0) ∧ (∀ j, 0 < j → j < h.length → (j - 1) / 2 = i → 0 < i → h.getD ((i - 1) / 2) 0 ≤ h.getD j 0)

theorem UpOK.done0 {h : List Nat} (u : UpOK h 0) : HeapOK h := fun j hj hl => u.1 j hj hl (by omega)
theorem UpOK.done {h : List Nat} {i : Nat} (u : UpOK h i) (hle : h.getD ((i - 1) / 2) 0 ≤ h.getD i 0) : HeapOK h := fun j hj hl => by
  by_cases e : j = i
  · subst e; exact hle
  · exact u.1 j hj hl e
theorem UpOK.step {h : List Nat} {i : Nat} (u : UpOK h i) (hi : i < h.length) (h0 : 0 < i) (hlt : h.getD i 0 < h.getD ((i - 1) / 2) 0) : UpOK (swapL h i ((i - 1) / 2)) ((i - 1) / 2) := by
  obtain ⟨k, hk⟩ : ∃ k, k = (i - 1) / 2 := ⟨_, rfl⟩
  rw [← hk] at hlt ⊢
  have hkl : k < h.length := by omega
  refine ⟨fun j hj hl hne => ?_, fun j hj hl hp hk0 => ?_⟩
  · rw [swapL_len] at hl
    rw [swapL_getD hi hkl, swapL_getD hi hkl, if_neg hne]
    by_cases h1 : (j - 1) / 2 = k
    · rw [if_pos h1]
      by_cases h2 : j = i
      · rw [if_pos h2]; omega
      · rw [if_neg h2]
        have := u.1 j hj hl h2
        rw [h1] at this
        omega
    · rw [if_neg h1]
      by_cases h2 : j = i
      · subst h2; exact absurd hk.symm h1
      · rw [if_neg h2]
        by_cases h3 : (j - 1) / 2 = i
        · rw [if_pos h3]
          have := u.2 j hj hl h3 h0
          rw [← hk] at this
          exact this
        · rw [if_neg h3]; exact u.1 j hj hl h2
  · rw [swapL_len] at hl
    rw [swapL_getD hi hkl, swapL_getD hi hkl, if_neg (show ¬ (k - 1) / 2 = k by omega), if_neg (show ¬ (k - 1) / 2 = i by omega)]
    have hkk := u.1 k hk0 hkl (by omega)
    rw [if_neg (show ¬ j = k by omega)]
    by_cases h2 : j = i
    · rw [if_pos h2]; exact hkk
    · rw [if_neg h2]
      have := u.1 j hj hl h2
      rw [hp] at this
      omega

theorem DownOK.done {h : List Nat} {i : Nat} (u : DownOK h i) (hle : ∀ j, 0 < j → j < h.length → (j - 1) / 2 = i → h.getD i 0 ≤ h.getD j 0) : HeapOK h := fun j hj hl => by
  by_cases e : (j - 1) / 2 = i
  · rw [e]; exact hle j hj hl e
  · exact u.1 j hj hl e
theorem DownOK.step {h : List Nat} {i k : Nat} (u : DownOK h i) (hk : k < h.length) (hk0 : 0 < k) (hkp : (k - 1) / 2 = i) (hlt : h.getD k 0 < h.getD i 0) (hmin : ∀ j, 0 < j → j < h.length → (j - 1) / 2 = i → h.getD k 0 ≤ h.getD j 0) : DownOK (swapL h i k) k := by
  have hi : i < h.length := by omega
  refine ⟨fun j hj hl hne => ?_, fun j hj hl hp hk0 => ?_⟩
  · rw [swapL_len] at hl
    rw [swapL_getD hi hk, swapL_getD hi hk, if_neg hne]
    by_cases h1 : (j - 1) / 2 = i
    · rw [if_pos h1]
      by_cases h2 : j = k
      · rw [if_pos h2]; omega
      · rw [if_neg h2, if_neg (show ¬ j = i by omega)]; exact hmin j hj hl h1
    · rw [if_neg h1]
      by_cases h2 : j = k
      · subst h2; exact absurd hkp h1
      · rw [if_neg h2]
        by_cases h3 : j = i
        · rw [if_pos h3]
          subst h3
          exact u.2 k hk0 hk hkp hj
        · rw [if_neg h3]; exact u.1 j hj hl h1
  · rw [swapL_len] at hl
    rw [swapL_getD hi hk, swapL_getD hi hk, hkp, if_neg (show ¬ i = k by omega), if_pos rfl, if_neg (show ¬ j = k by omega), if_neg (show ¬ j = i by omega)]
    have := u.1 j hj hl (by omega)
    rw [hp] at this
    exact this

theorem HeapOK.least {h : List Nat} (u : HeapOK h) : ∀ j, j < h.length → h.getD 0 0 ≤ h.getD j 0 := by
  intro j
  induction j using Nat.strongRecOn with
  | ind j ih =>
    intro hj
    by_cases h0 : j = 0
    · subst h0; exact Nat.le_refl _
    · exact Nat.le_trans (ih ((j - 1) / 2) (by omega) (by omega)) (u j (by omega) hj)

/-- A thing more. -/
theorem UpOK.snoc {h : List Nat} (u : HeapOK h) (x : Nat) : UpOK (h ++ [x]) h.length := by
  have e : ∀ k, k < h.length → (h ++ [x]).getD k 0 = h.getD k 0 := fun k hk => by
    rw [List.getD_eq_getElem?_getD, List.getD_eq_getElem?_getD, List.getElem?_append_left hk]
  refine ⟨fun j hj hl hne => ?_, fun j hj hl hp hk0 => ?_⟩
  · rw [List.length_append, List.length_singleton] at hl
    rw [e _ (by omega), e _ (by omega)]
    exact u j hj (by omega)
  · rw [List.length_append, List.length_singleton] at hl
    omega
/-- The first thing is taken, the last one is in its place. -/
def takeL (h : List Nat) : List Nat := (h.set 0 (h.getD (h.length - 1) 0)).take (h.length - 1)
theorem takeL_len (h : List Nat) : (takeL h).length = h.length - 1 := by unfold takeL; rw [List.length_take, List.length_set]; omega
theorem takeL_getD {h : List Nat} {k : Nat} (hk : k < h.length - 1) : (takeL h).getD k 0 = if k = 0 then h.getD (h.length - 1) 0 else h.getD k 0 := by
  unfold takeL
  rw [List.getD_eq_getElem?_getD, List.getElem?_take, if_pos hk, ← List.getD_eq_getElem?_getD, getD_set (by omega)]
theorem takeL_down {h : List Nat} (u : HeapOK h) : DownOK (takeL h) 0 := by
  refine ⟨fun j hj hl hne => ?_, fun j hj hl hp hk0 => by omega⟩
  rw [takeL_len] at hl
  rw [takeL_getD (by omega), takeL_getD hl, if_neg hne, if_neg (by omega)]
  exact u j hj (by omega)
theorem takeL_count {h : List Nat} (hne : 0 < h.length) (b : Nat) : (takeL h).count b + (if h.getD 0 0 = b then 1 else 0) = h.count b := by
  have h1 := count_set h 0 (h.getD (h.length - 1) 0) b hne
  have hl : (h.set 0 (h.getD (h.length - 1) 0)).length = h.length := List.length_set
  have hs : h.set 0 (h.getD (h.length - 1) 0) = takeL h ++ [h.getD (h.length - 1) 0] := by
    have e := List.take_append_drop (h.length - 1) (h.set 0 (h.getD (h.length - 1) 0))
    have hd : (h.set 0 (h.getD (h.length - 1) 0)).drop (h.length - 1) = [h.getD (h.length - 1) 0] := by
      have hlt : h.length - 1 < (h.set 0 (h.getD (h.length - 1) 0)).length := by omega
      rw [List.drop_eq_getElem_cons hlt, List.drop_of_length_le (by omega)]
      congr 1
      have := getD_set (h := h) (i := 0) (v := h.getD (h.length - 1) 0) (k := h.length - 1) hne
      rw [List.getD_eq_getElem?_getD, List.getElem?_eq_getElem hlt] at this
      simp only [Option.getD_some] at this
      rw [this]
      split
      · rfl
      · rfl
    rw [hd] at e
    exact e.symm
  rw [hs, List.count_append, List.count_singleton] at h1
  simp only [beq_iff_eq] at h1
  omega

end Go.Proofs.Ytkkfolfplpafhaa
