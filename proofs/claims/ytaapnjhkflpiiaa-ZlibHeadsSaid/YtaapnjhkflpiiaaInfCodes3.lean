/-
  Plain Lean: how the document lays the codes down, one text behind the other.
-/
import Derived.Test.YtaapnjhkflpiiaaInfCodes2
namespace Go.Proofs.Ytaapnjhkflpiiaa

/-- A text of bits, more 1, its lowest first; none: of ones alone. -/
def nextRev : List UInt8 → Option (List UInt8)
  | [] => none
  | c :: r => if c = 48 then some (49 :: r) else match nextRev r with
    | none => none
    | some x => some (48 :: x)
def nextS (s : List UInt8) : List UInt8 := match nextRev s.reverse with
  | none => s
  | some x => x.reverse
def padTo (n : Nat) (s : List UInt8) : List UInt8 := s ++ List.replicate (n - s.length) 48

def stepC (ls : List Nat) (n i : Nat) (st : List UInt8 × List (List UInt8)) : List UInt8 × List (List UInt8) :=
  if ls.getD i 0 = n then
    let x := padTo n (if st.1 = [] then [] else nextS st.1)
    (x, st.2.set i x)
  else st
def innerC (ls : List Nat) (n : Nat) : Nat → List UInt8 × List (List UInt8) → List UInt8 × List (List UInt8)
  | 0, st => st
  | i + 1, st => stepC ls n i (innerC ls n i st)
def outerC (ls : List Nat) : Nat → List UInt8 × List (List UInt8)
  | 0 => ([], List.replicate ls.length [])
  | n + 1 => innerC ls (n + 1) ls.length (outerC ls n)
def genC (ls : List Nat) : List (List UInt8) := (outerC ls 15).2

theorem stepC_len (ls : List Nat) (n i : Nat) (st : List UInt8 × List (List UInt8)) : (stepC ls n i st).2.length = st.2.length := by
  unfold stepC; split <;> simp
theorem innerC_len (ls : List Nat) (n : Nat) (st : List UInt8 × List (List UInt8)) : ∀ i, (innerC ls n i st).2.length = st.2.length := by
  intro i; induction i with
  | zero => rfl
  | succ i ih => rw [innerC, stepC_len, ih]
theorem outerC_len (ls : List Nat) : ∀ n, (outerC ls n).2.length = ls.length := by
  intro n; induction n with
  | zero => simp [outerC]
  | succ n ih => rw [outerC, innerC_len, ih]

theorem nextS_bits (l : Nat) : ∀ v, v + 1 < 2 ^ l → nextRev (bitsText l v).reverse = some (bitsText l (v + 1)).reverse := by
  induction l with
  | zero => intro v h; simp at h
  | succ l ih =>
    intro v h
    rw [Nat.pow_succ] at h
    rw [bitsText, bitsText, List.reverse_append, List.reverse_append, List.reverse_singleton, List.singleton_append, List.reverse_singleton, List.singleton_append, nextRev]
    by_cases h0 : v % 2 = 0
    · have e1 : (UInt8.ofNat (48 + v % 2) = 48) := by rw [h0]; rfl
      have e2 : (v + 1) % 2 = 1 := by omega
      have e3 : (v + 1) / 2 = v / 2 := by omega
      rw [if_pos e1, e2, e3]
      rfl
    · have h1 : v % 2 = 1 := by omega
      have e1 : ¬ (UInt8.ofNat (48 + v % 2) = 48) := by rw [h1]; decide
      have e2 : (v + 1) % 2 = 0 := by omega
      have e3 : (v + 1) / 2 = v / 2 + 1 := by omega
      rw [if_neg e1, ih (v / 2) (by omega), e2, e3]
      rfl

theorem nextS_eq (l v : Nat) (h : v + 1 < 2 ^ l) : nextS (bitsText l v) = bitsText l (v + 1) := by
  unfold nextS
  rw [nextS_bits l v h]
  simp

theorem padTo_bits (n l v : Nat) (h : l ≤ n) : padTo n (bitsText l v) = bitsText n (v * 2 ^ (n - l)) := by
  unfold padTo
  rw [bitsText_len, bitsText_pad, show l + (n - l) = n from by omega]

/-- What the last text was, when the next code of n + 1 bits would be v. -/
def LastIs (last : List UInt8) (n v : Nat) : Prop := (last = [] ∧ v = 0) ∨ ∃ lp x, 1 ≤ lp ∧ lp ≤ n + 1 ∧ last = bitsText lp x ∧ x < 2 ^ lp ∧ (x + 1) * 2 ^ (n + 1 - lp) = v

theorem bitsText_ne (l v : Nat) (h : 1 ≤ l) : bitsText l v ≠ [] := by
  intro e; have := congrArg List.length e; rw [bitsText_len] at this; simp at this; omega

theorem LastIs.next {last : List UInt8} {n v : Nat} (h : LastIs last n v) (hv : v < 2 ^ (n + 1)) : padTo (n + 1) (if last = [] then [] else nextS last) = bitsText (n + 1) v ∧ LastIs (bitsText (n + 1) v) n (v + 1) := by
  refine ⟨?_, .inr ⟨n + 1, v, by omega, by omega, rfl, hv, by simp⟩⟩
  rcases h with ⟨rfl, rfl⟩ | ⟨lp, x, h1, h2, rfl, h3, h4⟩
  · rw [if_pos rfl]
    have := padTo_bits (n + 1) 0 0 (by omega)
    simpa [bitsText] using this
  · rw [if_neg (bitsText_ne lp x h1)]
    have hlt : x + 1 < 2 ^ lp := by
      have e : 2 ^ (n + 1) = 2 ^ lp * 2 ^ (n + 1 - lp) := by rw [← Nat.pow_add, show lp + (n + 1 - lp) = n + 1 from by omega]
      rw [← h4, e] at hv
      exact Nat.lt_of_mul_lt_mul_right hv
    rw [nextS_eq lp x hlt, padTo_bits _ _ _ h2, h4]

theorem LastIs.up {last : List UInt8} {n v : Nat} (h : LastIs last n v) : LastIs last (n + 1) (2 * v) := by
  rcases h with ⟨rfl, rfl⟩ | ⟨lp, x, h1, h2, rfl, h3, h4⟩
  · exact .inl ⟨rfl, rfl⟩
  · refine .inr ⟨lp, x, h1, by omega, rfl, h3, ?_⟩
    rw [show n + 1 + 1 - lp = (n + 1 - lp) + 1 from by omega, Nat.pow_succ, ← Nat.mul_assoc, h4, Nat.mul_comm]

/-- Which texts are laid when the lengths up to n, and of those of n + 1 the first i, have been. -/
def Laid (ls : List Nat) (n i : Nat) (out : List (List UInt8)) : Prop :=
  out.length = ls.length ∧ ∀ j, j < ls.length → out.getD j [] = if ls.getD j 0 ≤ n ∨ (ls.getD j 0 = n + 1 ∧ j < i) then txt ls j else []

theorem inner_inv (ls : List Nat) (hroom : roomTo ls 15 ≤ 32768) (n : Nat) (hn : n < 15) (st : List UInt8 × List (List UInt8)) (hl : LastIs st.1 n (2 * F ls n)) (ho : Laid ls n 0 st.2) :
    ∀ i, i ≤ ls.length → LastIs (innerC ls (n + 1) i st).1 n (2 * F ls n + (idxTo ls (n + 1) i).length) ∧ Laid ls n i (innerC ls (n + 1) i st).2 := by
  intro i
  induction i with
  | zero => intro _; exact ⟨by simpa [innerC, idxTo] using hl, ho⟩
  | succ i ih =>
    intro hi
    obtain ⟨h1, h2⟩ := ih (by omega)
    rw [innerC]
    generalize innerC ls (n + 1) i st = s at *
    unfold stepC
    by_cases hli : ls.getD i 0 = n + 1
    · rw [if_pos hli, idxTo, if_pos hli]
      have hlt : 2 * F ls n + (idxTo ls (n + 1) i).length < 2 ^ (n + 1) := by
        have h3 := (idx_rank ls i (by omega)).1
        rw [hli] at h3
        unfold rank at h3
        rw [hli] at h3
        have h4 := F_le ls (n + 1) (by omega) hroom
        rw [F] at h4
        omega
      obtain ⟨e1, e2⟩ := h1.next hlt
      simp only
      rw [e1]
      refine ⟨by rw [List.length_append]; exact e2, by rw [List.length_set]; exact h2.1, fun j hj => ?_⟩
      by_cases hji : j = i
      · subst hji
        rw [if_pos (.inr ⟨hli, by omega⟩), List.getD_eq_getElem?_getD, List.getElem?_set_self (by rw [h2.1]; omega)]
        simp only [Option.getD_some]
        unfold txt val rank
        rw [if_neg (by omega), hli, Nat.add_sub_cancel]
      · rw [List.getD_eq_getElem?_getD, List.getElem?_set_ne (Ne.symm hji), ← List.getD_eq_getElem?_getD, h2.2 j hj]
        by_cases hc : ls.getD j 0 ≤ n ∨ (ls.getD j 0 = n + 1 ∧ j < i)
        · rw [if_pos hc, if_pos (by omega)]
        · rw [if_neg hc, if_neg (by omega)]
    · rw [if_neg hli, idxTo, if_neg hli]
      refine ⟨h1, h2.1, fun j hj => ?_⟩
      rw [h2.2 j hj]
      by_cases hc : ls.getD j 0 ≤ n ∨ (ls.getD j 0 = n + 1 ∧ j < i)
      · rw [if_pos hc, if_pos (by omega)]
      · rw [if_neg hc]
        by_cases hji : j = i
        · subst hji; rw [if_neg (by omega)]
        · rw [if_neg (by omega)]

theorem outer_inv (ls : List Nat) (hroom : roomTo ls 15 ≤ 32768) : ∀ n, n ≤ 15 → LastIs (outerC ls n).1 n (2 * F ls n) ∧ Laid ls n 0 (outerC ls n).2 := by
  intro n
  induction n with
  | zero =>
    intro _
    refine ⟨.inl ⟨rfl, rfl⟩, by simp [outerC], fun j hj => ?_⟩
    have e : (List.replicate ls.length ([] : List UInt8)).getD j [] = [] := by rw [List.getD_eq_getElem?_getD, List.getElem?_replicate, if_pos hj]; rfl
    rw [outerC, e]
    split
    · unfold txt; rw [if_pos (by omega)]
    · rfl
  | succ n ih =>
    intro hn
    obtain ⟨h1, h2⟩ := ih (by omega)
    obtain ⟨h3, h4⟩ := inner_inv ls hroom n (by omega) _ h1 h2 ls.length (Nat.le_refl _)
    rw [outerC]
    refine ⟨h3.up, h4.1, fun j hj => ?_⟩
    rw [h4.2 j hj]
    by_cases hc : ls.getD j 0 ≤ n + 1
    · rw [if_pos (by omega), if_pos (by omega)]
    · rw [if_neg (by omega), if_neg (by omega)]

theorem genC_eq (ls : List Nat) (hmax : ∀ i, ls.getD i 0 ≤ 15) (hroom : roomTo ls 15 ≤ 32768) : genC ls = codesOf ls := by
  obtain ⟨-, h1, h2⟩ := outer_inv ls hroom 15 (Nat.le_refl _)
  unfold genC
  refine List.ext_getElem (by rw [h1]; simp [codesOf]) fun j hj hj2 => ?_
  have h3 := h2 j (by omega)
  rw [if_pos (.inl (hmax j)), List.getD_eq_getElem?_getD, List.getElem?_eq_getElem hj] at h3
  have h4 := codesOf_getD ls j (by omega)
  rw [List.getD_eq_getElem?_getD, List.getElem?_eq_getElem hj2] at h4
  exact h3.trans h4.symm

end Go.Proofs.Ytaapnjhkflpiiaa
