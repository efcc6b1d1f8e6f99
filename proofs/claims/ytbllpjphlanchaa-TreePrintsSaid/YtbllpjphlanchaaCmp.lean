/-
  Bytes in order: plain laws of Lib.compareBytes.
-/
import Derived.Lib.Bytealg
namespace Go.Proofs.Ytbllpjphlanchaa
open Go.Lib

/-- Ahead, in order of bytes. -/
def lessB (a b : List UInt8) : Bool := decide (compareBytes a b < 0)
theorem cmp_cons (a b : UInt8) (x y : List UInt8) : compareBytes (a :: x) (b :: y) = if a < b then -1 else if b < a then 1 else compareBytes x y := rfl
theorem cmp_self : ∀ x : List UInt8, compareBytes x x = 0
  | [] => rfl
  | a :: x => by rw [cmp_cons, if_neg (UInt8.lt_irrefl a), if_neg (UInt8.lt_irrefl a)]; exact cmp_self x
theorem cmp_eq0 : ∀ {x y : List UInt8}, compareBytes x y = 0 → x = y
  | [], [], _ => rfl
  | [], _ :: _, h => by simp [compareBytes] at h
  | _ :: _, [], h => by simp [compareBytes] at h
  | a :: x, b :: y, h => by
    rw [cmp_cons] at h
    split at h
    · omega
    · split at h
      · omega
      · rename_i h1 h2
        have e : a = b := UInt8.le_antisymm (UInt8.not_lt.1 h2) (UInt8.not_lt.1 h1)
        rw [e, cmp_eq0 h]
theorem cmp_neg : ∀ x y : List UInt8, compareBytes y x = - compareBytes x y
  | [], [] => rfl
  | [], _ :: _ => rfl
  | _ :: _, [] => rfl
  | a :: x, b :: y => by
    rw [cmp_cons, cmp_cons]
    by_cases h : a < b
    · rw [if_pos h, if_neg (UInt8.lt_asymm h), if_pos h]; rfl
    · by_cases h2 : b < a
      · rw [if_pos h2, if_neg h, if_pos h2]
      · rw [if_neg h, if_neg h2, if_neg h2, if_neg h]; exact cmp_neg x y
theorem cmp_trans : ∀ {x y z : List UInt8}, compareBytes x y < 0 → compareBytes y z < 0 → compareBytes x z < 0
  | [], [], _, h, _ => by simp [compareBytes] at h
  | [], _ :: _, [], _, h => by simp [compareBytes] at h
  | [], _ :: _, _ :: _, _, _ => by simp [compareBytes]
  | _ :: _, [], _, h, _ => by simp [compareBytes] at h
  | _ :: _, _ :: _, [], _, h => by simp [compareBytes] at h
  | a :: x, b :: y, c :: z, h1, h2 => by
    rw [cmp_cons] at h1 h2 ⊢
    by_cases hab : a < b
    · by_cases hbc : b < c
      · rw [if_pos (UInt8.lt_trans hab hbc)]; decide
      · rw [if_neg hbc] at h2
        split at h2
        · omega
        · rename_i hcb
          have e : b = c := UInt8.le_antisymm (UInt8.not_lt.1 hcb) (UInt8.not_lt.1 hbc)
          rw [← e, if_pos hab]; decide
    · rw [if_neg hab] at h1
      split at h1
      · omega
      · rename_i hba
        have e : a = b := UInt8.le_antisymm (UInt8.not_lt.1 hba) (UInt8.not_lt.1 hab)
        subst e
        by_cases hbc : a < c
        · rw [if_pos hbc]; decide
        · rw [if_neg hbc] at h2 ⊢
          split at h2
          · omega
          · rename_i hcb
            rw [if_neg hcb]
            exact cmp_trans h1 h2

theorem lessB_irr (x : List UInt8) : lessB x x = false := by unfold lessB; rw [cmp_self]; rfl
theorem lessB_trans {x y z : List UInt8} (h1 : lessB x y = true) (h2 : lessB y z = true) : lessB x z = true := by
  unfold lessB at *
  rw [decide_eq_true_eq] at *
  exact cmp_trans h1 h2
theorem lessB_asymm {x y : List UInt8} (h : lessB x y = true) : lessB y x = false := by
  unfold lessB at *
  rw [decide_eq_true_eq] at h
  rw [decide_eq_false_iff_not, cmp_neg x y]
  omega
/-- Neither is ahead: they are one. -/
theorem lessB_eq {x y : List UInt8} (h1 : lessB x y = false) (h2 : lessB y x = false) : x = y := by
  unfold lessB at *
  rw [decide_eq_false_iff_not] at h1 h2
  rw [cmp_neg x y] at h2
  exact cmp_eq0 (by omega)
theorem lessB_ge {x y : List UInt8} : decide (0 ≤ compareBytes x y) = !lessB x y := by
  unfold lessB
  by_cases h : compareBytes x y < 0
  · rw [decide_eq_true h, decide_eq_false (by omega)]; rfl
  · rw [decide_eq_false h, decide_eq_true (by omega)]; rfl

/-- The first byte that isn't the same decides. -/
theorem cmp_step : ∀ {x y : List UInt8} {i : Nat} (hx : i < x.length) (hy : i < y.length), x.take i = y.take i → x[i] ≠ y[i] → lessB x y = decide (x[i] < y[i])
  | [], _, _, hx, _, _, _ => by simp at hx
  | _ :: _, [], _, _, hy, _, _ => by simp at hy
  | a :: x, b :: y, 0, _, _, _, hne => by
    unfold lessB
    rw [cmp_cons]
    simp at hne ⊢
    by_cases h : a < b
    · simp [h]
    · have h2 : b < a := UInt8.lt_of_le_of_ne (UInt8.not_lt.1 h) (Ne.symm hne)
      simp [h, h2]
  | a :: x, b :: y, i + 1, hx, hy, ht, hne => by
    simp only [List.take_succ_cons, List.cons.injEq] at ht
    obtain ⟨rfl, ht⟩ := ht
    have := cmp_step (x := x) (y := y) (i := i) (by simpa using hx) (by simpa using hy) ht (by simpa using hne)
    unfold lessB at this ⊢
    rw [cmp_cons, if_neg (UInt8.lt_irrefl a), if_neg (UInt8.lt_irrefl a), this]
    simp
/-- One is the beginning of the other: the shorter one is ahead. -/
theorem cmp_end : ∀ {x y : List UInt8} {i : Nat}, i ≤ x.length → i ≤ y.length → (i = x.length ∨ i = y.length) → x.take i = y.take i → lessB x y = decide (x.length < y.length)
  | [], [], _, _, _, _, _ => by simp [lessB, compareBytes]
  | [], _ :: _, _, _, _, _, _ => by simp [lessB, compareBytes]
  | _ :: _, [], _, _, _, _, _ => by simp [lessB, compareBytes]
  | a :: x, b :: y, 0, _, _, h, _ => by simp at h
  | a :: x, b :: y, i + 1, hx, hy, h, ht => by
    simp only [List.take_succ_cons, List.cons.injEq] at ht
    obtain ⟨rfl, ht⟩ := ht
    have := cmp_end (x := x) (y := y) (i := i) (by simpa using hx) (by simpa using hy) (by simpa using h) ht
    unfold lessB at this ⊢
    rw [cmp_cons, if_neg (UInt8.lt_irrefl a), if_neg (UInt8.lt_irrefl a), this]
    simp
end Go.Proofs.Ytbllpjphlanchaa
