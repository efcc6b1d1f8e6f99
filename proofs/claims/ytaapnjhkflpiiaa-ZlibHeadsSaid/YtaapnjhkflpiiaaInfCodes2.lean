/-
  Plain Lean: the next sign, by codes as texts; it is the canonical one.
-/
import Derived.Test.YtaapnjhkflpiiaaInfCodes
namespace Go.Proofs.Ytaapnjhkflpiiaa

/-- A sign's code as a text; empty: it has none. -/
def txt (ls : List Nat) (i : Nat) : List UInt8 := if ls.getD i 0 = 0 then [] else bitsText (ls.getD i 0) (val ls i)
def codesOf (ls : List Nat) : List (List UInt8) := (List.range ls.length).map (txt ls)

/-- The first of the texts that is got. -/
def findC (cs : List (List UInt8)) (got : List UInt8) : Nat → Option Nat
  | 0 => none
  | i + 1 => match findC cs got i with
    | some j => some j
    | none => if cs.getD i [] = got then some i else none
def longerC (cs : List (List UInt8)) (got : List UInt8) : Nat → Bool
  | 0 => false
  | i + 1 => longerC cs got i || (decide (got.length < (cs.getD i []).length) && decide ((cs.getD i []).take got.length = got))

/-- The next sign by texts; f: how many bits it may have. -/
def signC (d : List UInt8) (cs : List (List UInt8)) : Nat → List UInt8 → Nat → Except Nat (Nat × Nat)
  | 0, _, _ => .error 4
  | f + 1, got, p =>
    if p < 8 * d.length then
      match findC cs (got ++ [UInt8.ofNat (48 + bitAt d p)]) cs.length with
      | some i => .ok (i, p + 1)
      | none => if longerC cs (got ++ [UInt8.ofNat (48 + bitAt d p)]) cs.length then signC d cs f (got ++ [UInt8.ofNat (48 + bitAt d p)]) (p + 1) else .error 4
    else .error 3

theorem findC_none (cs : List (List UInt8)) (got : List UInt8) (n : Nat) : findC cs got n = none ↔ ∀ i, i < n → cs.getD i [] ≠ got := by
  induction n with
  | zero => simp [findC]
  | succ n ih =>
    rw [findC]
    cases h : findC cs got n with
    | some j =>
      simp only [reduceCtorEq, false_iff]
      intro h2
      have := ih.2 (fun i hi => h2 i (by omega))
      rw [h] at this; cases this
    | none =>
      simp only
      have h3 := ih.1 h
      split
      · rename_i h4
        simp only [reduceCtorEq, false_iff]
        intro h2; exact h2 n (by omega) h4
      · rename_i h4
        simp only [true_iff]
        intro i hi
        rcases Nat.lt_or_ge i n with h5 | h5
        · exact h3 i h5
        · obtain rfl : i = n := by omega
          exact h4

theorem findC_some (cs : List (List UInt8)) (got : List UInt8) (n i : Nat) (hi : i < n) (h : cs.getD i [] = got) (hu : ∀ j, j < i → cs.getD j [] ≠ got) : findC cs got n = some i := by
  induction n with
  | zero => omega
  | succ n ih =>
    rw [findC]
    rcases Nat.lt_or_ge i n with h1 | h1
    · rw [ih h1]
    · obtain rfl : i = n := by omega
      rw [(findC_none cs got i).2 hu, if_pos h]

theorem longerC_iff (cs : List (List UInt8)) (got : List UInt8) (n : Nat) : longerC cs got n = true ↔ ∃ i, i < n ∧ got.length < (cs.getD i []).length ∧ (cs.getD i []).take got.length = got := by
  induction n with
  | zero => simp [longerC]
  | succ n ih =>
    rw [longerC, Bool.or_eq_true, ih, Bool.and_eq_true, decide_eq_true_eq, decide_eq_true_eq]
    constructor
    · rintro (⟨i, h1, h2⟩ | h)
      · exact ⟨i, by omega, h2⟩
      · exact ⟨n, by omega, h⟩
    · rintro ⟨i, h1, h2⟩
      rcases Nat.lt_or_ge i n with h5 | h5
      · exact .inl ⟨i, h5, h2⟩
      · obtain rfl : i = n := by omega
        exact .inr h2

theorem codesOf_getD (ls : List Nat) (i : Nat) (hi : i < ls.length) : (codesOf ls).getD i [] = txt ls i := by
  unfold codesOf
  rw [List.getD_eq_getElem?_getD, List.getElem?_map, List.getElem?_range hi]; rfl

section
set_option linter.unusedSectionVars false
variable {ls : List Nat} (hmax : ∀ i, ls.getD i 0 ≤ 15) (hroom : roomTo ls 15 ≤ 32768)
include hmax hroom

theorem val_bound (i : Nat) (hi : i < ls.length) (h1 : 1 ≤ ls.getD i 0) : val ls i < 2 ^ ls.getD i 0 :=
  Nat.lt_of_lt_of_le (val_lt ls i hi h1) (F_le ls _ (hmax i) hroom)

/-- Which sign has the code n of l + 1 bits. -/
theorem txt_eq (l n i : Nat) (hn : n < 2 ^ (l + 1)) (hi : i < ls.length) : txt ls i = bitsText (l + 1) n ↔ ls.getD i 0 = l + 1 ∧ val ls i = n := by
  unfold txt
  by_cases h0 : ls.getD i 0 = 0
  · rw [if_pos h0]
    constructor
    · intro h; have := congrArg List.length h; rw [bitsText_len] at this; simp at this
    · intro h; omega
  · rw [if_neg h0]
    constructor
    · intro h
      have h1 := congrArg List.length h
      rw [bitsText_len, bitsText_len] at h1
      rw [h1] at h
      have hb := val_bound hmax hroom i hi (by omega)
      rw [h1] at hb
      exact ⟨h1, bitsText_inj _ _ _ hb hn h⟩
    · rintro ⟨h1, h2⟩; rw [h1, h2]

theorem sign_of_code (l n : Nat) (hl : l < 15) (h1 : 2 * F ls l ≤ n) (h2 : n < 2 * F ls l + cnt ls (l + 1)) :
    (sgn ls).getD ((sgnTo ls l).length + (n - 2 * F ls l)) 0 < ls.length ∧ ls.getD ((sgn ls).getD ((sgnTo ls l).length + (n - 2 * F ls l)) 0) 0 = l + 1 ∧ val ls ((sgn ls).getD ((sgnTo ls l).length + (n - 2 * F ls l)) 0) = n := by
  rw [sgn_getD ls l _ hl (by omega)]
  obtain ⟨a, b, c⟩ := rank_idxTo ls (l + 1) ls.length (n - 2 * F ls l) (by unfold cnt idx at h2; omega)
  unfold idx
  refine ⟨a, b, ?_⟩
  unfold val rank
  rw [b, c, Nat.add_sub_cancel]
  omega

theorem code_of_sign (l i : Nat) (hi : i < ls.length) (h : ls.getD i 0 = l + 1) : 2 * F ls l ≤ val ls i ∧ val ls i < 2 * F ls l + cnt ls (l + 1) := by
  have h1 := (idx_rank ls i hi).1
  unfold val
  rw [h, Nat.add_sub_cancel] at *
  omega

/-- Codes of length m lie behind all shorter ones: m > l. -/
theorem val_ge (l : Nat) : ∀ m i, i < ls.length → ls.getD i 0 = l + 1 + m → F ls l * 2 ^ (m + 1) ≤ val ls i := by
  intro m i hi h
  have h1 := (code_of_sign hmax hroom (l + m) i hi (by omega)).1
  have h2 : F ls l * 2 ^ m ≤ F ls (l + m) := by
    clear h1 h
    induction m with
    | zero => simp
    | succ m ih =>
      rw [Nat.pow_succ, ← Nat.mul_assoc, show l + (m + 1) = (l + m) + 1 from rfl, F]
      omega
  rw [Nat.pow_succ, ← Nat.mul_assoc]
  omega

end

/-- In a full code each row of bits that is no code so far begins one. -/
theorem longer_of_full (ls : List Nat) (hr : roomTo ls 15 = 32768) (l n : Nat) (hl : l ≤ 15) (hn : n < 2 ^ l) (h : F ls l ≤ n) :
    ∃ i, i < ls.length ∧ l < ls.getD i 0 ∧ ls.getD i 0 ≤ 15 ∧ val ls i / 2 ^ (ls.getD i 0 - l) = n := by
  obtain ⟨k, hk⟩ : ∃ k, l + k = 15 := ⟨15 - l, by omega⟩
  induction k generalizing l n with
  | zero =>
    have h15 : l = 15 := by omega
    subst h15
    have h1 := F_room ls 15 (by omega)
    rw [hr] at h1
    simp at h1
    simp at hn
    omega
  | succ k ih =>
    by_cases h1 : 2 * n < F ls (l + 1)
    · rw [F] at h1
      obtain ⟨a, b, c⟩ := rank_idxTo ls (l + 1) ls.length (2 * n - 2 * F ls l) (by unfold cnt idx at h1; omega)
      refine ⟨_, a, by omega, by omega, ?_⟩
      unfold val rank
      rw [b, c, Nat.add_sub_cancel, show l + 1 - l = 1 from by omega]
      omega
    · obtain ⟨i, a, b, b2, c⟩ := ih (l + 1) (2 * n) (by omega) (by rw [Nat.pow_succ]; omega) (by omega) (by omega)
      refine ⟨i, a, by omega, b2, ?_⟩
      rw [show ls.getD i 0 - l = (ls.getD i 0 - (l + 1)) + 1 from by omega, Nat.pow_succ, ← Nat.div_div_eq_div_mul, c]
      omega

/-- The texts' way and the numbers' way, in step. -/
theorem signC_go (d : List UInt8) (ls : List Nat) (nn : Bool) (hmax : ∀ i, ls.getD i 0 ≤ 15) (hg : good ls nn = true) (hne : (sgn ls).length ≠ 0) : ∀ (f l n p : Nat), l + f = 15 → n < 2 ^ l → F ls l ≤ n → (sgnTo ls l).length ≠ (sgn ls).length →
    signC d (codesOf ls) f (bitsText l n) p = signGo d ls f (l + 1) n (F ls l) (sgnTo ls l).length p := by
  have hcases : roomTo ls 15 = 32768 ∨ ((sgn ls).length = 1 ∧ cnt ls 1 = 1) := by
    unfold good at hg
    simp only [Bool.or_eq_true, Bool.and_eq_true, decide_eq_true_eq] at hg
    rcases hg with (h | h) | h
    · exact .inl h
    · exact .inr h
    · exact absurd h.2 hne
  have hroom : roomTo ls 15 ≤ 32768 := by
    rcases hcases with h | ⟨h, h1⟩
    · omega
    · have hs : ∀ l, l ≤ 14 → (sgnTo ls (l + 1)).length = 1 ∧ roomTo ls (l + 1) = 16384 := by
        intro l hl
        have hm := sgnTo_len_mono ls (l + 1) 15 (by omega)
        have : (sgnTo ls 15).length = 1 := h
        induction l with
        | zero =>
          have e : (sgnTo ls 1).length = cnt ls 1 := by rw [sgnTo, sgnTo]; simp [cnt]
          refine ⟨?_, ?_⟩
          · show (sgnTo ls 1).length = 1
            omega
          · show roomTo ls 1 = 16384
            rw [roomTo, roomTo, h1]
        | succ l ih =>
          obtain ⟨a, b⟩ := ih (by omega) (sgnTo_len_mono ls (l + 1) 15 (by omega))
          have e : (sgnTo ls (l + 1 + 1)).length = (sgnTo ls (l + 1)).length + cnt ls (l + 1 + 1) := by rw [sgnTo, List.length_append]; rfl
          have hz : cnt ls (l + 1 + 1) = 0 := by omega
          exact ⟨by omega, by rw [roomTo, hz, b]; simp⟩
      have : roomTo ls 15 = 16384 := (hs 14 (by omega)).2
      omega
  intro f
  induction f with
  | zero => intro l n p _ _ _ _; rfl
  | succ f ih =>
    intro l n p hl hn hF hk
    rw [signC, signGo]
    by_cases hp : p < 8 * d.length
    · rw [if_pos hp, if_pos hp]
      have hb := bitAt_lt d p
      rw [bitsText_snoc l n _ hb]
      have hn2 : 2 * n + bitAt d p < 2 ^ (l + 1) := by rw [Nat.pow_succ]; omega
      have hF2 : 2 * F ls l ≤ 2 * n + bitAt d p := by omega
      generalize 2 * n + bitAt d p = n2 at *
      have hcl : (codesOf ls).length = ls.length := by simp [codesOf]
      rw [hcl]
      by_cases hlt : n2 < 2 * F ls l + cnt ls (l + 1)
      · rw [if_pos hlt]
        obtain ⟨a, b, c⟩ := sign_of_code hmax hroom l n2 (by omega) hF2 hlt
        generalize (sgn ls).getD ((sgnTo ls l).length + (n2 - 2 * F ls l)) 0 = i at *
        rw [findC_some (codesOf ls) _ ls.length i a (by rw [codesOf_getD ls i a]; exact (txt_eq hmax hroom l n2 i hn2 a).2 ⟨b, c⟩) (fun j hj => by
          rw [codesOf_getD ls j (by omega)]
          intro e
          obtain ⟨e1, e2⟩ := (txt_eq hmax hroom l n2 j hn2 (by omega)).1 e
          have r1 := (idx_rank ls j (by omega)).2
          have r2 := (idx_rank ls i a).2
          unfold val at e2 c
          rw [e1] at e2 r1
          rw [b] at c r2
          have : rank ls j = rank ls i := by omega
          rw [this] at r1
          omega)]
      · rw [if_neg hlt]
        have hnone : findC (codesOf ls) (bitsText (l + 1) n2) ls.length = none := by
          refine (findC_none _ _ _).2 fun i hi => ?_
          rw [codesOf_getD ls i hi]
          intro e
          obtain ⟨e1, e2⟩ := (txt_eq hmax hroom l n2 i hn2 hi).1 e
          have := (code_of_sign hmax hroom l i hi e1).2
          omega
        rw [hnone]
        have e0 : (sgnTo ls l).length + cnt ls (l + 1) = (sgnTo ls (l + 1)).length := by rw [sgnTo, List.length_append]; rfl
        have eF : 2 * F ls l + cnt ls (l + 1) = F ls (l + 1) := rfl
        rw [e0, eF]
        simp only
        have hlong : longerC (codesOf ls) (bitsText (l + 1) n2) ls.length = true ↔ (sgnTo ls (l + 1)).length ≠ (sgn ls).length := by
          rw [longerC_iff]
          constructor
          · rintro ⟨i, hi, h1, -⟩ e
            rw [codesOf_getD ls i hi, bitsText_len] at h1
            unfold txt at h1
            by_cases h0 : ls.getD i 0 = 0
            · rw [if_pos h0] at h1; simp at h1
            · rw [if_neg h0, bitsText_len] at h1
              -- a longer sign would make the row of signs longer
              have hr := (idx_rank ls i hi).1
              obtain ⟨m, hm⟩ : ∃ m, ls.getD i 0 = m + 1 := ⟨ls.getD i 0 - 1, by omega⟩
              have h15 := hmax i
              rw [hm] at hr h1 h15
              have e1 : (sgnTo ls (m + 1)).length = (sgnTo ls m).length + cnt ls (m + 1) := by rw [sgnTo, List.length_append]; rfl
              have e2 := sgnTo_len_mono ls (l + 1) m (by omega)
              have e3 := sgnTo_len_mono ls (m + 1) 15 (by omega)
              unfold sgn at e
              omega
          · intro hne2
            rcases hcases with hfull | ⟨hone, hone1⟩
            · have hle : l + 1 ≤ 15 := by omega
              obtain ⟨i, a, b, b2, c⟩ := longer_of_full ls hfull (l + 1) n2 hle hn2 (by omega)
              refine ⟨i, a, ?_, ?_⟩
              · rw [codesOf_getD ls i a, bitsText_len]; unfold txt; rw [if_neg (by omega), bitsText_len]; exact b
              · rw [codesOf_getD ls i a, bitsText_len]
                unfold txt
                rw [if_neg (by omega)]
                have := bitsText_take (ls.getD i 0 - (l + 1)) (l + 1) (val ls i)
                rw [show l + 1 + (ls.getD i 0 - (l + 1)) = ls.getD i 0 from by omega, c] at this
                exact this
            · exfalso
              have e1 : (sgnTo ls 1).length = cnt ls 1 := by rw [sgnTo, sgnTo]; simp [cnt]
              have e2 := sgnTo_len_mono ls 1 (l + 1) (by omega)
              have e3 := sgnTo_len_mono ls (l + 1) 15 (by omega)
              unfold sgn at hone hne2
              omega
        by_cases hke : (sgnTo ls (l + 1)).length = (sgn ls).length
        · rw [if_pos hke]
          have : longerC (codesOf ls) (bitsText (l + 1) n2) ls.length = false := by
            cases h : longerC (codesOf ls) (bitsText (l + 1) n2) ls.length with
            | false => rfl
            | true => exact absurd hke (hlong.1 h)
          rw [this]; rfl
        · rw [if_neg hke, hlong.2 hke]
          simp only [if_true]
          have hl2 : l + 1 + f = 15 := by omega
          exact ih (l + 1) n2 (p + 1) hl2 hn2 (by omega) hke
    · rw [if_neg hp, if_neg hp]

/-- The document's next sign is the canonical one. -/
theorem signC_eq (d : List UInt8) (ls : List Nat) (nn : Bool) (hmax : ∀ i, ls.getD i 0 ≤ 15) (hg : good ls nn = true) (hne : (sgn ls).length ≠ 0) (p : Nat) : signC d (codesOf ls) 15 [] p = signR d ls p := by
  have h := signC_go d ls nn hmax hg hne 15 0 0 p (by omega) (by decide) (by simp [F]) (by simp [sgnTo]; omega)
  exact h

end Go.Proofs.Ytaapnjhkflpiiaa
