/-
  A tree's body and its entries, back and forth: plain.
-/
import Derived.Test.YtbllpjphlanchaaRefStep
import Derived.Test.YtbllpjphlanchaaCmp
namespace Go.Proofs.Ytbllpjphlanchaa
open Go.RowKit Go.Mix

def GoodE (p : Ent) : Prop := digs p.mode ≠ [] ∧ (0 : UInt8) ∉ p.name
theorem modeOf_digs {m : Int} (h : digs m ≠ []) : modeOf (digs m) = m ∧ m ≠ 0 := by
  unfold digs at h
  by_cases h1 : m = 16384
  · subst h1; exact ⟨by decide, by decide⟩
  by_cases h2 : m = 33188
  · subst h2; exact ⟨by decide, by decide⟩
  by_cases h3 : m = 33261
  · subst h3; exact ⟨by decide, by decide⟩
  by_cases h4 : m = 40960
  · subst h4; exact ⟨by decide, by decide⟩
  by_cases h5 : m = 57344
  · subst h5; exact ⟨by decide, by decide⟩
  rw [if_neg h1, if_neg h2, if_neg h3, if_neg h4, if_neg h5] at h
  exact absurd rfl h
theorem digs_clean (m : Int) : (0 : UInt8) ∉ digs m ∧ (32 : UInt8) ∉ digs m := by
  unfold digs
  repeat' split
  all_goals decide
theorem digs_modeOf {s : List UInt8} (h : modeOf s ≠ 0) : digs (modeOf s) = s := by
  unfold modeOf at *
  cases hf : modesL.find? fun m => decide (digs m = s) with
  | none => rw [hf] at h; exact absurd rfl h
  | some m =>
    have h1 := List.find?_some hf
    exact of_decide_eq_true h1
theorem fz_mk {x y : List UInt8} {c : UInt8} (h : c ∉ x) : fz (x ++ c :: y) c = some x.length := by
  refine fz_some (by simp) fun k hk he => h ?_
  rw [List.getElem?_append_left hk] at he
  exact List.mem_of_getElem? he
theorem FzAt.mk' {x y : List UInt8} {c : UInt8} (h : c ∉ x) : FzAt (x ++ c :: y) c true x y :=
  .inl ⟨rfl, x.length, fz_mk h, by simp, by simp⟩
theorem fz_split {l : List UInt8} {c : UInt8} {i : Nat} (h : fz l c = some i) : l = l.take i ++ c :: l.drop (i + 1) ∧ c ∉ l.take i := by
  obtain ⟨h1, h2⟩ := fz_spec h
  obtain ⟨hi, he⟩ := List.getElem?_eq_some_iff.1 h1
  refine ⟨?_, fun hm => ?_⟩
  · conv => lhs; rw [← List.take_append_drop i l, List.drop_eq_getElem_cons hi, he]
  · obtain ⟨k, hk, e⟩ := List.getElem_of_mem hm
    rw [List.length_take] at hk
    rw [List.getElem_take] at e
    exact h2 k (by omega) (by rw [List.getElem?_eq_getElem (by omega), e])
theorem stepE_body {p : Ent} (h : GoodE p) (r : List UInt8) : stepE (bodyE p ++ r) = some (p, r) := by
  have e1 : bodyE p ++ r = (digs p.mode ++ 32 :: p.name) ++ 0 :: (p.id.1 ++ r) := by unfold bodyE; simp
  have n0 : (0 : UInt8) ∉ digs p.mode ++ 32 :: p.name := by
    simp only [List.mem_append, List.mem_cons, not_or]
    exact ⟨(digs_clean _).1, by decide, h.2⟩
  obtain ⟨hm, hm0⟩ := modeOf_digs h.1
  have hl := p.id.2
  rw [e1, step_some (FzAt.mk' n0) (FzAt.mk' (digs_clean _).2) (by rw [hm]; exact hm0) (by rw [List.length_append]; omega)]
  obtain ⟨md, nm, id, hid⟩ := p
  simp only at hm hl ⊢
  simp [hm, hl]
theorem stepE_eq {b r : List UInt8} {e : Ent} (h : stepE b = some (e, r)) : b = bodyE e ++ r ∧ GoodE e := by
  unfold stepE at h
  split at h
  · cases h
  · rename_i i hi
    split at h
    · cases h
    · rename_i j hj
      split at h
      · rename_i hc
        obtain ⟨a1, a2⟩ := fz_split hi
        obtain ⟨b1, b2⟩ := fz_split hj
        injection h with h
        injection h with h h'
        subst h
        subst h'
        have hd := digs_modeOf hc.1
        refine ⟨?_, ?_, fun hm => a2 ?_⟩
        · unfold bodyE
          simp only
          rw [hd]
          conv => lhs; rw [a1, b1, ← List.take_append_drop 20 (b.drop (i + 1))]
          simp only [List.append_assoc, List.cons_append, List.nil_append]
        · show digs (modeOf _) ≠ []
          rw [hd]
          intro h0
          rw [h0] at hc
          exact hc.1 (by decide)
        · exact List.mem_of_mem_drop hm
      · cases h
theorem bodyE_ne (p : Ent) : bodyE p ≠ [] := by unfold bodyE; simp
theorem bodyL_cons (p : Ent) (l : List Ent) : bodyL (p :: l) = bodyE p ++ bodyL l := by unfold bodyL; rw [List.flatMap_cons]
theorem bodyL_app (l m : List Ent) : bodyL (l ++ m) = bodyL l ++ bodyL m := by unfold bodyL; rw [List.flatMap_append]
theorem readE_body : ∀ (l : List Ent), (∀ p ∈ l, GoodE p) → ∀ n, (bodyL l).length ≤ n → readE n (bodyL l) = some l
  | [], _, n, _ => by cases n <;> simp [readE, bodyL]
  | p :: l, h, n, hn => by
    have h1 := stepE_body (h p (by simp)) (bodyL l)
    have h2 := stepE_len h1
    rw [← bodyL_cons] at h1 h2
    cases n with
    | zero => omega
    | succ n =>
      unfold readE
      rw [if_neg (by rw [bodyL_cons]; simp [bodyE_ne]), h1]
      simp only
      rw [readE_body l (fun q hq => h q (by simp [hq])) n (by omega)]
      rfl
theorem readE_eq : ∀ (n : Nat) (b : List UInt8) (l : List Ent), b.length ≤ n → readE n b = some l → b = bodyL l ∧ ∀ p ∈ l, GoodE p
  | 0, b, l, hn, h => by
    obtain rfl : b = [] := List.eq_nil_of_length_eq_zero (by omega)
    simp [readE] at h
    subst h
    exact ⟨rfl, fun _ h => (by simp at h)⟩
  | n + 1, b, l, hn, h => by
    unfold readE at h
    split at h
    · rename_i h0
      injection h with h
      subst h
      exact ⟨by rw [h0]; rfl, fun _ h => (by simp at h)⟩
    · split at h
      · cases h
      · rename_i e r hs
        cases hr : readE n r with
        | none => rw [hr] at h; cases h
        | some m =>
          rw [hr] at h
          injection h with h
          subst h
          have hl := stepE_len hs
          obtain ⟨h1, h2⟩ := readE_eq n r m (by omega) hr
          obtain ⟨h3, h4⟩ := stepE_eq hs
          refine ⟨by rw [bodyL_cons, ← h1]; exact h3, fun p hp => ?_⟩
          rcases List.mem_cons.1 hp with rfl | hp
          · exact h4
          · exact h2 p hp
theorem body_prefix : ∀ (l a : List Ent) (y : List UInt8), (∀ p ∈ l, GoodE p) → (∀ p ∈ a, GoodE p) → bodyL l ++ y = bodyL a → l = a.take l.length ∧ l.length ≤ a.length
  | [], _, _, _, _, _ => ⟨rfl, Nat.zero_le _⟩
  | p :: l, [], y, _, _, h => by
    rw [bodyL_cons] at h
    simp [bodyL, bodyE_ne] at h
  | p :: l, q :: a, y, hl, ha, h => by
    rw [bodyL_cons, bodyL_cons, List.append_assoc] at h
    have h1 := stepE_body (hl p (by simp)) (bodyL l ++ y)
    rw [h, stepE_body (ha q (by simp))] at h1
    injection h1 with h1
    injection h1 with h1 h2
    subst h1
    obtain ⟨h3, h4⟩ := body_prefix l a y (fun p hp => hl p (by simp [hp])) (fun p hp => ha p (by simp [hp])) h2.symm
    refine ⟨?_, by simp; exact h4⟩
    rw [List.length_cons, List.take_succ_cons, ← h3]

/-! ### What a tree may have -/
/-- An entry that may stand in a tree. -/
def OneE (p : Ent) : Prop := digs p.mode ≠ [] ∧ namedL p.name = true
def StepE (x y : Ent) : Prop := x.name ≠ y.name ∧ Lib.compareBytes (thoughtL x) (thoughtL y) < 0
theorem OneE.good {p : Ent} (h : OneE p) : GoodE p := by
  refine ⟨h.1, fun hm => ?_⟩
  have h2 := h.2
  unfold namedL at h2
  have : p.name.any isLow = true := List.any_eq_true.2 ⟨0, hm, by decide⟩
  rw [this] at h2
  simp at h2
theorem stepOk_iff {l : List Ent} {i : Nat} : stepOk l i = true ↔ OneE l[i]! ∧ (∀ p ∈ l.take i, p.name ≠ l[i]!.name) ∧ (0 < i → Lib.compareBytes (thoughtL l[i - 1]!) (thoughtL l[i]!) < 0) := by
  unfold stepOk OneE namesL
  simp only [Bool.and_eq_true, Bool.or_eq_true, Bool.not_eq_true', decide_eq_false_iff_not, List.any_eq_false, decide_eq_true_eq, and_assoc]
  constructor
  · rintro ⟨h1, h2, h3, h4⟩
    exact ⟨h1, h2, h3, fun hi => by rcases h4 with h | h <;> omega⟩
  · rintro ⟨h1, h2, h3, h4⟩
    exact ⟨h1, h2, h3, by rcases Nat.eq_zero_or_pos i with h | h; exact .inl (by omega); exact .inr (by have := h4 h; omega)⟩
theorem pair_iff {α : Type} [Inhabited α] {R : α → α → Prop} {l : List α} : l.Pairwise R ↔ ∀ j, j < l.length → ∀ i, i < j → R l[i]! l[j]! := by
  rw [List.pairwise_iff_getElem]
  constructor
  · intro h j hj i hi
    rw [getElem!_pos l i (by omega), getElem!_pos l j hj]
    exact h i j (by omega) hj hi
  · intro h i j hi hj hij
    have := h j hj i hij
    rw [getElem!_pos l i (by omega), getElem!_pos l j hj] at this
    exact this
theorem right_iff {l : List Ent} : RightE l ↔ (∀ p ∈ l, OneE p) ∧ l.Pairwise StepE := by
  constructor
  · intro h
    have hs := fun i hi => stepOk_iff.1 (h i hi)
    refine ⟨fun p hp => ?_, ?_⟩
    · obtain ⟨i, hi, rfl⟩ := List.getElem_of_mem hp
      have := (hs i hi).1
      rw [getElem!_pos l i hi] at this
      exact this
    · rw [pair_iff]
      intro j
      induction j with
      | zero => intro _ i hi; omega
      | succ j ih =>
        intro hj i hi
        obtain ⟨-, h2, h3⟩ := hs (j + 1) hj
        refine ⟨h2 _ ?_, ?_⟩
        · rw [getElem!_pos l i (by omega)]
          rw [List.mem_iff_getElem]
          exact ⟨i, by rw [List.length_take]; omega, by rw [List.getElem_take]⟩
        · have h4 := h3 (by omega)
          rw [Nat.add_sub_cancel] at h4
          rcases Nat.lt_or_ge i j with h | h
          · exact cmp_trans (ih (by omega) i h).2 h4
          · obtain rfl : i = j := by omega
            exact h4
  · rintro ⟨h1, h2⟩ i hi
    rw [pair_iff] at h2
    rw [stepOk_iff]
    refine ⟨h1 _ (by rw [getElem!_pos l i hi]; exact List.getElem_mem hi), fun p hp => ?_, fun h => (h2 i hi (i - 1) (by omega)).2⟩
    obtain ⟨j, hj, rfl⟩ := List.getElem_of_mem hp
    rw [List.length_take] at hj
    have := (h2 i hi j (by omega)).1
    rw [getElem!_pos l j (by omega)] at this
    rw [List.getElem_take]
    exact this
theorem RightE.sub {l m : List Ent} (h : RightE l) (hs : m.Sublist l) : RightE m := by
  rw [right_iff] at *
  exact ⟨fun p hp => h.1 p (hs.subset hp), h.2.sublist hs⟩
theorem RightE.good {l : List Ent} (h : RightE l) : ∀ p ∈ l, GoodE p := fun p hp => ((right_iff.1 h).1 p hp).good
theorem RightE.names {l : List Ent} (h : RightE l) : ∀ p ∈ l, p.name.length ≤ 255 := fun p hp => by
  have h2 := ((right_iff.1 h).1 p hp).2
  unfold namedL at h2
  simp only [Bool.and_eq_true, decide_eq_true_eq] at h2
  exact h2.1.1.1.2
theorem RightE.twice {l : List Ent} {p : Ent} (hp : p ∈ l) : ¬ RightE (l ++ [p]) := fun h => by
  have := (right_iff.1 h).2
  rw [List.pairwise_append] at this
  exact (this.2.2 p hp p (by simp)).1 rfl
theorem RightE.back {l : List Ent} (h : RightE l) : readE (bodyL l).length (bodyL l) = some l := readE_body l h.good _ (Nat.le_refl _)
end Go.Proofs.Ytbllpjphlanchaa
