/-
  Exchanges of a list's values, plain: of two; of two blocks, one by one.
  Stable sorting, plain: what is in order, what has each class as it was; there is but one such list.
  Stable sorting by insertion, and by merging in place: the lists, plain.
  Merging in place: binary searches, moves by exchanges, parts: plain.
  Rows whose blocks are in order: plain.
-/
namespace Go.Proofs.Ytbllpjphlanchaa

section
variable {α : Type} [Inhabited α]

def swpL (l : List α) (i j : Nat) : List α := (l.set i l[j]!).set j l[i]!
theorem swpL_len (l : List α) (i j : Nat) : (swpL l i j).length = l.length := by unfold swpL; rw [List.length_set, List.length_set]
theorem swpL_at (A B C : List α) (x y : α) : swpL (A ++ x :: (B ++ y :: C)) A.length (A.length + 1 + B.length) = A ++ y :: (B ++ x :: C) := by
  unfold swpL
  have e1 : (A ++ x :: (B ++ y :: C))[A.length]! = x := by
    rw [getElem!_pos _ _ (by simp), List.getElem_append_right (by omega)]; simp
  have e2 : (A ++ x :: (B ++ y :: C))[A.length + 1 + B.length]! = y := by
    rw [getElem!_pos _ _ (by simp; omega), List.getElem_append_right (by omega)]
    simp [show A.length + 1 + B.length - A.length = B.length + 1 by omega]
  rw [e1, e2, List.set_append_right _ _ (by omega), Nat.sub_self, List.set_cons_zero, List.set_append_right _ _ (by omega), show A.length + 1 + B.length - A.length = B.length + 1 by omega, List.set_cons_succ,
    List.set_append_right _ _ (by omega), Nat.sub_self, List.set_cons_zero]
/-- Two blocks, exchanged up to i. -/
def crossed (P X M Y S : List α) (i : Nat) : List α := P ++ (Y.take i ++ X.drop i) ++ M ++ (X.take i ++ Y.drop i) ++ S
omit [Inhabited α] in
theorem crossed_zero (P X M Y S : List α) : crossed P X M Y S 0 = P ++ X ++ M ++ Y ++ S := by unfold crossed; simp
omit [Inhabited α] in
theorem crossed_all {P X M Y S : List α} {n : Nat} (hX : X.length = n) (hY : Y.length = n) : crossed P X M Y S n = P ++ Y ++ M ++ X ++ S := by
  unfold crossed
  rw [List.take_of_length_le (by omega), List.drop_of_length_le (by omega), List.take_of_length_le (l := X) (by omega), List.drop_of_length_le (l := Y) (by omega)]
  simp
omit [Inhabited α] in
theorem crossed_len {P X M Y S : List α} {n i : Nat} (hX : X.length = n) (hY : Y.length = n) (hi : i ≤ n) : (crossed P X M Y S i).length = P.length + n + M.length + n + S.length := by
  unfold crossed; simp; omega
theorem crossed_succ {P X M Y S : List α} {n i : Nat} (hX : X.length = n) (hY : Y.length = n) (hi : i < n) :
    swpL (crossed P X M Y S i) (P.length + i) (P.length + n + M.length + i) = crossed P X M Y S (i + 1) := by
  unfold crossed
  rw [List.drop_eq_getElem_cons (l := X) (by omega), List.drop_eq_getElem_cons (l := Y) (by omega)]
  have h := swpL_at (P ++ Y.take i) (X.drop (i + 1) ++ M ++ X.take i) (Y.drop (i + 1) ++ S) (X[i]'(by omega)) (Y[i]'(by omega))
  have l1 : (P ++ Y.take i).length = P.length + i := by simp; omega
  have l2 : (P ++ Y.take i).length + 1 + (X.drop (i + 1) ++ M ++ X.take i).length = P.length + n + M.length + i := by simp; omega
  rw [l2, l1] at h
  simp only [List.append_assoc, List.cons_append] at h ⊢
  rw [h, List.take_succ_eq_append_getElem (l := X) (by omega), List.take_succ_eq_append_getElem (l := Y) (by omega)]
  simp only [List.append_assoc, List.cons_append, List.nil_append]
end
end Go.Proofs.Ytbllpjphlanchaa
namespace Go.Proofs.Ytbllpjphlanchaa

section
variable {α : Type} (lt : α → α → Bool)

/-- Neither is ahead of the other. -/
def eqvB (x y : α) : Bool := !lt x y && !lt y x
/-- In order. -/
def SortedB (l : List α) : Prop := l.Pairwise fun x y => lt y x = false
/-- The same values, each class in its order. -/
def StEq (l m : List α) : Prop := ∀ x, l.filter (eqvB lt x) = m.filter (eqvB lt x)

/-- A strict weak order. -/
structure WeakO : Prop where
  irr : ∀ x, lt x x = false
  trans : ∀ x y z, lt x y = true → lt y z = true → lt x z = true
  neg : ∀ x y z, lt x y = false → lt y z = false → lt x z = false

variable {lt}
theorem StEq.refl (l : List α) : StEq lt l l := fun _ => rfl
theorem StEq.symm {l m : List α} (h : StEq lt l m) : StEq lt m l := fun x => (h x).symm
theorem StEq.trans {l m k : List α} (h : StEq lt l m) (g : StEq lt m k) : StEq lt l k := fun x => (h x).trans (g x)
theorem StEq.append {a a' b b' : List α} (h : StEq lt a a') (g : StEq lt b b') : StEq lt (a ++ b) (a' ++ b') := fun x => by
  rw [List.filter_append, List.filter_append, h x, g x]
variable (O : WeakO lt)
include O
theorem eqvB_self (x : α) : eqvB lt x x = true := by unfold eqvB; rw [O.irr]; rfl
theorem eqvB_lt {x y z : α} (h : eqvB lt x y = true) (g : eqvB lt x z = true) : lt y z = false := by
  unfold eqvB at h g
  simp only [Bool.and_eq_true, Bool.not_eq_true'] at h g
  exact O.neg y x z h.2 g.1
theorem lt_le {x y : α} (h : lt x y = true) : lt y x = false := by
  cases hc : lt y x with
  | false => rfl
  | true => have := O.trans x y x h hc; rw [O.irr] at this; cases this
theorem le_lt_trans {x y z : α} (h : lt y x = false) (g : lt y z = true) : lt x z = true := by
  cases hc : lt x z with
  | true => rfl
  | false => have := O.neg y x z h hc; rw [g] at this; cases this
theorem lt_le_trans {x y z : α} (h : lt x y = true) (g : lt z y = false) : lt x z = true := by
  cases hc : lt x z with
  | true => rfl
  | false => have := O.neg x z y hc g; rw [h] at this; cases this
/-- Two blocks, the latter's values all ahead of the former's. -/
theorem StEq.swap {u v : List α} (h : ∀ x ∈ u, ∀ y ∈ v, lt y x = true) : StEq lt (u ++ v) (v ++ u) := fun z => by
  rw [List.filter_append, List.filter_append]
  by_cases hu : u.filter (eqvB lt z) = []
  · rw [hu, List.nil_append, List.append_nil]
  · by_cases hv : v.filter (eqvB lt z) = []
    · rw [hv, List.nil_append, List.append_nil]
    · exfalso
      obtain ⟨x, hx⟩ := List.exists_mem_of_ne_nil _ hu
      obtain ⟨y, hy⟩ := List.exists_mem_of_ne_nil _ hv
      rw [List.mem_filter] at hx hy
      have h1 := eqvB_lt O hy.2 hx.2
      rw [h x hx.1 y hy.1] at h1
      cases h1
theorem StEq.mem {l m : List α} (h : StEq lt l m) {x : α} (hx : x ∈ l) : x ∈ m := by
  have : x ∈ l.filter (eqvB lt x) := List.mem_filter.2 ⟨hx, eqvB_self O x⟩
  rw [h x] at this
  exact (List.mem_filter.1 this).1
theorem StEq.count {l m : List α} [BEq α] [LawfulBEq α] (h : StEq lt l m) (x : α) : l.count x = m.count x := by
  have e : ∀ l : List α, l.count x = (l.filter (eqvB lt x)).count x := fun l => by
    rw [List.count_filter (eqvB_self O x)]
  rw [e l, e m, h x]
theorem sorted_uniq : ∀ {l m : List α}, SortedB lt l → SortedB lt m → StEq lt l m → l = m
  | [], [], _, _, _ => rfl
  | [], y :: m, _, _, h => by have := StEq.mem O h.symm (x := y) (by simp); simp at this
  | x :: l, [], _, _, h => by have := StEq.mem O h (x := x) (by simp); simp at this
  | x :: l, y :: m, hl, hm, h => by
    have hl' := List.pairwise_cons.1 hl
    have hm' := List.pairwise_cons.1 hm
    have hxy : lt x y = false := by
      have := StEq.mem O h (x := x) (by simp)
      rcases List.mem_cons.1 this with rfl | h1
      · exact O.irr x
      · exact hm'.1 x h1
    have hyx : lt y x = false := by
      have := StEq.mem O h.symm (x := y) (by simp)
      rcases List.mem_cons.1 this with rfl | h1
      · exact O.irr y
      · exact hl'.1 y h1
    have e1 : eqvB lt x y = true := by unfold eqvB; rw [hxy, hyx]; rfl
    have h2 := h x
    rw [List.filter_cons_of_pos (eqvB_self O x), List.filter_cons_of_pos e1] at h2
    injection h2 with h2 h3
    subst h2
    have h4 : StEq lt l m := fun z => by
      have h5 := h z
      by_cases hz : eqvB lt z x = true
      · rw [List.filter_cons_of_pos hz, List.filter_cons_of_pos hz] at h5
        injection h5
      · rw [List.filter_cons_of_neg hz, List.filter_cons_of_neg hz] at h5
        exact h5
    rw [sorted_uniq hl'.2 hm'.2 h4]
/-- Rising strictly: each class has one value. -/
theorem rising_steq {l m : List α} [BEq α] [LawfulBEq α] (h : l.Pairwise fun x y => lt x y = true) (hp : l.Perm m) : StEq lt l m := fun z => by
  have h1 : ∀ k : List α, k.Pairwise (fun x y => lt x y = true) → (k.filter (eqvB lt z)).length ≤ 1 := fun k hk => by
    have h2 : (k.filter (eqvB lt z)).Pairwise (fun x y => lt x y = true) := hk.filter _
    match hf : k.filter (eqvB lt z), h2 with
    | [], _ => simp
    | [_], _ => simp
    | x :: y :: r, h2 =>
      exfalso
      have hx : x ∈ k.filter (eqvB lt z) := by rw [hf]; simp
      have hy : y ∈ k.filter (eqvB lt z) := by rw [hf]; simp
      rw [List.mem_filter] at hx hy
      have h3 := (List.pairwise_cons.1 h2).1 y (by simp)
      rw [eqvB_lt O hx.2 hy.2] at h3
      cases h3
  have h2 := h1 l h
  have h3 := hp.filter (eqvB lt z)
  generalize l.filter (eqvB lt z) = a at *
  generalize m.filter (eqvB lt z) = b at *
  match a, h2 with
  | [], _ => exact (List.nil_perm.1 h3).symm
  | [x], _ => exact List.singleton_perm.1 h3 |>.symm ▸ rfl
  | _ :: _ :: _, h2 => simp at h2
/-- One block's merge of two, by its parts: P up to V, U up to S. -/
theorem merge_parts {P U V S L R : List α} (hA : SortedB lt (P ++ U)) (hB : SortedB lt (V ++ S)) (hPS : ∀ x ∈ P, ∀ y ∈ S, lt y x = false) (hVU : ∀ x ∈ U, ∀ y ∈ V, lt y x = true)
    (hL : SortedB lt L) (hR : SortedB lt R) (eL : StEq lt (P ++ V) L) (eR : StEq lt (U ++ S) R) : SortedB lt (L ++ R) ∧ StEq lt (P ++ U ++ (V ++ S)) (L ++ R) := by
  have hA' := List.pairwise_append.1 hA
  have hB' := List.pairwise_append.1 hB
  refine ⟨List.pairwise_append.2 ⟨hL, hR, fun x hx y hy => ?_⟩, ?_⟩
  · have h1 := StEq.mem O eL.symm hx
    have h2 := StEq.mem O eR.symm hy
    rcases List.mem_append.1 h1 with h1 | h1 <;> rcases List.mem_append.1 h2 with h2 | h2
    · exact hA'.2.2 x h1 y h2
    · exact hPS x h1 y h2
    · exact lt_le O (hVU y h2 x h1)
    · exact hB'.2.2 x h1 y h2
  · have e1 : StEq lt (P ++ U ++ (V ++ S)) (P ++ V ++ (U ++ S)) := by
      have := ((StEq.refl (lt := lt) P).append (StEq.swap O hVU)).append (StEq.refl (lt := lt) S)
      simpa [List.append_assoc] using this
    exact e1.trans (eL.append eR)
theorem sorted_last {l : List α} {z : α} (h : SortedB lt l) (hz : l.getLast? = some z) : ∀ x ∈ l, lt z x = false := fun x hx => by
  have h0 : l ≠ [] := by rintro rfl; cases hz
  rw [List.getLast?_eq_some_getLast h0] at hz
  injection hz with hz
  rw [← List.dropLast_concat_getLast h0, hz] at h hx
  rcases List.mem_append.1 hx with h1 | h1
  · exact (List.pairwise_append.1 h).2.2 x h1 z (by simp)
  · simp at h1; rw [h1]; exact O.irr z
theorem sorted_head {l : List α} {z : α} (h : SortedB lt l) (hz : l.head? = some z) : ∀ x ∈ l, lt x z = false := fun x hx => by
  cases l with
  | nil => cases hz
  | cons y l =>
    injection hz with hz
    subst hz
    rcases List.mem_cons.1 hx with rfl | h1
    · exact O.irr x
    · exact (List.pairwise_cons.1 h).1 x h1
/-- What a binary search tells of two rising rows. -/
theorem parts_le {P S : List α} (hP : SortedB lt P) (hS : SortedB lt S) (h : ∀ x y, P.getLast? = some x → S.head? = some y → lt y x = false) : ∀ x ∈ P, ∀ y ∈ S, lt y x = false := fun x hx y hy => by
  cases hl : P.getLast? with
  | none => rw [List.getLast?_eq_none_iff] at hl; subst hl; simp at hx
  | some z =>
    cases hh : S.head? with
    | none => rw [List.head?_eq_none_iff] at hh; subst hh; simp at hy
    | some u => exact O.neg y u x (sorted_head O hS hh y hy) (O.neg u z x (h z u hl hh) (sorted_last O hP hl x hx))
theorem parts_lt {U V : List α} (hU : SortedB lt U) (hV : SortedB lt V) (h : ∀ x y, V.getLast? = some x → U.head? = some y → lt x y = true) : ∀ x ∈ U, ∀ y ∈ V, lt y x = true := fun x hx y hy => by
  cases hl : V.getLast? with
  | none => rw [List.getLast?_eq_none_iff] at hl; subst hl; simp at hy
  | some z =>
    cases hh : U.head? with
    | none => rw [List.head?_eq_none_iff] at hh; subst hh; simp at hx
    | some u => exact le_lt_trans O (sorted_last O hV hl y hy) (lt_le_trans O (h z u hl hh) (sorted_head O hU hh x hx))
end
end Go.Proofs.Ytbllpjphlanchaa
namespace Go.Proofs.Ytbllpjphlanchaa

section
variable {α : Type} [Inhabited α]

omit [Inhabited α] in
theorem nil_or_snoc (l : List α) : l = [] ∨ ∃ m u, l = m ++ [u] := by
  rcases List.eq_nil_or_concat l with h | ⟨m, u, h⟩
  · exact .inl h
  · exact .inr ⟨m, u, by rw [h, List.concat_eq_append]⟩
theorem atMid (A : List α) (x : α) (B : List α) (k : Nat) (hk : k = A.length) : k < (A ++ x :: B).length ∧ (A ++ x :: B)[k]! = x := by
  subst hk
  refine ⟨by simp, ?_⟩
  rw [getElem!_pos _ _ (by simp), List.getElem_append_right (by omega)]; simp
omit [Inhabited α] in
/-- Two neighbours, exchanged: by two stores, in whatever order. -/
theorem swpAdj (A : List α) (u z : α) (B : List α) (k : Nat) (hk : k = A.length) :
    ((A ++ u :: z :: B).set (k + 1) u).set k z = A ++ z :: u :: B ∧ ((A ++ u :: z :: B).set k z).set (k + 1) u = A ++ z :: u :: B := by
  subst hk
  refine ⟨?_, ?_⟩
  · rw [List.set_append_right _ _ (by omega), show A.length + 1 - A.length = 1 by omega, List.set_cons_succ, List.set_cons_zero, List.set_append_right _ _ (by omega), Nat.sub_self, List.set_cons_zero]
  · rw [List.set_append_right _ _ (by omega), Nat.sub_self, List.set_cons_zero, List.set_append_right _ _ (by omega), show A.length + 1 - A.length = 1 by omega, List.set_cons_succ, List.set_cons_zero]

variable {lt : α → α → Bool}
omit [Inhabited α] in
theorem ins_done (O : WeakO lt) {Y1 Y2 : List α} {z : α} (hY : SortedB lt (Y1 ++ Y2)) (h2 : ∀ y ∈ Y2, lt z y = true) (h1 : ∀ y ∈ Y1, lt z y = false) :
    SortedB lt (Y1 ++ z :: Y2) ∧ StEq lt (Y1 ++ Y2 ++ [z]) (Y1 ++ z :: Y2) := by
  have hp := List.pairwise_append.1 hY
  refine ⟨List.pairwise_append.2 ⟨hp.1, List.pairwise_cons.2 ⟨fun y hy => lt_le O (h2 y hy), hp.2.1⟩, fun x hx y hy => ?_⟩, ?_⟩
  · rcases List.mem_cons.1 hy with rfl | hy
    · exact h1 x hx
    · exact hp.2.2 x hx y hy
  · have := (StEq.refl (lt := lt) Y1).append (StEq.swap O (u := Y2) (v := [z]) fun x hx y hy => by simp at hy; subst hy; exact h2 x hx)
    simpa [List.append_assoc] using this
omit [Inhabited α] in
/-- One value in front of a rising row. -/
theorem ins_front (O : WeakO lt) {B1 B2 : List α} {x : α} (hB : SortedB lt (B1 ++ B2)) (h1 : ∀ y ∈ B1, lt y x = true) (h2 : ∀ y ∈ B2, lt y x = false) :
    SortedB lt (B1 ++ x :: B2) ∧ StEq lt (x :: (B1 ++ B2)) (B1 ++ x :: B2) := by
  have hp := List.pairwise_append.1 hB
  refine ⟨List.pairwise_append.2 ⟨hp.1, List.pairwise_cons.2 ⟨fun y hy => h2 y hy, hp.2.1⟩, fun u hu y hy => ?_⟩, ?_⟩
  · rcases List.mem_cons.1 hy with rfl | hy
    · exact lt_le O (h1 u hu)
    · exact hp.2.2 u hu y hy
  · have := (StEq.swap O (u := [x]) (v := B1) fun u hu y hy => by simp at hu; subst hu; exact h1 y hy).append (StEq.refl (lt := lt) B2)
    simpa [List.append_assoc] using this

/-! ### Insertion: the rounds -/
/-- Behind i - a rounds: Y is the front of X in order, Z what is left. -/
structure InsO (lt : α → α → Bool) (a b i : Nat) (X S P l : List α) (Y Z : List α) : Prop where
  eq : l = P ++ Y ++ Z ++ S
  ha : a = P.length
  hb : b = P.length + X.length
  st : StEq lt X (Y ++ Z)
  len : Y.length + Z.length = X.length
  srt : SortedB lt Y
  at_ : i = P.length + Y.length ∨ Z = [] ∧ b ≤ i
/-- z on its way to its place: at j. -/
structure InsI (lt : α → α → Bool) (a b i j : Nat) (X S P l : List α) (Y1 : List α) (z : α) (Y2 Z : List α) : Prop where
  eq : l = P ++ Y1 ++ z :: (Y2 ++ Z ++ S)
  ha : a = P.length
  hb : b = P.length + X.length
  st : StEq lt X (Y1 ++ Y2 ++ z :: Z)
  len : Y1.length + Y2.length + 1 + Z.length = X.length
  srt : SortedB lt (Y1 ++ Y2)
  up : ∀ y ∈ Y2, lt z y = true
  hj : j = P.length + Y1.length
  hi : i = P.length + Y1.length + Y2.length
omit [Inhabited α] in
theorem InsO.start {a b : Nat} {X S P l : List α} (heq : l = P ++ X ++ S) (ha : a = P.length) (hb : b = P.length + X.length) : ∃ Y Z, InsO lt a b (a + 1) X S P l Y Z := by
  cases X with
  | nil => exact ⟨[], [], by simpa using heq, ha, hb, StEq.refl _, rfl, List.Pairwise.nil, .inr ⟨rfl, by simp at hb; omega⟩⟩
  | cons x X => exact ⟨[x], X, by simpa using heq, ha, hb, StEq.refl _, by simp; omega, by unfold SortedB; simp, .inl (by simp; omega)⟩
omit [Inhabited α] in
theorem InsO.inner {a b i : Nat} {X S P l Y Z : List α} (h : InsO lt a b i X S P l Y Z) (hib : i < b) : ∃ z Z2, InsI lt a b i i X S P l Y z [] Z2 := by
  obtain ⟨h1, h2, h3, h4, h5, h6, h7⟩ := h
  cases Z with
  | nil =>
    exfalso
    simp at h5
    rcases h7 with h7 | h7 <;> omega
  | cons z Z2 =>
    have h7 : i = P.length + Y.length := h7.elim id (fun h => by cases h.1)
    exact ⟨z, Z2, by rw [h1]; simp, h2, h3, by simpa using h4, by simp at h5 ⊢; omega, by simpa using h6, by simp, h7, by simpa using h7⟩
/-- z is at its place. -/
theorem InsI.done (O : WeakO lt) {a b i j : Nat} {X S P l Y1 Y2 Z : List α} {z : α} (h : InsI lt a b i j X S P l Y1 z Y2 Z) (hstop : j = a ∨ lt z l[j - 1]! = false) :
    InsO lt a b (i + 1) X S P l (Y1 ++ z :: Y2) Z := by
  obtain ⟨h1, h2, h3, h4, h5, h6, h7, h8, h9⟩ := h
  have hd : ∀ y ∈ Y1, lt z y = false := by
    rcases nil_or_snoc Y1 with rfl | ⟨Y, u, rfl⟩
    · simp
    · rcases hstop with hs | hs
      · simp at h8; omega
      · have e : l[j - 1]! = u := by
          rw [h1, h8]
          have := (atMid (P ++ Y) u (z :: (Y2 ++ Z ++ S)) (P.length + (Y ++ [u]).length - 1) (by simp <;> omega)).2
          simp only [List.append_assoc] at this ⊢; exact this
        rw [e] at hs
        intro y hy
        exact O.neg z u y hs (sorted_last O (List.pairwise_append.1 h6).1 (by simp) y hy)
  obtain ⟨d1, d2⟩ := ins_done O h6 h7 hd
  refine ⟨by rw [h1]; simp, h2, h3, ?_, by simp; omega, d1, .inl (by simp; omega)⟩
  refine h4.trans ?_
  have := d2.append (StEq.refl (lt := lt) Z)
  simpa [List.append_assoc] using this
/-- z one step further. -/
theorem InsI.step {a b i j : Nat} {X S P l Y1 Y2 Z : List α} {z : α} (h : InsI lt a b i j X S P l Y1 z Y2 Z) (hj : a < j) (hlt : lt l[j]! l[j - 1]! = true) :
    ∃ Y u, InsI lt a b i (j - 1) X S P ((l.set j l[j - 1]!).set (j - 1) l[j]!) Y z (u :: Y2) Z := by
  obtain ⟨h1, h2, h3, h4, h5, h6, h7, h8, h9⟩ := h
  rcases nil_or_snoc Y1 with rfl | ⟨Y, u, rfl⟩
  · simp at h8; omega
  · have e : l = (P ++ Y) ++ u :: z :: (Y2 ++ Z ++ S) := by rw [h1]; simp
    have hk : j - 1 = (P ++ Y).length := by rw [h8]; simp <;> omega
    have e1 : l[j - 1]! = u := by rw [e]; exact (atMid _ _ _ _ hk).2
    have e2 : l[j]! = z := by
      have := (atMid ((P ++ Y) ++ [u]) z (Y2 ++ Z ++ S) j (by rw [h8]; simp <;> omega)).2
      rw [e]; simpa [List.append_assoc] using this
    rw [e1, e2] at hlt ⊢
    have hj1 : j = j - 1 + 1 := by omega
    refine ⟨Y, u, ?_, h2, h3, by simpa [List.append_assoc] using h4, by simp at h5 ⊢; omega, by simpa [List.append_assoc] using h6, ?_, by rw [hk]; simp, by rw [h9]; simp; omega⟩
    · have := (swpAdj (P ++ Y) u z (Y2 ++ Z ++ S) (j - 1) hk).1
      rw [← hj1, ← e] at this
      rw [this]; simp
    · intro y hy
      rcases List.mem_cons.1 hy with rfl | hy
      · exact hlt
      · exact h7 y hy
theorem InsI.z {a b i j : Nat} {X S P l Y1 Y2 Z : List α} {z : α} (h : InsI lt a b i j X S P l Y1 z Y2 Z) : l[j]! = z := by
  rw [h.eq]
  have := (atMid (P ++ Y1) z (Y2 ++ Z ++ S) j (by rw [h.hj]; simp)).2
  exact this
omit [Inhabited α] in
theorem InsI.lens {a b i j : Nat} {X S P l Y1 Y2 Z : List α} {z : α} (h : InsI lt a b i j X S P l Y1 z Y2 Z) : j < l.length ∧ a ≤ j ∧ j ≤ i ∧ i < b ∧ l.length = P.length + X.length + S.length := by
  obtain ⟨h1, h2, h3, h4, h5, h6, h7, h8, h9⟩ := h
  have : l.length = P.length + X.length + S.length := by rw [h1]; simp; omega
  omega
omit [Inhabited α] in
theorem InsO.all {a b i : Nat} {X S P l Y Z : List α} (h : InsO lt a b i X S P l Y Z) (hib : b ≤ i) : l = P ++ Y ++ S ∧ SortedB lt Y ∧ StEq lt X Y := by
  obtain ⟨h1, h2, h3, h4, h5, h6, h7⟩ := h
  have hz : Z = [] := by
    rcases h7 with h7 | h7
    · exact List.eq_nil_of_length_eq_zero (by omega)
    · exact h7.1
  subst hz
  exact ⟨by simpa using h1, h6, by simpa using h4⟩
end
end Go.Proofs.Ytbllpjphlanchaa
namespace Go.Proofs.Ytbllpjphlanchaa

section
variable {α : Type} [Inhabited α]

/-! ### A binary search -/
/-- Up to t p holds, from u on it does not. -/
def Srch (p : α → Bool) (B : List α) (t u : Nat) : Prop := t ≤ u ∧ u ≤ B.length ∧ (∀ y ∈ B.take t, p y = true) ∧ ∀ y ∈ B.drop u, p y = false
/-- What holds of a value holds of those ahead of it. -/
def Mono (lt : α → α → Bool) (p : α → Bool) : Prop := ∀ x y, lt y x = false → p y = true → p x = true
variable {lt : α → α → Bool}
omit [Inhabited α] in
theorem Srch.start (p : α → Bool) (B : List α) : Srch p B 0 B.length := ⟨Nat.zero_le _, Nat.le_refl _, by simp, by simp⟩
theorem srt_take (O : WeakO lt) {B : List α} (hB : SortedB lt B) {h : Nat} (hh : h < B.length) : ∀ y ∈ B.take (h + 1), lt B[h]! y = false := fun y hy => by
  have hp := hB
  unfold SortedB at hp
  rw [List.pairwise_iff_getElem] at hp
  obtain ⟨k, hk, rfl⟩ := List.getElem_of_mem hy
  rw [List.length_take] at hk
  rw [List.getElem_take, getElem!_pos B h hh]
  rcases Nat.lt_or_ge k h with h1 | h1
  · exact hp k h (by omega) hh h1
  · obtain rfl : k = h := by omega
    exact O.irr _
theorem srt_drop (O : WeakO lt) {B : List α} (hB : SortedB lt B) {h : Nat} (hh : h < B.length) : ∀ y ∈ B.drop h, lt y B[h]! = false := fun y hy => by
  have hp := hB
  unfold SortedB at hp
  rw [List.pairwise_iff_getElem] at hp
  obtain ⟨k, hk, rfl⟩ := List.getElem_of_mem hy
  rw [List.length_drop] at hk
  rw [List.getElem_drop, getElem!_pos B h hh]
  rcases Nat.eq_zero_or_pos k with h1 | h1
  · subst h1; exact O.irr _
  · exact hp h (h + k) hh (by omega) (by omega)
theorem Srch.yes (O : WeakO lt) {p : α → Bool} (hp : Mono lt p) {B : List α} (hB : SortedB lt B) {t u h : Nat} (hs : Srch p B t u) (h2 : h < u) (hy : p B[h]! = true) : Srch p B (h + 1) u := by
  obtain ⟨s1, s2, s3, s4⟩ := hs
  exact ⟨by omega, s2, fun y hm => hp y _ (srt_take O hB (by omega) y hm) hy, s4⟩
theorem Srch.no (O : WeakO lt) {p : α → Bool} (hp : Mono lt p) {B : List α} (hB : SortedB lt B) {t u h : Nat} (hs : Srch p B t u) (h1 : t ≤ h) (h2 : h < u) (hy : p B[h]! = false) : Srch p B t h := by
  obtain ⟨s1, s2, s3, s4⟩ := hs
  refine ⟨h1, by omega, s3, fun y hm => ?_⟩
  cases hc : p y with
  | false => rfl
  | true => rw [hp _ y (srt_drop O hB (by omega) y hm) hc] at hy; cases hy
omit [Inhabited α] in
theorem mono_lt (O : WeakO lt) (x : α) : Mono lt fun y => lt y x := fun _ _ h1 h2 => le_lt_trans O h1 h2
omit [Inhabited α] in
theorem mono_ge (O : WeakO lt) (z : α) : Mono lt fun y => !lt z y := fun a b h1 h2 => by
  simp only [Bool.not_eq_true'] at h2 ⊢
  exact O.neg z b a h2 h1

/-! ### A value moved by exchanges -/
def mvL (P : List α) (x : α) (B R : List α) (t : Nat) : List α := P ++ B.take t ++ x :: (B.drop t ++ R)
theorem mv_up {P B R : List α} {x : α} {t k : Nat} (ht : t < B.length) (hk : k = P.length + t) :
    k + 1 < (mvL P x B R t).length ∧ (((mvL P x B R t).set k (mvL P x B R t)[k + 1]!).set (k + 1) (mvL P x B R t)[k]!) = mvL P x B R (t + 1) := by
  have e : mvL P x B R t = (P ++ B.take t) ++ x :: B[t] :: (B.drop (t + 1) ++ R) := by unfold mvL; rw [List.drop_eq_getElem_cons ht]; simp only [List.append_assoc, List.cons_append]
  have hk2 : k = (P ++ B.take t).length := by rw [hk, List.length_append, List.length_take]; omega
  have e1 := (atMid (P ++ B.take t) x (B[t] :: (B.drop (t + 1) ++ R)) k hk2).2
  have e2 := (atMid ((P ++ B.take t) ++ [x]) B[t] (B.drop (t + 1) ++ R) (k + 1) (by rw [List.length_append, ← hk2]; simp)).2
  have e3 : ((P ++ B.take t) ++ [x]) ++ B[t] :: (B.drop (t + 1) ++ R) = (P ++ B.take t) ++ x :: B[t] :: (B.drop (t + 1) ++ R) := by simp
  rw [e3] at e2
  refine ⟨by rw [e, List.length_append, ← hk2]; simp, ?_⟩
  rw [e, e1, e2, (swpAdj _ x B[t] _ k hk2).2]
  unfold mvL
  rw [List.take_succ_eq_append_getElem ht]
  simp only [List.append_assoc, List.cons_append, List.nil_append]
theorem mv_down {P B R : List α} {x : α} {t k : Nat} (h0 : 0 < t) (ht : t ≤ B.length) (hk : k = P.length + t) :
    k < (mvL P x B R t).length ∧ (((mvL P x B R t).set k (mvL P x B R t)[k - 1]!).set (k - 1) (mvL P x B R t)[k]!) = mvL P x B R (t - 1) := by
  obtain ⟨s, rfl⟩ : ∃ s, t = s + 1 := ⟨t - 1, by omega⟩
  have hs : s < B.length := by omega
  have e : mvL P x B R (s + 1) = (P ++ B.take s) ++ B[s] :: x :: (B.drop (s + 1) ++ R) := by unfold mvL; rw [List.take_succ_eq_append_getElem hs]; simp only [List.append_assoc, List.cons_append, List.nil_append]
  have hk2 : k - 1 = (P ++ B.take s).length := by rw [hk, List.length_append, List.length_take]; omega
  have hk3 : k = k - 1 + 1 := by omega
  have e1 := (atMid (P ++ B.take s) B[s] (x :: (B.drop (s + 1) ++ R)) (k - 1) hk2).2
  have e2 := (atMid ((P ++ B.take s) ++ [B[s]]) x (B.drop (s + 1) ++ R) k (by rw [List.length_append, ← hk2]; simp only [List.length_cons, List.length_nil]; omega)).2
  have e3 : ((P ++ B.take s) ++ [B[s]]) ++ x :: (B.drop (s + 1) ++ R) = (P ++ B.take s) ++ B[s] :: x :: (B.drop (s + 1) ++ R) := by simp only [List.append_assoc, List.cons_append, List.nil_append]
  rw [e3] at e2
  refine ⟨by rw [e, List.length_append, ← hk2]; simp; omega, ?_⟩
  rw [e, e1, e2]
  have e4 := (swpAdj (P ++ B.take s) B[s] x (B.drop (s + 1) ++ R) (k - 1) hk2).1
  rw [← hk3] at e4
  rw [e4]
  unfold mvL
  rw [Nat.add_sub_cancel, List.drop_eq_getElem_cons hs]
  simp only [List.append_assoc, List.cons_append]
omit [Inhabited α] in
theorem mv_front (P : List α) (x : α) (B S : List α) (T : Nat) : P ++ [x] ++ B ++ S = mvL P x (B.take T) (B.drop T ++ S) 0 := by
  unfold mvL
  rw [List.take_zero, List.drop_zero, ← List.append_assoc (B.take T), List.take_append_drop]
  simp
omit [Inhabited α] in
theorem mv_back (P A : List α) (z : α) (S : List α) (T : Nat) : P ++ A ++ [z] ++ S = mvL (P ++ A.take T) z (A.drop T) S (A.drop T).length := by
  unfold mvL
  rw [List.take_length, List.drop_length, List.append_assoc P (A.take T), List.take_append_drop]
  simp
omit [Inhabited α] in
/-- One value and a rising row: merged. -/
theorem mv_done_front (O : WeakO lt) {P B S : List α} {x : α} {T : Nat} (hB : SortedB lt B) (hs : Srch (fun y => lt y x) B T T) :
    mvL P x (B.take T) (B.drop T ++ S) (B.take T).length = P ++ (B.take T ++ x :: B.drop T) ++ S ∧ SortedB lt (B.take T ++ x :: B.drop T) ∧ StEq lt ([x] ++ B) (B.take T ++ x :: B.drop T) := by
  obtain ⟨-, -, s3, s4⟩ := hs
  have h := ins_front O (x := x) (B1 := B.take T) (B2 := B.drop T) (by rw [List.take_append_drop]; exact hB) s3 s4
  rw [List.take_append_drop] at h
  refine ⟨?_, h.1, h.2⟩
  unfold mvL
  rw [List.take_length, List.drop_length]
  simp
omit [Inhabited α] in
theorem mv_done_back (O : WeakO lt) {P A S : List α} {z : α} {T : Nat} (hA : SortedB lt A) (hs : Srch (fun y => !lt z y) A T T) :
    mvL (P ++ A.take T) z (A.drop T) S 0 = P ++ (A.take T ++ z :: A.drop T) ++ S ∧ SortedB lt (A.take T ++ z :: A.drop T) ∧ StEq lt (A ++ [z]) (A.take T ++ z :: A.drop T) := by
  obtain ⟨-, -, s3, s4⟩ := hs
  have h := ins_done O (z := z) (Y1 := A.take T) (Y2 := A.drop T) (by rw [List.take_append_drop]; exact hA) (fun y hy => by have := s4 y hy; simpa using this) (fun y hy => by have := s3 y hy; simpa using this)
  rw [List.take_append_drop] at h
  refine ⟨?_, h.1, h.2⟩
  unfold mvL
  rw [List.take_zero, List.drop_zero]
  simp

/-! ### Two rising rows, parted -/
omit [Inhabited α] in
theorem spl {l : List α} {k : Nat} (hk : k < l.length) : l = l.take k ++ l[k] :: l.drop (k + 1) := by rw [← List.drop_eq_getElem_cons hk, List.take_append_drop]
theorem at_A {P A B S : List α} {k : Nat} (hk : k < A.length) : (P ++ A ++ B ++ S)[P.length + k]! = A[k]! := by
  have e : P ++ A ++ B ++ S = (P ++ A.take k) ++ A[k] :: (A.drop (k + 1) ++ B ++ S) := by
    conv => lhs; rw [spl (l := A) hk]
    simp only [List.append_assoc, List.cons_append]
  rw [e, (atMid _ _ _ _ (by simp; omega)).2, getElem!_pos A k hk]
theorem at_B {P A B S : List α} {k : Nat} (hk : k < B.length) : (P ++ A ++ B ++ S)[P.length + A.length + k]! = B[k]! := by
  have e : P ++ A ++ B ++ S = (P ++ A ++ B.take k) ++ B[k] :: (B.drop (k + 1) ++ S) := by
    conv => lhs; rw [spl (l := B) hk]
    simp only [List.append_assoc, List.cons_append]
  rw [e, (atMid _ _ _ _ (by simp; omega)).2, getElem!_pos B k hk]
/-- The search's state, in numbers of a row l: s ahead of r, n - s and n - 1 - r on the other side. -/
structure Srch3 (lt : α → α → Bool) (l : List α) (n lo hi s r : Nat) : Prop where
  h1 : lo ≤ s
  h2 : s ≤ r
  h3 : r ≤ hi
  hs : s = lo ∨ lt l[n - s]! l[s - 1]! = false
  hr : r = hi ∨ lt l[n - 1 - r]! l[r]! = true
theorem Srch3.start {l : List α} {n lo hi : Nat} (h : lo ≤ hi) : Srch3 lt l n lo hi lo hi := ⟨Nat.le_refl _, h, Nat.le_refl _, .inl rfl, .inl rfl⟩
theorem Srch3.up {l : List α} {n lo hi s r c : Nat} (h : Srch3 lt l n lo hi s r) (h1 : s ≤ c) (h2 : c < r) (h3 : lt l[n - 1 - c]! l[c]! = false) : Srch3 lt l n lo hi (c + 1) r :=
  ⟨by have := h.h1; omega, by omega, h.h3, .inr (by rw [Nat.add_sub_cancel, show n - (c + 1) = n - 1 - c by omega]; exact h3), h.hr⟩
theorem Srch3.down {l : List α} {n lo hi s r c : Nat} (h : Srch3 lt l n lo hi s r) (h1 : s ≤ c) (h2 : c < r) (h3 : lt l[n - 1 - c]! l[c]! = true) : Srch3 lt l n lo hi s c :=
  ⟨h.h1, h1, by have := h.h3; omega, h.hs, .inr h3⟩
theorem last_take {l : List α} {t : Nat} {x : α} (ht : t ≤ l.length) (h : (l.take t).getLast? = some x) : 0 < t ∧ x = l[t - 1]! := by
  have h0 : l.take t ≠ [] := by intro h1; rw [h1] at h; cases h
  have hp : 0 < t := by
    rcases Nat.eq_zero_or_pos t with h1 | h1
    · subst h1; simp at h0
    · exact h1
  refine ⟨hp, ?_⟩
  rw [List.getLast?_eq_getElem?, List.length_take, Nat.min_eq_left ht, List.getElem?_take, if_pos (by omega), List.getElem?_eq_getElem (by omega)] at h
  injection h with h
  rw [← h, getElem!_pos l (t - 1) (by omega)]
theorem head_drop {l : List α} {t : Nat} {x : α} (h : (l.drop t).head? = some x) : t < l.length ∧ x = l[t]! := by
  rw [List.head?_eq_getElem?, List.getElem?_drop] at h
  obtain ⟨h1, h2⟩ := List.getElem?_eq_some_iff.1 h
  simp only [Nat.add_zero] at h1 h2
  exact ⟨h1, by rw [← h2, getElem!_pos l t h1]⟩
/-- The numbers that a merge begins with. -/
structure Nums3 (a m b n lo hi : Nat) : Prop where
  am : a < m
  mb : m < b
  hn : n = (a + b) / 2 + m
  lh : (a + b) / 2 < m ∧ lo = n - b ∧ hi = (a + b) / 2 ∨ m ≤ (a + b) / 2 ∧ lo = a ∧ hi = m
omit [Inhabited α] in
theorem Nums3.rng {a m b n lo hi : Nat} (h : Nums3 a m b n lo hi) : a ≤ lo ∧ lo ≤ hi ∧ hi ≤ m ∧ ∀ c, lo ≤ c → c < hi → a ≤ c ∧ c < m ∧ m ≤ n - 1 - c ∧ n - 1 - c < b := by
  obtain ⟨h1, h2, h3, h4⟩ := h
  have hd := Nat.div_add_mod (a + b) 2
  have hd2 := Nat.mod_lt (a + b) (show 0 < 2 by omega)
  generalize (a + b) / 2 = mid at *
  refine ⟨by omega, by omega, by omega, fun c hc1 hc2 => by omega⟩
/-- The parts that the search finds may be merged by themselves. -/
theorem parted (O : WeakO lt) {P0 A B S0 : List α} {a m b n lo hi s : Nat} (hA : SortedB lt A) (hB : SortedB lt B) (ha : a = P0.length) (hm : m = a + A.length) (hb : b = m + B.length)
    (hn : Nums3 a m b n lo hi) (h : Srch3 lt (P0 ++ A ++ B ++ S0) n lo hi s s) :
    (∀ x ∈ A.take (s - a), ∀ y ∈ B.drop (n - s - m), lt y x = false) ∧ (∀ x ∈ A.drop (s - a), ∀ y ∈ B.take (n - s - m), lt y x = true) ∧ a ≤ s ∧ s ≤ m ∧ m ≤ n - s ∧ n - s ≤ b := by
  obtain ⟨r1, r2, r3, r4⟩ := hn.rng
  obtain ⟨g1, g2, g3, g4, g5⟩ := h
  obtain ⟨n1, n2, n3, n4⟩ := hn
  have hd := Nat.div_add_mod (a + b) 2
  have hd2 := Nat.mod_lt (a + b) (show 0 < 2 by omega)
  generalize (a + b) / 2 = mid at *
  have b1 : a ≤ s := by omega
  have b2 : s ≤ m := by omega
  have b3 : m ≤ n - s := by omega
  have b4 : n - s ≤ b := by omega
  refine ⟨parts_le O (hA.sublist (List.take_sublist _ _)) (hB.sublist (List.drop_sublist _ _)) fun x y hx hy => ?_,
    parts_lt O (hA.sublist (List.drop_sublist _ _)) (hB.sublist (List.take_sublist _ _)) fun x y hx hy => ?_, b1, b2, b3, b4⟩
  · obtain ⟨p1, p2⟩ := last_take (by omega) hx
    obtain ⟨q1, q2⟩ := head_drop hy
    rcases g4 with g4 | g4
    · exfalso; omega
    · have e1 : (P0 ++ A ++ B ++ S0)[n - s]! = B[n - s - m]! := by
        have := at_B (P := P0) (A := A) (B := B) (S := S0) (k := n - s - m) q1
        rw [show P0.length + A.length + (n - s - m) = n - s by omega] at this
        exact this
      have e2 : (P0 ++ A ++ B ++ S0)[s - 1]! = A[s - a - 1]! := by
        have := at_A (P := P0) (A := A) (B := B) (S := S0) (k := s - a - 1) (by omega)
        rw [show P0.length + (s - a - 1) = s - 1 by omega] at this
        exact this
      rw [e1, e2] at g4
      rw [p2, q2]; exact g4
  · obtain ⟨p1, p2⟩ := last_take (by omega) hx
    obtain ⟨q1, q2⟩ := head_drop hy
    rcases g5 with g5 | g5
    · exfalso; omega
    · have e1 : (P0 ++ A ++ B ++ S0)[n - 1 - s]! = B[n - s - m - 1]! := by
        have := at_B (P := P0) (A := A) (B := B) (S := S0) (k := n - s - m - 1) (by omega)
        rw [show P0.length + A.length + (n - s - m - 1) = n - 1 - s by omega] at this
        exact this
      have e2 : (P0 ++ A ++ B ++ S0)[s]! = A[s - a]! := by
        have := at_A (P := P0) (A := A) (B := B) (S := S0) (k := s - a) q1
        rw [show P0.length + (s - a) = s by omega] at this
        exact this
      rw [e1, e2] at g5
      rw [p2, q2]; exact g5
end
end Go.Proofs.Ytbllpjphlanchaa
namespace Go.Proofs.Ytbllpjphlanchaa

section
variable {α : Type} {lt : α → α → Bool}
/-- Each block of s values is in order. -/
def BlkS (lt : α → α → Bool) (s : Nat) (l : List α) : Prop := ∀ q, SortedB lt ((l.drop (q * s)).take s)
theorem BlkS.nil (s : Nat) : BlkS lt s [] := fun q => by simp [SortedB]
theorem BlkS.first {s : Nat} {l : List α} (h : BlkS lt s l) : SortedB lt (l.take s) := by have := h 0; simpa using this
theorem BlkS.rest {s : Nat} {l : List α} (h : BlkS lt s l) (k : Nat) : BlkS lt s (l.drop (k * s)) := fun q => by
  have := h (k + q)
  rw [List.drop_drop, ← Nat.add_mul]
  exact this
theorem BlkS.snoc {s : Nat} {D Y : List α} (h : BlkS lt s D) {k : Nat} (hk : D.length = k * s) (hY : SortedB lt Y) : BlkS lt s (D ++ Y) := fun q => by
  rcases Nat.lt_or_ge q k with h1 | h1
  · have h2 : (q + 1) * s ≤ k * s := Nat.mul_le_mul_right s h1
    rw [Nat.succ_mul] at h2
    rw [List.drop_append_of_le_length (by omega), List.take_append_of_le_length (by rw [List.length_drop]; omega)]
    exact h q
  · have h2 : k * s ≤ q * s := Nat.mul_le_mul_right s h1
    rw [List.drop_append, List.drop_of_length_le (by omega), List.nil_append]
    exact hY.sublist ((List.take_sublist _ _).trans (List.drop_sublist _ _))
theorem BlkS.all {s : Nat} {l : List α} (h : BlkS lt s l) (hs : l.length ≤ s) : SortedB lt l := by
  have := h.first
  rw [List.take_of_length_le hs] at this
  exact this

/-- Blocks made so far: D has blocks of S values in order, R those of s values (of any, if s is 0); X's values each in their class's order. -/
structure MrgL (lt : α → α → Bool) (S s a : Nat) (X D R : List α) : Prop where
  ha : a = D.length
  mul : ∃ k, a = k * S
  big : BlkS lt S D
  sml : BlkS lt s R
  st : StEq lt X (D ++ R)
  len : D.length + R.length = X.length
theorem MrgL.start {S s : Nat} {X l : List α} (h : BlkS lt s l) (hst : StEq lt X l) (hlen : l.length = X.length) : MrgL lt S s 0 X [] l := ⟨rfl, ⟨0, by simp⟩, BlkS.nil _, h, by simpa using hst, by simpa using hlen⟩
/-- One more block, of k small ones. -/
theorem MrgL.next {S s a : Nat} {X D R Y T U : List α} (h : MrgL lt S s a X D R) (hR : R = T ++ U) (hY : SortedB lt Y) (hst : StEq lt T Y) (hlen : T.length = Y.length) (hS : Y.length = S) (hU : BlkS lt s U) :
    MrgL lt S s (a + S) X (D ++ Y) U := by
  obtain ⟨h1, ⟨k, h2⟩, h3, h4, h5, h6⟩ := h
  subst hR
  refine ⟨by rw [List.length_append]; omega, ⟨k + 1, by rw [h2, Nat.succ_mul]⟩, h3.snoc (by rw [← h1]; exact h2) hY, hU, ?_, by rw [List.length_append] at h6 ⊢; omega⟩
  refine h5.trans ?_
  have := ((StEq.refl (lt := lt) D).append hst).append (StEq.refl (lt := lt) U)
  simpa only [List.append_assoc] using this
/-- The last one. -/
theorem MrgL.last {S s a : Nat} {X D R Y : List α} (h : MrgL lt S s a X D R) (hY : SortedB lt Y) (hst : StEq lt R Y) (hlen : R.length = Y.length) :
    BlkS lt S (D ++ Y) ∧ StEq lt X (D ++ Y) ∧ (D ++ Y).length = X.length := by
  obtain ⟨h1, ⟨k, h2⟩, h3, h4, h5, h6⟩ := h
  exact ⟨h3.snoc (by rw [← h1]; exact h2) hY, h5.trans ((StEq.refl (lt := lt) D).append hst), by rw [List.length_append]; omega⟩
end
end Go.Proofs.Ytbllpjphlanchaa
