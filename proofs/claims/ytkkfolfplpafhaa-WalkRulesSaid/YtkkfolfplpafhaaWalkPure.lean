/-
  Plain Lean: the order of a graph.
-/
import Derived.Test.YtkkfolfplpafhaaHeapPure
namespace Go.Proofs.Ytkkfolfplpafhaa

theorem ite_iff {A B : Prop} [Decidable A] [Decidable B] (h : A ↔ B) : (if A then 1 else 0 : Nat) = if B then 1 else 0 := by
  by_cases hA : A
  · rw [if_pos hA, if_pos (h.1 hA)]
  · rw [if_neg hA, if_neg (fun hb => hA (h.2 hb))]

def hasI (out : List Nat) (p : Int) : Bool := out.any fun o => decide ((o : Int) = p)
theorem hasI_iff (out : List Nat) (p : Int) : hasI out p = true ↔ ∃ o ∈ out, (o : Int) = p := by
  unfold hasI; rw [List.any_eq_true]; simp only [decide_eq_true_eq]
theorem hasI_nat (out : List Nat) (i : Nat) : hasI out (i : Int) = true ↔ i ∈ out := by
  rw [hasI_iff]
  constructor
  · rintro ⟨o, ho, h⟩
    have : o = i := by omega
    rw [← this]; exact ho
  · intro h; exact ⟨i, h, rfl⟩
theorem hasI_app (out : List Nat) (x : Nat) (p : Int) : hasI (out ++ [x]) p = (hasI out p || decide ((x : Int) = p)) := by
  unfold hasI; rw [List.any_append]; simp

/-- May node i be next? -/
def readyB (g : List (List Int)) (out : List Nat) (i : Nat) : Bool := !(hasI out (i : Int)) && (g.getD i []).all (hasI out)
/-- The first of the k nodes from i on that may be next. -/
def leastFrom (g : List (List Int)) (out : List Nat) : Nat → Nat → Option Nat
  | _, 0 => none
  | i, k + 1 => if readyB g out i = true then some i else leastFrom g out (i + 1) k
def orderF (g : List (List Int)) : Nat → List Nat → Option (List Nat)
  | 0, out => if g.length ≤ out.length then some out else none
  | f + 1, out => if g.length ≤ out.length then some out else match leastFrom g out 0 g.length with
    | none => none
    | some i => orderF g f (out ++ [i])
/-- The order of a graph, if it is right. -/
def orderG (g : List (List Int)) : Option (List Nat) := orderF g g.length []

theorem least_some {g : List (List Int)} {out : List Nat} : ∀ (k i x : Nat), leastFrom g out i k = some x ↔ (i ≤ x ∧ x < i + k ∧ readyB g out x = true ∧ ∀ j, i ≤ j → j < x → readyB g out j = false) := by
  intro k
  induction k with
  | zero => intro i x; rw [leastFrom]; constructor
            · intro h; cases h
            · rintro ⟨h1, h2, -⟩; omega
  | succ k ih =>
    intro i x
    rw [leastFrom]
    by_cases hr : readyB g out i = true
    · rw [if_pos hr]
      constructor
      · intro h; injection h with h; subst h; exact ⟨Nat.le_refl _, by omega, hr, fun j h1 h2 => by omega⟩
      · rintro ⟨h1, h2, h3, h4⟩
        by_cases hx : i = x
        · rw [hx]
        · have := h4 i (Nat.le_refl _) (by omega)
          rw [hr] at this; cases this
    · rw [if_neg hr, ih]
      constructor
      · rintro ⟨h1, h2, h3, h4⟩
        refine ⟨by omega, by omega, h3, fun j hj1 hj2 => ?_⟩
        by_cases hij : j = i
        · rw [hij]; simpa using hr
        · exact h4 j (by omega) hj2
      · rintro ⟨h1, h2, h3, h4⟩
        have hix : i ≠ x := fun e => hr (e ▸ h3)
        exact ⟨by omega, by omega, h3, fun j hj1 hj2 => h4 j (by omega) hj2⟩
theorem least_none {g : List (List Int)} {out : List Nat} : ∀ (k i : Nat), leastFrom g out i k = none ↔ ∀ j, i ≤ j → j < i + k → readyB g out j = false := by
  intro k
  induction k with
  | zero => intro i; rw [leastFrom]; exact ⟨fun _ j h1 h2 => by omega, fun _ => rfl⟩
  | succ k ih =>
    intro i
    rw [leastFrom]
    by_cases hr : readyB g out i = true
    · rw [if_pos hr]
      constructor
      · intro h; cases h
      · intro h; have := h i (Nat.le_refl _) (by omega); rw [hr] at this; cases this
    · rw [if_neg hr, ih]
      constructor
      · intro h j hj1 hj2
        by_cases hij : j = i
        · rw [hij]; simpa using hr
        · exact h j (by omega) (by omega)
      · intro h j hj1 hj2; exact h j (by omega) (by omega)

theorem nodup_le : ∀ (a b : List Nat), a.Nodup → (∀ x ∈ a, x ∈ b) → a.length ≤ b.length := by
  intro a
  induction a with
  | nil => intro b _ _; exact Nat.zero_le _
  | cons x t ih =>
    intro b hn hs
    rw [List.nodup_cons] at hn
    have hx := hs x (List.mem_cons_self ..)
    have := ih (b.erase x) hn.2 (fun y hy => by
      rw [List.mem_erase_of_ne (fun e : y = x => hn.1 (e ▸ hy))]
      exact hs y (List.mem_cons_of_mem _ hy))
    rw [List.length_erase_of_mem hx] at this
    have hp := List.length_pos_of_mem hx
    show t.length + 1 ≤ b.length
    omega
theorem out_le {n : Nat} {out : List Nat} (hn : out.Nodup) (hl : ∀ o ∈ out, o < n) : out.length ≤ n := by
  have := nodup_le out (List.range n) hn (fun x hx => List.mem_range.2 (hl x hx))
  rwa [List.length_range] at this
theorem out_miss {n : Nat} {out : List Nat} (h : out.length < n) : ∃ i, i < n ∧ i ∉ out := by
  apply Classical.byContradiction
  intro hno
  have hall : ∀ i ∈ List.range n, i ∈ out := fun i hi => Classical.byContradiction fun h' => hno ⟨i, List.mem_range.1 hi, h'⟩
  have := nodup_le (List.range n) out (List.nodup_range) hall
  rw [List.length_range] at this
  omega

/-- How many of a node's parents aren't out. -/
def leftC (l : List Int) (out : List Nat) : Nat := l.countP fun p => !hasI out p
theorem leftC_nil (l : List Int) : leftC l [] = l.length := by
  unfold leftC
  rw [List.countP_eq_length]
  intro x _; rfl
theorem leftC_zero (l : List Int) (out : List Nat) : leftC l out = 0 ↔ l.all (hasI out) = true := by
  unfold leftC
  rw [List.countP_eq_zero, List.all_eq_true]
  constructor
  · intro h x hx; have := h x hx; simpa using this
  · intro h x hx; have := h x hx; simpa using this
theorem leftC_snoc (out : List Nat) (x : Nat) (hx : x ∉ out) : ∀ l : List Int, leftC l (out ++ [x]) + l.count (x : Int) = leftC l out := by
  intro l
  induction l with
  | nil => rfl
  | cons p t ih =>
    unfold leftC at ih ⊢
    rw [List.countP_cons, List.countP_cons, List.count_cons, hasI_app]
    by_cases hp : (x : Int) = p
    · subst hp
      have h1 : hasI out (x : Int) = false := by
        cases h : hasI out (x : Int) with
        | false => rfl
        | true => exact absurd ((hasI_nat out x).1 h) hx
      rw [h1]
      simp
      omega
    · have h2 : (p == (x : Int)) = false := by rw [beq_eq_false_iff_ne]; exact fun e => hp e.symm
      rw [h2, decide_eq_false hp]
      simp only [Bool.or_false]
      split <;> simp <;> omega
theorem leftC_mono (out : List Nat) (x : Nat) (l : List Int) (h : leftC l out = 0) : leftC l (out ++ [x]) = 0 := by
  rw [leftC_zero, List.all_eq_true] at h ⊢
  intro p hp
  rw [hasI_app, h p hp]; rfl
theorem ready_iff (g : List (List Int)) (out : List Nat) (i : Nat) : readyB g out i = true ↔ i ∉ out ∧ leftC (g.getD i []) out = 0 := by
  unfold readyB
  rw [leftC_zero, Bool.and_eq_true, Bool.not_eq_true']
  constructor
  · rintro ⟨h1, h2⟩; exact ⟨fun h => (by rw [(hasI_nat out i).2 h] at h1; cases h1), h2⟩
  · rintro ⟨h1, h2⟩
    refine ⟨?_, h2⟩
    cases h : hasI out (i : Int) with
    | false => rfl
    | true => exact absurd ((hasI_nat out i).1 h) h1

/-- What is true ahead of each round: out is what came, h the heap, L how many parents are left, K the nodes' kids. -/
structure PInv (g : List (List Int)) (out h L : List Nat) (K : List (List Nat)) : Prop where
  kl : K.length = g.length
  kc : ∀ p, p < g.length → ∀ k, (K.getD p []).count k = (g.getD k []).count (p : Int)
  ll : L.length = g.length
  lc : ∀ k, k < g.length → L.getD k 0 = leftC (g.getD k []) out
  ok : HeapOK h
  hc : ∀ i, h.count i = if i < g.length ∧ readyB g out i = true then 1 else 0
  ol : ∀ o ∈ out, o < g.length
  oz : ∀ o ∈ out, leftC (g.getD o []) out = 0
  nd : out.Nodup

theorem PInv.empty {g : List (List Int)} {out h L : List Nat} {K : List (List Nat)} (v : PInv g out h L K) (h0 : h.length = 0) : leastFrom g out 0 g.length = none := by
  rw [least_none]
  intro j _ hj
  have e : h = [] := List.eq_nil_of_length_eq_zero h0
  have := v.hc j
  rw [e] at this
  by_cases hr : j < g.length ∧ readyB g out j = true
  · rw [if_pos hr] at this; cases this
  · cases h : readyB g out j with
    | false => rfl
    | true => exact absurd ⟨by omega, h⟩ hr
theorem PInv.next {g : List (List Int)} {out h L : List Nat} {K : List (List Nat)} (v : PInv g out h L K) (h0 : 0 < h.length) :
    leastFrom g out 0 g.length = some (h.getD 0 0) ∧ h.getD 0 0 < g.length ∧ readyB g out (h.getD 0 0) = true ∧ out.length < g.length := by
  have hm : h.getD 0 0 ∈ h := by
    rw [List.getD_eq_getElem?_getD, List.getElem?_eq_getElem h0]; exact List.getElem_mem h0
  have hc := List.count_pos_iff.2 hm
  rw [v.hc] at hc
  have hr : h.getD 0 0 < g.length ∧ readyB g out (h.getD 0 0) = true := by
    by_cases hr : h.getD 0 0 < g.length ∧ readyB g out (h.getD 0 0) = true
    · exact hr
    · rw [if_neg hr] at hc; omega
  refine ⟨?_, hr.1, hr.2, ?_⟩
  · rw [least_some]
    refine ⟨Nat.zero_le _, by omega, hr.2, fun j _ hj => ?_⟩
    cases hrj : readyB g out j with
    | false => rfl
    | true =>
      have hcj : h.count j = 1 := by rw [v.hc, if_pos ⟨by omega, hrj⟩]
      have hmj : j ∈ h := List.count_pos_iff.1 (by omega)
      obtain ⟨k, hk, hkj⟩ := List.getElem_of_mem hmj
      have := v.ok.least k hk
      rw [List.getD_eq_getElem?_getD (i := k), List.getElem?_eq_getElem hk] at this
      simp only [Option.getD_some] at this
      omega
  · have h1 : (out ++ [h.getD 0 0]).Nodup := by
      rw [List.nodup_append]
      refine ⟨v.nd, by simp, ?_⟩
      intro a ha b hb e
      rw [List.mem_singleton] at hb
      exact ((ready_iff g out _).1 hr.2).1 (by rw [← hb, ← e]; exact ha)
    have := out_le h1 (fun o ho => by
      rcases List.mem_append.1 ho with h | h
      · exact v.ol o h
      · rw [List.mem_singleton.1 h]; exact hr.1)
    rw [List.length_append, List.length_singleton] at this
    omega

/-- What is true while kids are gone through: t of x's. -/
structure KInv (g : List (List Int)) (out h L kx : List Nat) (x t : Nat) : Prop where
  ll : L.length = g.length
  lc : ∀ k, k < g.length → L.getD k 0 + (kx.take t).count k = leftC (g.getD k []) out
  ok : HeapOK h
  hc : ∀ i, h.count i = if i < g.length ∧ i ∉ out ∧ i ≠ x ∧ L.getD i 0 = 0 then 1 else 0

theorem KInv.start {g : List (List Int)} {out h L h' : List Nat} {K : List (List Nat)} (v : PInv g out h L K) {x : Nat} (_hx : readyB g out x = true) (hxl : x < g.length) (ok : HeapOK h') (hc : ∀ b, h'.count b + (if x = b then 1 else 0) = h.count b) : KInv g out h' L (K.getD x []) x 0 := by
  refine ⟨v.ll, fun k hk => by rw [List.take_zero, List.count_nil, Nat.add_zero]; exact v.lc k hk, ok, fun i => ?_⟩
  have h1 := hc i
  rw [v.hc] at h1
  by_cases hix : x = i
  · subst hix
    rw [if_pos rfl, if_pos ⟨hxl, _hx⟩] at h1
    rw [if_neg (fun h => h.2.2.1 rfl)]
    omega
  · rw [if_neg hix] at h1
    rw [Nat.add_zero] at h1
    rw [h1]
    exact ite_iff ⟨fun h => ⟨h.1, ((ready_iff g out i).1 h.2).1, fun e => hix e.symm, by rw [v.lc i h.1]; exact ((ready_iff g out i).1 h.2).2⟩,
      fun h => ⟨h.1, (ready_iff g out i).2 ⟨h.2.1, by rw [← v.lc i h.1]; exact h.2.2.2⟩⟩⟩
theorem PInv.kid {g : List (List Int)} {out h L : List Nat} {K : List (List Nat)} (v : PInv g out h L K) {x k : Nat} (hxl : x < g.length) (hxo : x ∉ out) (hk : k ∈ K.getD x []) : k < g.length ∧ k ∉ out ∧ (K.getD x []).count k ≤ leftC (g.getD k []) out := by
  have hc := List.count_pos_iff.2 hk
  have e := v.kc x hxl k
  have hs := leftC_snoc out x hxo (g.getD k [])
  have hkl : k < g.length := by
    rcases Nat.lt_or_ge k g.length with h | h
    · exact h
    · have eg : g.getD k [] = [] := by rw [List.getD_eq_getElem?_getD, List.getElem?_eq_none h]; rfl
      rw [eg] at e
      rw [e] at hc
      simp at hc
  refine ⟨hkl, fun ho => ?_, by omega⟩
  have := v.oz k ho
  omega
theorem KInv.pos {g : List (List Int)} {out h L : List Nat} {K : List (List Nat)} {h0 L0 : List Nat} (v : PInv g out h0 L0 K) {x t : Nat} (hxl : x < g.length) (hxr : readyB g out x = true) (u : KInv g out h L (K.getD x []) x t) (ht : t < (K.getD x []).length) :
    1 ≤ L.getD ((K.getD x []).getD t 0) 0 ∧ (K.getD x []).getD t 0 < g.length ∧ L.getD ((K.getD x []).getD t 0) 0 ≤ (g.getD ((K.getD x []).getD t 0) []).length := by
  have hxo := ((ready_iff g out x).1 hxr).1
  obtain ⟨k, hk⟩ : ∃ k, k = (K.getD x []).getD t 0 := ⟨_, rfl⟩
  rw [← hk]
  have hkg : k = (K.getD x [])[t] := by rw [hk, List.getD_eq_getElem?_getD, List.getElem?_eq_getElem ht]; rfl
  have hkm : k ∈ K.getD x [] := by rw [hkg]; exact List.getElem_mem ht
  obtain ⟨hkl, hko, hkc⟩ := v.kid hxl hxo hkm
  have htk : (K.getD x []).take (t + 1) = (K.getD x []).take t ++ [k] := by rw [List.take_succ_eq_append_getElem ht, hkg]
  have hck : ((K.getD x []).take (t + 1)).count k = ((K.getD x []).take t).count k + 1 := by
    rw [htk, List.count_append, List.count_singleton]; simp
  have hle : ((K.getD x []).take (t + 1)).count k ≤ (K.getD x []).count k := by
    have := List.take_append_drop (t + 1) (K.getD x [])
    have h2 : (K.getD x []).count k = ((K.getD x []).take (t + 1)).count k + ((K.getD x []).drop (t + 1)).count k := by rw [← List.count_append, this]
    omega
  have hlk := u.lc k hkl
  have hcl : leftC (g.getD k []) out ≤ (g.getD k []).length := List.countP_le_length
  exact ⟨by omega, hkl, by omega⟩
theorem KInv.step {g : List (List Int)} {out h L h' L' : List Nat} {K : List (List Nat)} {h0 L0 : List Nat} (v : PInv g out h0 L0 K) {x t : Nat} (hxl : x < g.length) (hxr : readyB g out x = true) (u : KInv g out h L (K.getD x []) x t) (ht : t < (K.getD x []).length)
    (hL : L' = L.set ((K.getD x []).getD t 0) (L.getD ((K.getD x []).getD t 0) 0 - 1))
    (hh : if L.getD ((K.getD x []).getD t 0) 0 - 1 = 0 then (HeapOK h' ∧ ∀ b, h'.count b = h.count b + (if (K.getD x []).getD t 0 = b then 1 else 0)) else h' = h) :
    KInv g out h' L' (K.getD x []) x (t + 1) ∧ 1 ≤ L.getD ((K.getD x []).getD t 0) 0 ∧ (K.getD x []).getD t 0 < g.length := by
  have hxo := ((ready_iff g out x).1 hxr).1
  obtain ⟨k, hk⟩ : ∃ k, k = (K.getD x []).getD t 0 := ⟨_, rfl⟩
  rw [← hk] at hL hh ⊢
  have hkg : k = (K.getD x [])[t] := by rw [hk, List.getD_eq_getElem?_getD, List.getElem?_eq_getElem ht]; rfl
  have hkm : k ∈ K.getD x [] := by rw [hkg]; exact List.getElem_mem ht
  obtain ⟨hkl, hko, hkc⟩ := v.kid hxl hxo hkm
  have htk : (K.getD x []).take (t + 1) = (K.getD x []).take t ++ [k] := by rw [List.take_succ_eq_append_getElem ht, hkg]
  have hcount : ∀ b, ((K.getD x []).take (t + 1)).count b = ((K.getD x []).take t).count b + (if k = b then 1 else 0) := fun b => by
    rw [htk, List.count_append, List.count_singleton]; simp only [beq_iff_eq]
  have hle : ((K.getD x []).take (t + 1)).count k ≤ (K.getD x []).count k := by
    have := List.take_append_drop (t + 1) (K.getD x [])
    have h2 : (K.getD x []).count k = ((K.getD x []).take (t + 1)).count k + ((K.getD x []).drop (t + 1)).count k := by rw [← List.count_append, this]
    omega
  have hlk := u.lc k hkl
  have hck := hcount k
  rw [if_pos rfl] at hck
  have h1 : 1 ≤ L.getD k 0 := by omega
  have hkx : k ≠ x := by
    intro e
    have := ((ready_iff g out x).1 hxr).2
    rw [← e] at this
    omega
  have hLk : k < L.length := by rw [u.ll]; exact hkl
  refine ⟨⟨by rw [hL, List.length_set]; exact u.ll, fun j hj => ?_, ?_, fun i => ?_⟩, h1, hkl⟩
  · rw [hL, getD_set hLk, hcount j]
    have := u.lc j hj
    by_cases hjk : j = k
    · subst hjk; rw [if_pos rfl, if_pos rfl]; omega
    · rw [if_neg hjk, if_neg (fun e => hjk e.symm)]; omega
  · by_cases hz : L.getD k 0 - 1 = 0
    · rw [if_pos hz] at hh; exact hh.1
    · rw [if_neg hz] at hh; rw [hh]; exact u.ok
  · rw [hL, getD_set hLk]
    have hci := u.hc i
    by_cases hz : L.getD k 0 - 1 = 0
    · rw [if_pos hz] at hh
      rw [hh.2 i, hci]
      by_cases hik : i = k
      · subst hik
        have n1 : ¬ (i < g.length ∧ i ∉ out ∧ i ≠ x ∧ L.getD i 0 = 0) := fun h => by have := h.2.2.2; omega
        have p1 : i < g.length ∧ i ∉ out ∧ i ≠ x ∧ (if i = i then L.getD i 0 - 1 else L.getD i 0) = 0 := ⟨hkl, hko, hkx, by rw [if_pos rfl]; exact hz⟩
        rw [if_neg n1, if_pos p1, if_pos rfl]
      · rw [if_neg (show ¬ k = i from fun e => hik e.symm), Nat.add_zero]
        exact ite_iff (by rw [if_neg hik])
    · rw [if_neg hz] at hh
      rw [hh, hci]
      by_cases hik : i = k
      · subst hik
        refine ite_iff ⟨fun h => ?_, fun h => ?_⟩
        · have := h.2.2.2; omega
        · have := h.2.2.2; rw [if_pos rfl] at this; exact absurd this hz
      · exact ite_iff (by rw [if_neg hik])
theorem KInv.done {g : List (List Int)} {out h L : List Nat} {K : List (List Nat)} {h0 L0 : List Nat} (v : PInv g out h0 L0 K) {x : Nat} (hxl : x < g.length) (hxr : readyB g out x = true) (u : KInv g out h L (K.getD x []) x (K.getD x []).length) : PInv g (out ++ [x]) h L K := by
  have hxo := ((ready_iff g out x).1 hxr).1
  have hlc : ∀ k, k < g.length → L.getD k 0 = leftC (g.getD k []) (out ++ [x]) := fun k hk => by
    have h1 := u.lc k hk
    rw [List.take_length, v.kc x hxl k] at h1
    have := leftC_snoc out x hxo (g.getD k [])
    omega
  refine ⟨v.kl, v.kc, u.ll, hlc, u.ok, fun i => ?_, fun o ho => ?_, fun o ho => ?_, ?_⟩
  · rw [u.hc i]
    refine ite_iff ⟨fun h => ⟨h.1, (ready_iff g (out ++ [x]) i).2 ⟨fun hm => ?_, by rw [← hlc i h.1]; exact h.2.2.2⟩⟩, fun h => ?_⟩
    · rcases List.mem_append.1 hm with h1 | h1
      · exact h.2.1 h1
      · exact h.2.2.1 (List.mem_singleton.1 h1)
    · have := (ready_iff g (out ++ [x]) i).1 h.2
      exact ⟨h.1, fun h' => this.1 (List.mem_append_left _ h'), fun e => this.1 (by rw [e]; simp), by rw [hlc i h.1]; exact this.2⟩
  · rcases List.mem_append.1 ho with h1 | h1
    · exact v.ol o h1
    · rw [List.mem_singleton.1 h1]; exact hxl
  · rcases List.mem_append.1 ho with h1 | h1
    · exact leftC_mono out x _ (v.oz o h1)
    · rw [List.mem_singleton.1 h1]
      exact leftC_mono out x _ ((ready_iff g out x).1 hxr).2
  · rw [List.nodup_append]
    refine ⟨v.nd, by simp, ?_⟩
    intro a ha b hb e
    rw [List.mem_singleton] at hb
    exact hxo (by rw [← hb, ← e]; exact ha)

/-- A round of the order. -/
theorem order_step {g : List (List Int)} {out h L : List Nat} {K : List (List Nat)} (v : PInv g out h L K) (h0 : 0 < h.length) (f : Nat) : orderF g (f + 1) out = orderF g f (out ++ [h.getD 0 0]) := by
  obtain ⟨h1, -, -, h4⟩ := v.next h0
  rw [orderF, if_neg (by omega), h1]
theorem order_end {g : List (List Int)} {out h L : List Nat} {K : List (List Nat)} (v : PInv g out h L K) (h0 : h.length = 0) (f : Nat) : orderF g f out = if g.length ≤ out.length then some out else none := by
  cases f with
  | zero => rfl
  | succ f => rw [orderF, v.empty h0]

end Go.Proofs.Ytkkfolfplpafhaa
