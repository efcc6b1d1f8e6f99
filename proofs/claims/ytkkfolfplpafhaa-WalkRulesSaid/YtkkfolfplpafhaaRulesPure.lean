/-
  Plain Lean: the rules of orders.
-/
import Derived.Test.YtkkfolfplpafhaaReachPure
namespace Go.Proofs.Ytkkfolfplpafhaa

def AheadL (g : List (List Int)) (out : List Nat) : Prop := ∀ i, i < out.length → ∀ z ∈ g.getD (out.getD i 0) [], ∃ j, j < i ∧ ((out.getD j 0 : Nat) : Int) = z
theorem getD_app_ln {l m : List Nat} {k : Nat} (h : k < l.length) : (l ++ m).getD k 0 = l.getD k 0 := by
  rw [List.getD_eq_getElem?_getD, List.getD_eq_getElem?_getD, List.getElem?_append_left h]
theorem getD_app_en {l : List Nat} {x : Nat} : (l ++ [x]).getD l.length 0 = x := by
  rw [List.getD_eq_getElem?_getD, List.getElem?_append_right (Nat.le_refl _), Nat.sub_self]; rfl
theorem getD_takeN {l : List Nat} {k i : Nat} (hi : i < k) : (l.take k).getD i 0 = l.getD i 0 := by
  rw [List.getD_eq_getElem?_getD, List.getD_eq_getElem?_getD, List.getElem?_take, if_pos hi]
theorem mem_getDN {l : List Nat} {x : Nat} (h : x ∈ l) : ∃ i, i < l.length ∧ l.getD i 0 = x := by
  obtain ⟨i, hi, hx⟩ := List.getElem_of_mem h
  exact ⟨i, hi, by rw [List.getD_eq_getElem?_getD, List.getElem?_eq_getElem hi, Option.getD_some, hx]⟩
theorem getD_memN {l : List Nat} {i : Nat} (hi : i < l.length) : l.getD i 0 ∈ l := by
  rw [List.getD_eq_getElem?_getD, List.getElem?_eq_getElem hi]; exact List.getElem_mem hi
theorem order_ahead {g : List (List Int)} {l : List Nat} (h : orderG g = some l) : AheadL g l := by
  have hF : ∀ (f : Nat) (out : List Nat), AheadL g out → orderF g f out = some l → AheadL g l := by
    intro f
    induction f with
    | zero =>
      intro out ha hf
      rw [orderF] at hf
      split at hf
      · injection hf with hf
        subst hf
        exact ha
      · cases hf
    | succ f ih =>
      intro out ha hf
      rw [orderF] at hf
      split at hf
      · injection hf with hf
        subst hf
        exact ha
      · cases hx : leastFrom g out 0 g.length with
        | none => rw [hx] at hf; cases hf
        | some x =>
          rw [hx] at hf
          obtain ⟨h1, h2, h3, -⟩ := (least_some g.length 0 x).1 hx
          have hr := (leftC_zero _ _).1 ((ready_iff g out x).1 h3).2
          rw [List.all_eq_true] at hr
          refine ih (out ++ [x]) (fun i hi z hz => ?_) hf
          rw [List.length_append, List.length_singleton] at hi
          by_cases hio : i < out.length
          · rw [getD_app_ln hio] at hz
            obtain ⟨j, hj, hjz⟩ := ha i hio z hz
            exact ⟨j, hj, by rw [getD_app_ln (by omega)]; exact hjz⟩
          · have : i = out.length := by omega
            subst this
            rw [getD_app_en] at hz
            obtain ⟨o, ho, hoz⟩ := (hasI_iff out z).1 (hr z hz)
            obtain ⟨j, hj, hjo⟩ := mem_getDN ho
            exact ⟨j, hj, by rw [getD_app_ln hj, hjo]; exact hoz⟩
  exact hF g.length [] (fun i hi => by simp at hi) h

theorem nodup_inj {l : List Nat} (h : l.Nodup) {i j : Nat} (hi : i < l.length) (hj : j < l.length) (e : l.getD i 0 = l.getD j 0) : i = j := by
  rw [List.getD_eq_getElem?_getD, List.getElem?_eq_getElem hi, List.getD_eq_getElem?_getD, List.getElem?_eq_getElem hj] at e
  have e2 : l[i] = l[j] := by simpa using e
  have hp := List.pairwise_iff_getElem.1 h
  rcases Nat.lt_trichotomy i j with h1 | h1 | h1
  · exact absurd e2 (hp i j hi hj h1)
  · exact h1
  · exact absurd e2.symm (hp j i hj hi h1)

/-- Where each node stands. -/
def AtOK (l A : List Nat) (n i : Nat) : Prop := A.length = n ∧ ∀ j, j < i → A.getD (l.getD j 0) 0 = j
theorem AtOK.step {l A : List Nat} {n i : Nat} (h : AtOK l A n i) (hn : l.Nodup) (hi : i < l.length) (hx : l.getD i 0 < n) : AtOK l (A.set (l.getD i 0) i) n (i + 1) := by
  refine ⟨by rw [List.length_set]; exact h.1, fun j hj => ?_⟩
  have hl := h.1
  by_cases hji : j = i
  · subst hji
    rw [List.getD_eq_getElem?_getD, List.getElem?_set_self (by omega)]; rfl
  · have hne : l.getD i 0 ≠ l.getD j 0 := fun e => hji (nodup_inj hn (by omega) hi e.symm)
    rw [List.getD_eq_getElem?_getD, List.getElem?_set_ne hne, ← List.getD_eq_getElem?_getD]
    exact h.2 j (by omega)
/-- Each node stands behind its parents. -/
theorem AtOK.behind {g : List (List Int)} {l A : List Nat} (ho : orderG g = some l) (h : AtOK l A g.length l.length) {i : Nat} (hi : i < g.length) {z : Int} (hz : z ∈ g.getD i []) : ∃ p : Nat, z = (p : Int) ∧ p < g.length ∧ A.getD p 0 < A.getD i 0 := by
  obtain ⟨h1, h2, h3⟩ := order_props ho
  obtain ⟨q, hq, hqi⟩ := mem_getDN (full_mem h2 h3 (by omega) hi)
  obtain ⟨j, hj, hjz⟩ := order_ahead ho q hq z (by rw [hqi]; exact hz)
  refine ⟨l.getD j 0, hjz.symm, h3 _ (getD_memN (by omega)), ?_⟩
  rw [h.2 j (by omega), ← hqi, h.2 q hq]
  exact hj

/-- What the heads come to is all. -/
theorem heads_all {g : List (List Int)} (hg : RightG g) : reachL g ((headsL g).map fun (x : Nat) => (x : Int)) = List.range g.length := by
  unfold reachL
  rw [List.filter_eq_self]
  intro i hi
  rw [reachB_iff]
  have key : ∀ d i, i < g.length → g.length ≤ d + i → Reach g ((headsL g).map fun (x : Nat) => (x : Int)) (i : Int) := by
    intro d
    induction d with
    | zero => intro i hi hd; omega
    | succ d ih =>
      intro i hi hd
      cases hu : usedB g g.length i with
      | false =>
        refine .base (List.mem_map.2 ⟨i, ?_, rfl⟩)
        unfold headsL
        rw [List.mem_filter, List.mem_range]
        exact ⟨hi, by rw [hu]; rfl⟩
      | true =>
        obtain ⟨k, hk, hik⟩ := (usedB_iff g g.length i).1 hu
        have := hg k hk _ hik
        exact .step (x := (k : Int)) (ih k hk (by omega)) hik
  exact key g.length i (List.mem_range.1 hi) (by omega)
theorem heads_in (g : List (List Int)) : ∀ z ∈ (headsL g).map fun (x : Nat) => (x : Int), 0 ≤ z ∧ z < (g.length : Int) := by
  intro z hz
  obtain ⟨i, hi, rfl⟩ := List.mem_map.1 hz
  unfold headsL at hi
  have := List.mem_range.1 (List.mem_filter.1 hi).1
  omega

/-- A node more, whose parents are all. -/
theorem order_more {g : List (List Int)} (hg : RightG g) {l : List Nat} (h : orderG g = some l) : orderG (g ++ [l.map fun (x : Nat) => (x : Int)]) = some (l ++ [g.length]) := by
  obtain ⟨h1, h2, h3⟩ := order_props h
  have hml : (g ++ [l.map fun (x : Nat) => (x : Int)]).length = g.length + 1 := by simp
  have gl : ∀ i, i < g.length → (g ++ [l.map fun (x : Nat) => (x : Int)]).getD i [] = g.getD i [] := fun i hi => by
    rw [List.getD_eq_getElem?_getD, List.getD_eq_getElem?_getD, List.getElem?_append_left hi]
  have ge : (g ++ [l.map fun (x : Nat) => (x : Int)]).getD g.length [] = l.map fun (x : Nat) => (x : Int) := by
    rw [List.getD_eq_getElem?_getD, List.getElem?_append_right (Nat.le_refl _), Nat.sub_self]; rfl
  have hr : RightG (g ++ [l.map fun (x : Nat) => (x : Int)]) := by
    intro i hi z hz
    rw [hml] at hi
    by_cases hig : i < g.length
    · rw [gl i hig] at hz; exact hg i hig z hz
    · have : i = g.length := by omega
      subst this
      rw [ge] at hz
      obtain ⟨x, hx, rfl⟩ := List.mem_map.1 hz
      have := h3 x hx
      omega
  obtain ⟨y, hy, hyl, hyn, hyb⟩ := order_right hr
  have hs := order_some hr (k := g.length) (by omega) hy
  rw [List.take_left, h] at hs
  injection hs with hs
  rw [hml] at hyl
  obtain ⟨i, hi, hin⟩ := mem_getDN (full_mem hyn hyb (by omega) (show g.length < (g ++ [l.map fun (x : Nat) => (x : Int)]).length by omega))
  have hah := order_ahead hy i hi
  rw [hin, ge] at hah
  have hig : g.length ≤ i := by
    have hsub : ∀ x ∈ l, x ∈ y.take i := fun x hx => by
      obtain ⟨j, hj, hjx⟩ := hah (x : Int) (List.mem_map.2 ⟨x, hx, rfl⟩)
      have e : x = (y.take i).getD j 0 := by rw [getD_takeN hj]; omega
      rw [e]
      exact getD_memN (by rw [List.length_take]; omega)
    have := nodup_le l (y.take i) h2 hsub
    rw [List.length_take] at this
    omega
  have hi2 : i = g.length := by omega
  have hsp : y = y.take g.length ++ [g.length] := by
    have := List.take_succ_eq_append_getElem (l := y) (i := g.length) (by omega)
    rw [List.take_of_length_le (by omega)] at this
    have e : y[g.length]'(by omega) = g.length := by
      rw [hi2] at hin
      rw [List.getD_eq_getElem?_getD, List.getElem?_eq_getElem (by omega), Option.getD_some] at hin
      exact hin
    rw [e] at this
    exact this
  have hft : (y.take g.length).filter (fun x => decide (x < g.length)) = y.take g.length := by
    rw [List.filter_eq_self]
    intro x hx
    have hxy := hyb x (List.mem_of_mem_take hx)
    rw [decide_eq_true_eq]
    have hne : x ≠ g.length := fun e => by
      rw [hsp, List.nodup_append] at hyn
      exact hyn.2.2 x hx g.length (by simp) e
    omega
  have hfl : y.filter (fun x => decide (x < g.length)) = y.take g.length := by
    have e := congrArg (List.filter fun x => decide (x < g.length)) hsp
    rw [List.filter_append, hft] at e
    rw [e]
    simp
  rw [hy, hs, hfl]
  congr 1
end Go.Proofs.Ytkkfolfplpafhaa
