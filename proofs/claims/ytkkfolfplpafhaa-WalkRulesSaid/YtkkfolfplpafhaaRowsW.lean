/-
  Many rows of numbers side by side.
-/
import Derived.Test.YtkkfolfplpafhaaHeap
import Derived.Test.YtkkfolfplpafhaaWalkPure
namespace Go.Proofs.Ytkkfolfplpafhaa
open Go.RowKit Go.Mix

/-- Rows of numbers that the call owns, each in a block of its own. -/
structure Rows (S : Nat → Prop) (w0 w : World) (rs : List (Value × List Nat)) : Prop where
  frame : FrameS S w0 w
  row : ∀ r ∈ rs, Row S 3 w0 w r.1 (icells r.2)
  apart : ∀ i j, i < rs.length → j < rs.length → i ≠ j → ∀ b, (rs.getD i (undef, [])).1.ownBlock = some b → (rs.getD j (undef, [])).1.ownBlock ≠ some b

section
variable {S : Nat → Prop} {w0 w w' : World} {rs : List (Value × List Nat)}

theorem getD_mem {α : Type} (l : List α) (d : α) (i : Nat) (h : i < l.length) : l.getD i d ∈ l := by
  rw [List.getD_eq_getElem?_getD, List.getElem?_eq_getElem h]; exact List.getElem_mem h
theorem getD_setP {α : Type} {l : List α} {i : Nat} {v d : α} {k : Nat} (hi : i < l.length) : (l.set i v).getD k d = if k = i then v else l.getD k d := by
  rw [List.getD_eq_getElem?_getD, List.getD_eq_getElem?_getD, List.getElem?_set]
  by_cases hk : k = i
  · subst hk; rw [if_pos rfl, if_pos rfl, if_pos hi]; rfl
  · rw [if_neg (fun e => hk e.symm), if_neg hk]
theorem Rows.at (h : Rows S w0 w rs) (i : Nat) (hi : i < rs.length) : Row S 3 w0 w (rs.getD i (undef, [])).1 (icells (rs.getD i (undef, [])).2) := h.row _ (getD_mem rs _ i hi)
theorem Rows.later (h : Rows S w0 w rs) (g : Below w.heap.size w w') : Rows S w0 w' rs := ⟨h.frame.below g, fun r hr => (h.row r hr).later g, h.apart⟩

/-- Row i has become another one; T holds all the others and what S names. -/
theorem Rows.upd (h : Rows S w0 w rs) {T : Nat → Prop} (i : Nat) (hi : i < rs.length) (hT : ∀ j, j < rs.length → j ≠ i → ∀ b, (rs.getD j (undef, [])).1.ownBlock = some b → T b) (hS : ∀ k, S k → T k) {v' : Value} {l' : List Nat}
    (h' : Row T 3 w w' v' (icells l')) : Rows S w0 w' (rs.set i (v', l')) := by
  have hF := h'.frame
  have hF0 := h.frame.trans (hF.sub hS)
  refine ⟨hF0, fun r hr => ?_, fun a b ha hb hab c hc => ?_⟩
  · obtain ⟨j, hj, hrj⟩ := List.getElem_of_mem hr
    rw [List.length_set] at hj
    have hg : (rs.set i (v', l')).getD j (undef, []) = r := by
      rw [List.getD_eq_getElem?_getD, List.getElem?_eq_getElem (by rw [List.length_set]; exact hj), hrj]; rfl
    rw [getD_setP hi] at hg
    by_cases hji : j = i
    · rw [if_pos hji] at hg
      rw [← hg]
      exact h'.rebase hF0 (fun g hg hk => h'.off g hg (hS g hk))
    · rw [if_neg hji] at hg
      rw [← hg]
      exact (h.at j hj).moved hF (hT j hj hji) hS
  · rw [List.length_set] at ha hb
    rw [getD_setP hi] at hc ⊢
    by_cases hai : a = i
    · rw [if_pos hai] at hc
      rw [if_neg (fun e => hab (hai.trans e.symm))]
      intro e
      exact h'.off c hc (hT b hb (fun e => hab (hai.trans e.symm)) c e)
    · rw [if_neg hai] at hc
      by_cases hbi : b = i
      · rw [if_pos hbi]
        intro e
        exact h'.off c e (hT a ha hai c hc)
      · rw [if_neg hbi]
        exact h.apart a b ha hb hab c hc

/-- All blocks but row i's, and but one more. -/
def but (w : World) (v : Value) (P k : Nat) : Prop := k < w.heap.size ∧ v.ownBlock ≠ some k ∧ k ≠ P
theorem Rows.butT (h : Rows S w0 w rs) (i : Nat) (hi : i < rs.length) {P : Nat} (hP : ∀ j, j < rs.length → (rs.getD j (undef, [])).1.ownBlock ≠ some P) :
    ∀ j, j < rs.length → j ≠ i → ∀ b, (rs.getD j (undef, [])).1.ownBlock = some b → but w (rs.getD i (undef, [])).1 P b := fun j hj hji b hb =>
  ⟨(h.at j hj).lt b hb, h.apart j i hj hi hji b hb, fun e => hP j hj (e ▸ hb)⟩
theorem Rows.butS (h : Rows S w0 w rs) (i : Nat) (hi : i < rs.length) {P : Nat} (hP : ¬ S P) : ∀ k, S k → but w (rs.getD i (undef, [])).1 P k := fun k hk =>
  ⟨h.frame.lt hk, fun e => (h.at i hi).off k e hk, fun e => hP (e ▸ hk)⟩
/-- Row i by itself: all else is kept. -/
theorem Rows.alone (h : Rows S w0 w rs) (i : Nat) (hi : i < rs.length) (P : Nat) : Row (but w (rs.getD i (undef, [])).1 P) 3 w w (rs.getD i (undef, [])).1 (icells (rs.getD i (undef, [])).2) :=
  (h.at i hi).rebase (FrameS.refl fun _ hk => hk.1) (fun _ hg hk => hk.2.1 hg)
theorem Rows.other (h : Rows S w0 w rs) {P : Nat} {C : Array Value} {t : TypeId} {fr : Nat × Nat} (hP : w.heap[P]? = some (.cells C t fr)) (ht : t ≠ 3) : ∀ j, j < rs.length → (rs.getD j (undef, [])).1.ownBlock ≠ some P := fun j hj => (h.at j hj).other hP ht
/-- A row more. -/
theorem Rows.push (h : Rows S w0 w rs) {v : Value} {l : List Nat} (hr : Row S 3 w0 w v (icells l)) (hn : ∀ j, j < rs.length → ∀ b, (rs.getD j (undef, [])).1.ownBlock = some b → v.ownBlock ≠ some b) : Rows S w0 w (rs ++ [(v, l)]) := by
  have ga : ∀ k, k < rs.length → (rs ++ [(v, l)]).getD k (undef, []) = rs.getD k (undef, []) := fun k hk => by
    rw [List.getD_eq_getElem?_getD, List.getD_eq_getElem?_getD, List.getElem?_append_left hk]
  have gb : (rs ++ [(v, l)]).getD rs.length (undef, []) = (v, l) := by
    rw [List.getD_eq_getElem?_getD, List.getElem?_append_right (Nat.le_refl _), Nat.sub_self]; rfl
  refine ⟨h.frame, fun r hr' => ?_, fun a b ha hb hab c hc => ?_⟩
  · rcases List.mem_append.1 hr' with h1 | h1
    · exact h.row r h1
    · rw [List.mem_singleton.1 h1]; exact hr
  · rw [List.length_append, List.length_singleton] at ha hb
    by_cases hal : a < rs.length
    · rw [ga a hal] at hc
      by_cases hbl : b < rs.length
      · rw [ga b hbl]; exact h.apart a b hal hbl hab c hc
      · have : b = rs.length := by omega
        subst this
        rw [gb]; exact hn a hal c hc
    · have : a = rs.length := by omega
      subst this
      rw [gb] at hc
      have hbl : b < rs.length := by omega
      rw [ga b hbl]
      exact fun e => hn b hbl c e hc
end
end Go.Proofs.Ytkkfolfplpafhaa
