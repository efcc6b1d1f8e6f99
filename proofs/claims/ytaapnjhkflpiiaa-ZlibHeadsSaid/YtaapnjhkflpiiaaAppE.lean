/-
  'append([]byte{}, l...)': only new memory is made.
-/
import Derived.Test.YtaapnjhkflpiiaaOwn
import Derived.Laws.CopyRow
import Derived.WalkSmall
namespace Go.Proofs.Ytaapnjhkflpiiaa
open Go.RowKit Go.Mix

theorem cells_some {w : World} {a : Option Addr} {vs : List Value} (h : Cells w a vs) {x : Addr} (hx : a = some x) : ∀ j u, vs[j]? = some u → w.cell? (x.add j) = some u := by
  intro j u hj
  have hjl : j < vs.length := by
    rcases Nat.lt_or_ge j vs.length with h' | h'
    · exact h'
    · rw [List.getElem?_eq_none h'] at hj; cases hj
  have h2 := h.2 j hjl
  rw [List.getElem?_eq_getElem hjl] at hj
  subst hx
  rw [← hj]; exact h2

theorem wpList_append_empty {w : World} {ops : Array Oper} {rest : List Oper} {o : Oper} {a : Act} {Q : Exit → Act → World → Prop} (s x : Operand)
    (ho : o.op = .call { callee := .builtin .append, args := #[s, x], argTypes := #[22, 22] }) (hwant : Region.wanted o (yielded ops a.tmps) = true)
    (g : Nat) (hs : a.eval s = .slice (some ⟨g, 0, none⟩) 0 0) (hg : w.heap[g]? = some (.cells #[] 5 (0, 0))) (ad : Option Addr) (c : Nat) (l : List UInt8) (hx : a.eval x = .slice ad l.length c) (hl : Sl w ad c l)
    (hlen : l.length ≤ 140737488355328)
    (h : ∀ ad' c' w', Sl w' ad' c' l → Below w.heap.size w w' → wpList Try.prog ops Q rest (a.put o.dst (.slice ad' l.length c')) w') : wpList Try.prog ops Q (o :: rest) a w := by
  have key : ∃ ad' c' w', (Builtin.append_ #[22, 22] o.type #[.slice (some ⟨g, 0, none⟩) 0 0, .slice ad l.length c]).run Try.prog w = .ok (.slice ad' l.length c') w' ∧ Sl w' ad' c' l ∧ Below w.heap.size w w' := by
    obtain ⟨i, hi, hz0, hz1, hz2⟩ := info_parts elemByte.hi
    cases ad with
    | none =>
      have e : l = [] := by rcases hl.bs with h | ⟨b, off, h, _⟩; exact h; simp at h
      subst e
      have hc0 := hl.non rfl
      subst hc0
      have hrun := run_append_owned_none (P := Try.prog) (w := w) 0 22 o.type 5 i 1 Try.underlying22 (by rw [hi]) (.slice (some ⟨g, 0, none⟩) 0 0) 0 [] ⟨rfl, .inr ⟨g, 0, #[], rfl, Nat.zero_le _, hg, Nat.le_refl _, by decide, rfl, rfl⟩⟩
      exact ⟨_, _, w, hrun, ⟨.inl rfl, Nat.le_refl _, by decide, fun e => by simp at e⟩, Below.refl _ _⟩
    | some ad =>
      have hcells := cells_some hl.bs.cells rfl
      cases l with
      | nil =>
        have hrun := run_append_room (P := Try.prog) w 22 o.type 5 i Try.underlying22 hi g 0 0 #[] hg ad 0 c [] (by simp) (by simp) (by simp) (by simp) (by simp)
        simp only [List.take_nil, List.drop_nil, List.append_nil] at hrun
        rw [setRow_self w g #[] _ _ hg] at hrun
        exact ⟨_, _, w, hrun, ⟨.inl rfl, Nat.le_refl _, by decide, fun e => by simp at e⟩, Below.refl _ _⟩
      | cons y ys =>
        have hrun := run_append_grow (P := Try.prog) w 22 o.type 5 i (.int .u8 0) Try.underlying22 hi hz0 ⟨g, 0, none⟩ 0 0 [] (by simp) (by simp) ad (y :: ys).length c (bcells (y :: ys)) (by rw [bcells_length, hz1, Nat.mul_one]) hcells (by simp) (by simp at hlen ⊢; omega)
          (by rw [Nat.zero_add, nextslicecap_zero (by simp), hz2]; simp at hlen ⊢; omega)
        simp only [Nat.zero_add] at hrun
        refine ⟨_, _, _, hrun, ⟨.block (heap_alloc_last _ _ _ rfl) ?_, ?_, ?_, by simp⟩, ((Below.refl _ _).drew).alloc (by simp) _⟩
        · have e1 : ((#[] : Array Value) ++ (bcells (y :: ys)).toArray ++ Builtin.zeroCells (Value.cells (.int .u8 0)) (grownCap w (y :: ys).length 0 5 - (y :: ys).length)).toList.take (y :: ys).length = bcells (y :: ys) := by
            simp only [Array.toList_append, List.append_assoc]
            simp [bcells]
          exact e1
        · exact grownCap_ge w _ 0 _
        · have h1 := grownCap_le_maxLen w (y :: ys).length 0 5 (by unfold maxLen; omega)
          unfold maxLen at h1
          omega
  obtain ⟨ad', c', w', hrun, h1, h2⟩ := key
  unfold wpList
  rw [if_pos hwant]
  refine .inl ?_
  unfold Oper.wp execOp
  simp only [ho, resolve, invoke, builtin, Sem.run_bind, Sem.run_pure, Result.andThen_ok, List.map_toArray, List.map_cons, List.map_nil, hs, hx, hrun]
  exact h ad' c' w' h1 h2

end Go.Proofs.Ytaapnjhkflpiiaa
