/-
  Loads and stores of whole values, by themselves; look-ups in a region; boxes.
-/
import Derived.Test.YtnlkanhakmkejaaDoorRecs
import Derived.Test.YtnlkanhakmkejaaDoorMixG
import Derived.Laws.CopyRow
namespace Go.Proofs.YtnlkanhakmkejaaDoor
open Go.RowKit Go.Mix Go.WideMaps

theorem wpList_load_at {P : Program} {ops : Array Oper} {rest : List Oper} {o : Oper} {a : Act} {w : World} {Q : Exit → Act → World → Prop} (hgd : o.guard = none)
    (ty : TypeId) (x : Operand) (hop : o.op = .load ty x) (V v : Value) (hx : a.eval x = V) (hl : (Instr.loadAt ty V).run P w = .ok v w)
    (h : wpList P ops Q rest (a.put o.dst v) w) : wpList P ops Q (o :: rest) a w :=
  wpList_plain hgd fun _ hK => by
    unfold Oper.wp execOp
    simp only [hop, hx, Sem.run_bind, Sem.run_pure, Result.andThen_ok, hl]
    exact hK _ _ h
theorem wpList_load_g {P : Program} {ops : Array Oper} {rest : List Oper} {o : Oper} {a : Act} {w : World} {Q : Exit → Act → World → Prop} (hw : Region.wanted o (yielded ops a.tmps) = true)
    (ty : TypeId) (x : Operand) (hop : o.op = .load ty x) (V v : Value) (hx : a.eval x = V) (hl : (Instr.loadAt ty V).run P w = .ok v w)
    (h : wpList P ops Q rest (a.put o.dst v) w) : wpList P ops Q (o :: rest) a w := by
  unfold wpList
  rw [if_pos hw]
  refine .inl ?_
  unfold Oper.wp execOp
  simp only [hop, hx, Sem.run_bind, Sem.run_pure, Result.andThen_ok, hl]
  exact h
theorem below_setRow {B : Nat} {a w : World} (h : Below B a w) {g : Nat} (hg : B ≤ g) (cs : Array Value) : Below B a (w.setRow g cs) :=
  ⟨h.os, h.tape, h.output, by rw [setRow_size]; exact h.size, fun k hk => by rw [setRow_other w g k cs (by omega)]; exact h.block k hk⟩
theorem mg_look {P : Program} {ops : Array Oper} {Q : Act → World → Prop} {i : Nat} {r : List (Nat × Nat)} {o : Oper} {a : Act} {w : World} (ho : ops[i]? = some o) (hw : Region.wanted o (yielded ops a.tmps) = true)
    (ty : TypeId) (x k : Operand) (hop : o.op = .lookup ty x k false) (V K v : Value) (hx : a.eval x = V) (hk : a.eval k = K) (hl : ∀ y : Later w, (Instr.lookup ty V K false).run P y.1 = .ok v y.1)
    (h : MG P ops Q r (a.put o.dst v) w) : MG P ops Q ((i, 0) :: r) a w := mg_calm ho fun K' hK => by
  unfold calmStep
  rw [if_pos hw]
  refine ⟨v, fun y => ?_, hK _ h⟩
  unfold calmAt execOp
  simp only [hop, hx, hk, Sem.run_bind, Sem.run_pure, Result.andThen_ok, hl y]
  exact ⟨rfl, rfl⟩
/-- A value in a box. -/
theorem recBox {α : Type} {enc : α → List Value} {W : World} {B : Nat} {p : α} {t : TypeId} {fr : Nat × Nat} (h : W.heap[B]? = some (.cells (recA enc p) t fr)) : W.rangeAt B 0 (enc p) := fun j v hj => by
  rw [cell_of_row _ _ _ _ _ _ h, Nat.zero_add]
  simpa [recA] using hj
/-- A load of one cell, in whatever world that is grown. -/
theorem load_later {w : World} {b o : Nat} {v : Value} (h : w.cell? ⟨b, o, none⟩ = some v) (y : Later w) : y.1.cell? ⟨b, o, none⟩ = some v := (y.2.cell (p := ⟨b, o, none⟩) (lt_of_cell h)).trans h
/-- A store of one cell into a box. -/
theorem wpList_store_cell {P : Program} {ops : Array Oper} {rest : List Oper} {o : Oper} {a : Act} {w : World} {Q : Exit → Act → World → Prop} (hgd : o.guard = none) (ty : TypeId) (x y : Operand) (ho : o.op = .store ty x y)
    (hd : o.dst = none) (g k : Nat) (v : Value) (hx : a.eval x = .pointer (some ⟨g, k, none⟩)) (hy : a.eval y = v) (h1 : v.oneCell' = true)
    (t : TypeId) (old : List Value) (hg : w.heap[g]? = some (.cells old.toArray t (0, 0))) (hk : k < old.length) (hi : (P.info? ty).map (·.size) = some 1)
    (h : wpList P ops Q rest a (w.setRow g (old.take k ++ [v] ++ old.drop (k + 1)).toArray)) : wpList P ops Q (o :: rest) a w :=
  wpList_plain hgd fun _ hK => by
    have hc : v.cells = #[v] := by cases v <;> first | rfl | cases h1
    have hs := run_storeCells_at P g k t [v] 0 old.toArray w hg (by simp; omega) (fun x hx => by simp at hx; subst hx; exact h1)
    have hr : (storeVar ty ⟨g, k, none⟩ v).run P w = .ok () (w.setRow g (old.take k ++ [v] ++ old.drop (k + 1)).toArray) := by
      cases hq : P.info? ty with
      | none => simp [hq] at hi
      | some i =>
        have hsz : i.size = 1 := by simpa [hq] using hi
        have : (sizeOf ty).run P w = .ok 1 w := by simp [sizeOf, typeInfo, hq, hsz]
        simp at hs
        simp [storeVar, this, hc, hs]
    unfold Oper.wp execOp
    simp only [ho, hx, hy, Instr.storeAt, Instr.sureAddr, Sem.run_bind, Sem.run_pure, Result.andThen_ok, hr]
    refine hK _ _ ?_
    rw [hd]
    exact h
end Go.Proofs.YtnlkanhakmkejaaDoor
