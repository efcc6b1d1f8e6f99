/-
  A region's walk in an order of our choice, its goal behind a structure: nothing unfolds it unasked.
-/
import Derived.Test.YtnlkanhakmkejaaDoorMix
namespace Go.Mix
open Go.RowKit

section
variable {P : Program} {ops : Array Oper} {Q : Act → World → Prop}

structure MG (P : Program) (ops : Array Oper) (Q : Act → World → Prop) (r : List (Nat × Nat)) (a : Act) (w : World) : Prop where
  out : wpMix P ops Q r a w

theorem wp_region_mg {id : Nat} {Q' : Exit → Act → World → Prop} {a : Act} {w : World} {l : List Oper} (order : List (Nat × Nat)) (hm : P.follows .mixedOrders = true)
    (hB : (Region.noSelect l.toArray && decide (mixLen order = l.length) && mixB .any l.toArray order (Array.replicate l.length false)) = true)
    (h : MG P l.toArray (fun a' w' => Q' .normal a' w') order a w) : (Code.region id l.toArray true).wp P Q' a w := wp_region_mix order hm hB h.out
theorem mg_nil {a : Act} {w : World} (h : ∀ w', Grow w w' → Q a w') : MG P ops Q [] a w := ⟨h⟩
theorem mg_calm {i : Nat} {r : List (Nat × Nat)} {o : Oper} {a : Act} {w : World} (ho : ops[i]? = some o)
    (h : ∀ K : Act → Prop, (∀ a, MG P ops Q r a w → K a) → calmStep P ops o K a w) : MG P ops Q ((i, 0) :: r) a w :=
  ⟨mix_calm ho fun K hK => h K fun a h => hK a h.out⟩
theorem mg_skip {i : Nat} {r : List (Nat × Nat)} {o : Oper} {a : Act} {w : World} (ho : ops[i]? = some o) (hw : Region.wanted o (yielded ops a.tmps) = false)
    (h : MG P ops Q r (a.put o.dst undef) w) : MG P ops Q ((i, 0) :: r) a w := mg_calm ho fun K hK => by
  unfold calmStep
  rw [hw]
  exact hK _ h
theorem mg_load {i : Nat} {r : List (Nat × Nat)} {o : Oper} {a : Act} {w : World} (ho : ops[i]? = some o) (hw : Region.wanted o (yielded ops a.tmps) = true)
    (ty : TypeId) (x : Operand) (hop : o.op = .load ty x) (V v : Value) (hx : a.eval x = V) (hl : ∀ y : Later w, (Instr.loadAt ty V).run P y.1 = .ok v y.1)
    (h : MG P ops Q r (a.put o.dst v) w) : MG P ops Q ((i, 0) :: r) a w := mg_calm ho fun K hK => by
  unfold calmStep
  rw [if_pos hw]
  refine ⟨v, fun y => ?_, hK _ h⟩
  unfold calmAt execOp
  simp only [hop, hx, Sem.run_bind, Sem.run_pure, Result.andThen_ok, hl y]
  exact ⟨rfl, rfl⟩
theorem mg_build {i : Nat} {r : List (Nat × Nat)} {o : Oper} {a : Act} {w : World} (ho : ops[i]? = some o) (hw : Region.wanted o (yielded ops a.tmps) = true)
    (ty : TypeId) (ps : Array (Nat × Operand)) (hop : o.op = .build ty ps) (PS : List (Nat × Value)) (v : Value) (hx : (ps.toList.map fun p => (p.1, a.eval p.2)) = PS) (hl : ∀ y : World, (Instr.build ty PS.toArray).run P y = .ok v y)
    (h : MG P ops Q r (a.put o.dst v) w) : MG P ops Q ((i, 0) :: r) a w := mg_calm ho fun K hK => by
  unfold calmStep
  rw [if_pos hw]
  refine ⟨v, fun y => ?_, hK _ h⟩
  unfold calmAt execOp
  have e : (ps.map fun (i, x) => (i, a.eval x)) = PS.toArray := Array.ext' (by rw [Array.toList_map]; exact hx)
  simp only [hop, e, Sem.run_bind, Sem.run_pure, Result.andThen_ok, hl y.1]
  exact ⟨rfl, rfl⟩
theorem mg_loud {i : Nat} {r : List (Nat × Nat)} {o : Oper} {a : Act} {w : World} (ho : ops[i]? = some o) (hw : Region.wanted o (yielded ops a.tmps) = true)
    (h : ∀ w', Grow w w' → ∀ K : Act → World → Prop, (∀ a' w'', Grow w' w'' → MG P ops Q r a' w'' → K a' w'') → wpList P ops (Exit.then K NoQ) [o] a w') : MG P ops Q ((i, 1) :: r) a w :=
  ⟨mix_loud ho hw fun w' hw' K hK => h w' hw' K fun a' w'' g h => hK a' w'' g h.out⟩
theorem mg_sync {i : Nat} {r : List (Nat × Nat)} {o : Oper} {a : Act} {w : World} (ho : ops[i]? = some o) (hw : Region.wanted o (yielded ops a.tmps) = true)
    (h : ∀ w', Grow w w' → ∀ K : Act → World → Prop, (∀ a' w'', MG P ops Q r a' w'' → K a' w'') → wpList P ops (Exit.then K NoQ) [o] a w') : MG P ops Q ((i, 2) :: r) a w :=
  ⟨mix_sync ho hw fun w' hw' K hK => h w' hw' K fun a' w'' h => hK a' w'' h.out⟩
end
end Go.Mix
