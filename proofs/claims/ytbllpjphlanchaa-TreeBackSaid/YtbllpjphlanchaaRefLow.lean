/-
  The document's small functions: Same, named.
-/
import Derived.Test.YtbllpjphlanchaaOrder10
namespace Go.Proofs.Ytbllpjphlanchaa
open Go.RowKit Go.Mix Go.WideMaps

theorem mg_index {P : Program} {ops : Array Oper} {Q : Act → World → Prop} {i : Nat} {r : List (Nat × Nat)} {o : Oper} {a : Act} {w : World} (ho : ops[i]? = some o) (hw : Region.wanted o (yielded ops a.tmps) = true)
    (ty : TypeId) (x ix : Operand) (hop : o.op = .index ty x ix) (V I v : Value) (hx : a.eval x = V) (hi : a.eval ix = I) (hl : ∀ y : World, (Instr.index ty V I).run P y = .ok v y)
    (h : MG P ops Q r (a.put o.dst v) w) : MG P ops Q ((i, 0) :: r) a w := mg_calm ho fun K hK => by
  unfold calmStep
  rw [if_pos hw]
  refine ⟨v, fun y => ?_, hK _ h⟩
  unfold calmAt execOp
  simp only [hop, hx, hi, Sem.run_bind, Sem.run_pure, Result.andThen_ok, hl y.1]
  exact ⟨rfl, rfl⟩
theorem wpList_index_at {P : Program} {ops : Array Oper} {rest : List Oper} {o : Oper} {a : Act} {w : World} {Q : Exit → Act → World → Prop} (hgd : o.guard = none)
    (ty : TypeId) (x i : Operand) (hop : o.op = .index ty x i) (X I v : Value) (hx : a.eval x = X) (hi : a.eval i = I) (hl : (Instr.index ty X I).run P w = .ok v w)
    (h : wpList P ops Q rest (a.put o.dst v) w) : wpList P ops Q (o :: rest) a w :=
  wpList_plain hgd fun _ hK => by
    unfold Oper.wp execOp
    simp only [hop, hx, hi, Sem.run_bind, Sem.run_pure, Result.andThen_ok, hl]
    exact hK _ _ h
theorem wpList_unguard {P : Program} {ops : Array Oper} {rest : List Oper} {o : Oper} {a : Act} {w : World} {Q : Exit → Act → World → Prop} (hw : Region.wanted o (yielded ops a.tmps) = true)
    (h : wpList P ops Q ({ o with guard := none } :: rest) a w) : wpList P ops Q (o :: rest) a w := by
  unfold wpList at h ⊢
  rw [if_pos hw]
  have hw' : Region.wanted { o with guard := none } (yielded ops a.tmps) = true := rfl
  rw [if_pos hw'] at h
  exact h
theorem str_at {k : TypeId} (hu : Try.prog.underlying k = some .string) (x : List UInt8) {i : Nat} (I : Int) (hI : I = (i : Int)) {c : UInt8} (hc : x[i]? = some c) (W : World) : (Instr.index k (.string (strOf x)) (.int .i64 I)).run Try.prog W = .ok (.int .u8 (c.toNat : Int)) W := by
  subst hI
  obtain ⟨hi, rfl⟩ := List.getElem?_eq_some_iff.1 hc
  have hs : (strOf x).size = x.length := strOf_size x
  have h : 0 ≤ (i : Int) ∧ (i : Int) < ((strOf x).size : Int) := by omega
  rw [run_index_string _ _ _ _ _ hu, dif_pos h]
  simp only [Int.toNat_natCast]
  rfl
end Go.Proofs.Ytbllpjphlanchaa
