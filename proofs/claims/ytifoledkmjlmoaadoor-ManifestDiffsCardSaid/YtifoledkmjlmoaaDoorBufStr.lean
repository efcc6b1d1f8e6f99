/-
  'append(b, text...)', b bytes of the call's own.
-/
import Derived.Test.YtifoledkmjlmoaaDoorBuf
import Derived.Test.YtifoledkmjlmoaaDoorStr
import Derived.Lib.AppendStr
namespace Go.Proofs.YtifoledkmjlmoaaDoor
open Go.RowKit Go.Mix

theorem strCells_strOf (l : List UInt8) : Lib.strCells (strOf l) = bcells l := by
  simp [Lib.strCells, strOf, bcells]
theorem wpList_append_text {w : World} {ops : Array Oper} {rest : List Oper} {o : Oper} {a : Act} {Q : Exit → Act → World → Prop} (hgd : o.guard = none) (s x : Operand)
    (ho : o.op = .call { callee := .builtin .append, args := #[s, x], argTypes := #[26, 9] })
    {B : Nat} {w0 : World} (v : Value) (xs : List UInt8) (hs : a.eval s = v) (hb : Buf B w0 w v xs) (l : List UInt8) (hx : a.eval x = .string (strOf l))
    (hlen : xs.length + l.length ≤ 1000000000)
    (h : ∀ v' w', Buf B w0 w' v' (xs ++ l) → w.grownBy w' v.ownBlock → wpList Tryd.prog ops Q rest (a.put o.dst v') w') : wpList Tryd.prog ops Q (o :: rest) a w := by
  obtain ⟨i, hi, hz0, hz1, hz2⟩ := info_parts infoByte
  refine Lib.wpList_append_own_string (P := Tryd.prog) w hgd s x 26 9 ho B 5 i Tryd.underlying26 Tryd.underlying9 hi hz0 hz1 hz2 v xs.length (bcells xs) hs hb.1 (strOf l) hx (by rw [strOf_size]; unfold maxLen; omega) (by rw [strOf_size]; omega) hb.le ?_
  intro v' w' h1 h2 _
  refine h v' w' (hb.grown ?_ h2) h2
  unfold OwnB
  rw [bcells_append, List.length_append]
  rw [strCells_strOf, strOf_size] at h1
  exact h1
end Go.Proofs.YtifoledkmjlmoaaDoor
