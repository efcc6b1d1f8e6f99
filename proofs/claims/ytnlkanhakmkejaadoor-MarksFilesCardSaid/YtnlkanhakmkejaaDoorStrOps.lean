/-
  Texts: index, parts, '+', min: as operations of a region.
-/
import Derived.Test.YtnlkanhakmkejaaDoorStr
import Derived.Laws.Concat
import Derived.OwnWalk
namespace Go.Proofs.YtnlkanhakmkejaaDoor
open Go.RowKit Go.Mix Go.WideMaps

theorem mg_index {P : Program} {ops : Array Oper} {Q : Act → World → Prop} {i : Nat} {r : List (Nat × Nat)} {o : Oper} {a : Act} {w : World} (ho : ops[i]? = some o) (hw : Region.wanted o (yielded ops a.tmps) = true)
    (ty : TypeId) (x ix : Operand) (hop : o.op = .index ty x ix) (V I v : Value) (hx : a.eval x = V) (hi : a.eval ix = I) (hl : ∀ y : World, (Instr.index ty V I).run P y = .ok v y)
    (h : MG P ops Q r (a.put o.dst v) w) : MG P ops Q ((i, 0) :: r) a w := mg_calm ho fun K hK => by
  unfold calmStep
  rw [if_pos hw]
  refine ⟨v, fun y => ?_, hK _ h⟩
  unfold calmAt execOp
  simp only [hop, hx, hi, Sem.run_bind, Sem.run_pure, Result.andThen_ok, hl y.1]
  exact ⟨rfl, rfl⟩
theorem wpList_index_at {P : Program} {ops : Array Oper} {rest : List Oper} {o : Oper} {a : Act} {w : World} {Q : Exit → Act → World → Prop} (hgd : o.guard = none)
    (ty : TypeId) (x i : Operand) (hop : o.op = .index ty x i) (X I v : Value) (hx : a.eval x = X) (hi : a.eval i = I) (hl : (Instr.index ty X I).run P w = .ok v w)
    (h : wpList P ops Q rest (a.put o.dst v) w) : wpList P ops Q (o :: rest) a w :=
  wpList_plain hgd fun _ hK => by
    unfold Oper.wp execOp
    simp only [hop, hx, hi, Sem.run_bind, Sem.run_pure, Result.andThen_ok, hl]
    exact hK _ _ h
theorem wpList_unguard {P : Program} {ops : Array Oper} {rest : List Oper} {o : Oper} {a : Act} {w : World} {Q : Exit → Act → World → Prop} (hw : Region.wanted o (yielded ops a.tmps) = true)
    (h : wpList P ops Q ({ o with guard := none } :: rest) a w) : wpList P ops Q (o :: rest) a w := by
  unfold wpList at h ⊢
  rw [if_pos hw]
  have hw' : Region.wanted { o with guard := none } (yielded ops a.tmps) = true := rfl
  rw [if_pos hw'] at h
  exact h
theorem str_at {k : TypeId} (hu : Tryd.prog.underlying k = some .string) (x : List UInt8) {i : Nat} (I : Int) (hI : I = (i : Int)) {c : UInt8} (hc : x[i]? = some c) (W : World) : (Instr.index k (.string (strOf x)) (.int .i64 I)).run Tryd.prog W = .ok (.int .u8 (c.toNat : Int)) W := by
  subst hI
  obtain ⟨hi, rfl⟩ := List.getElem?_eq_some_iff.1 hc
  have hs : (strOf x).size = x.length := strOf_size x
  have h : 0 ≤ (i : Int) ∧ (i : Int) < ((strOf x).size : Int) := by omega
  rw [run_index_string _ _ _ _ _ hu, dif_pos h]
  simp only [Int.toNat_natCast]
  rfl
theorem mg_slice {P : Program} {ops : Array Oper} {Q : Act → World → Prop} {i : Nat} {r : List (Nat × Nat)} {o : Oper} {a : Act} {w : World} (ho : ops[i]? = some o) (hw : Region.wanted o (yielded ops a.tmps) = true)
    (ty : TypeId) (x : Operand) (lo hi mx : Option Operand) (hop : o.op = .slice ty x lo hi mx) (V : Value) (LO HI MX : Option Value) (v : Value) (hx : a.eval x = V) (h1 : lo.map a.eval = LO) (h2 : hi.map a.eval = HI) (h3 : mx.map a.eval = MX) (hl : ∀ y : World, (Instr.sliceAt ty V LO HI MX).run P y = .ok v y)
    (h : MG P ops Q r (a.put o.dst v) w) : MG P ops Q ((i, 0) :: r) a w := mg_calm ho fun K hK => by
  unfold calmStep
  rw [if_pos hw]
  refine ⟨v, fun y => ?_, hK _ h⟩
  unfold calmAt execOp
  simp only [hop, hx, h1, h2, h3, Sem.run_bind, Sem.run_pure, Result.andThen_ok, hl y.1]
  exact ⟨rfl, rfl⟩

theorem ext_take (x : List UInt8) (n : Nat) : (strOf x).extract 0 n = strOf (x.take n) := by
  unfold strOf
  apply ByteArray.ext
  rw [ByteArray.data_extract]
  simp
theorem ext_drop (x : List UInt8) (n : Nat) : (strOf x).extract n (strOf x).size = strOf (x.drop n) := by
  unfold strOf
  apply ByteArray.ext
  rw [ByteArray.data_extract]
  simp only [ByteArray.size]
  simp only [List.size_toArray, List.extract_toArray]
  congr 1
  simp only [List.extract_eq_take_drop]
  exact List.take_of_length_le (by rw [List.length_drop]; exact Nat.le_refl _)
theorem str_to {k : TypeId} (hu : Tryd.prog.underlying k = some .string) (x : List UInt8) {i : Nat} (hi : i ≤ x.length) (W : World) : (Instr.sliceAt k (.string (strOf x)) none (some (.int .i64 (i : Int))) none).run Tryd.prog W = .ok (.string (strOf (x.take i))) W := by
  rw [run_sliceAt_string W k _ _ _ _ hu, run_slice_string_h W k _ hu .i64 (i : Int) (by omega) (by rw [strOf_size]; omega), Int.toNat_natCast, ext_take]
theorem str_from {k : TypeId} (hu : Tryd.prog.underlying k = some .string) (x : List UInt8) {i : Nat} (hi : i ≤ x.length) (W : World) : (Instr.sliceAt k (.string (strOf x)) (some (.int .i64 (i : Int))) none none).run Tryd.prog W = .ok (.string (strOf (x.drop i))) W := by
  rw [run_sliceAt_string W k _ _ _ _ hu, run_slice_string_l W k _ hu .i64 (i : Int) (by omega) (by rw [strOf_size]; omega), Int.toNat_natCast, ext_drop]


/-- 'min(x, y)' as one number. -/
theorem min_run (x y : Int) (q : Nat) (h : (if y < x then y else x) = (q : Int)) : ∀ (ts : Array TypeId) (t : TypeId) (w : World), (Builtin.min_ ts t #[.int .i64 x, .int .i64 y]).run Tryd.prog w = .ok (.int .i64 (q : Int)) w := fun ts t w => by
  rw [run_min_int2, h]
end Go.Proofs.YtnlkanhakmkejaaDoor
