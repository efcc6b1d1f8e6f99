/-
  strings.Builder's writers at this program: the library's contracts, laid by hand (the type of 'any', which the shelf's own laying misses, among the numbers).
-/
import Derived.Shelf.Strings.Builder1
import Derived.Test.YtnlkanhakmkejaaBase
namespace Go.Proofs.Ytnlkanhakmkejaa
open Go.RowKit Go.Shelf Go.Proofs

def lays167_ren : Go.Shelf.Ren := ⟨fun | 167 => 39 | 240 => 38 | 276 => 43 | n => n, fun | 0 => 0 | 3 => 3 | 4 => 4 | 5 => 5 | 9 => 9 | 20 => 20 | 37 => 39 | 70 => 58 | 72 => 60 | 75 => 62 | 80 => 66 | 164 => 82 | n => n, fun | n => n⟩
theorem lays167 : Go.Proofs.Lays.n167 Try.prog lays167_ren where
  mixed := by kernel_rfl
  f167 := Try.func39.trans (congrArg some (by kernel_rfl))
  f240 := Try.func38.trans (congrArg some (by kernel_rfl))
  f276 := Try.func43.trans (congrArg some (by kernel_rfl))
  t0 := Try.underlying0
  a0 := Try.isAgg0
  z0 := Try.sizeOf0
  v0 := Try.zeroValue0
  t4 := Try.underlying4
  a4 := Try.isAgg4
  z4 := Try.sizeOf4
  v4 := Try.zeroValue4
  t5 := Try.underlying5
  a5 := Try.isAgg5
  z5 := Try.sizeOf5
  v5 := Try.zeroValue5
  t9 := Try.underlying9
  a9 := Try.isAgg9
  z9 := Try.sizeOf9
  v9 := Try.zeroValue9
  t20 := Try.underlying20
  a20 := Try.isAgg20
  z20 := Try.sizeOf20
  v20 := Try.zeroValue20
  t37 := Try.underlying39
  a37 := Try.isAgg39
  z37 := Try.sizeOf39
  v37 := Try.zeroValue39
  t70 := Try.underlying58
  a70 := Try.isAgg58
  z70 := Try.sizeOf58
  v70 := Try.zeroValue58
  t72 := Try.underlying60
  a72 := Try.isAgg60
  z72 := Try.sizeOf60
  v72 := Try.zeroValue60
  t75 := Try.underlying62
  a75 := Try.isAgg62
  z75 := Try.sizeOf62
  v75 := Try.zeroValue62
  t164 := Try.underlying82
  a164 := Try.isAgg82
  z164 := Try.sizeOf82
  v164 := Try.zeroValue82
theorem bldExtra167 : Builder.Extra Try.prog lays167_ren where
  sizeBuilder := by kernel_rfl
  liesBuilder := by kernel_rfl
  t5 := Try.underlying5
  a5 := Try.isAgg5
  z5 := Try.sizeOf5
  v5 := Try.zeroValue5
  infoByte := by kernel_rfl
  cellsByte := by kernel_rfl
  sizeByte := by kernel_rfl
  neB5 := by decide
def lays166_ren : Go.Shelf.Ren := ⟨fun | 166 => 29 | 240 => 38 | 276 => 43 | n => n, fun | 0 => 0 | 3 => 3 | 4 => 4 | 5 => 5 | 9 => 9 | 20 => 20 | 37 => 39 | 70 => 58 | 72 => 60 | 75 => 62 | 80 => 66 | 164 => 82 | n => n, fun | n => n⟩
theorem lays166 : Go.Proofs.Lays.n166 Try.prog lays166_ren where
  mixed := by kernel_rfl
  f166 := Try.func29.trans (congrArg some (by kernel_rfl))
  f240 := Try.func38.trans (congrArg some (by kernel_rfl))
  f276 := Try.func43.trans (congrArg some (by kernel_rfl))
  t0 := Try.underlying0
  a0 := Try.isAgg0
  z0 := Try.sizeOf0
  v0 := Try.zeroValue0
  t3 := Try.underlying3
  a3 := Try.isAgg3
  z3 := Try.sizeOf3
  v3 := Try.zeroValue3
  t4 := Try.underlying4
  a4 := Try.isAgg4
  z4 := Try.sizeOf4
  v4 := Try.zeroValue4
  t9 := Try.underlying9
  a9 := Try.isAgg9
  z9 := Try.sizeOf9
  v9 := Try.zeroValue9
  t20 := Try.underlying20
  a20 := Try.isAgg20
  z20 := Try.sizeOf20
  v20 := Try.zeroValue20
  t37 := Try.underlying39
  a37 := Try.isAgg39
  z37 := Try.sizeOf39
  v37 := Try.zeroValue39
  t70 := Try.underlying58
  a70 := Try.isAgg58
  z70 := Try.sizeOf58
  v70 := Try.zeroValue58
  t72 := Try.underlying60
  a72 := Try.isAgg60
  z72 := Try.sizeOf60
  v72 := Try.zeroValue60
  t75 := Try.underlying62
  a75 := Try.isAgg62
  z75 := Try.sizeOf62
  v75 := Try.zeroValue62
  t164 := Try.underlying82
  a164 := Try.isAgg82
  z164 := Try.sizeOf82
  v164 := Try.zeroValue82
theorem bldExtra166 : Builder.Extra Try.prog lays166_ren where
  sizeBuilder := by kernel_rfl
  liesBuilder := by kernel_rfl
  t5 := Try.underlying5
  a5 := Try.isAgg5
  z5 := Try.sizeOf5
  v5 := Try.zeroValue5
  infoByte := by kernel_rfl
  cellsByte := by kernel_rfl
  sizeByte := by kernel_rfl
  neB5 := by decide

abbrev Bld (B b : Nat) (bs : List UInt8) (w : World) : Prop := Lib.IsBuilder 60 5 B b (Lib.byteCells bs) w

theorem bld_new (w : World) : Bld w.heap.size w.heap.size [] (w.alloc (.cells #[.pointer none, .slice none 0 0] 60)) := Lib.fresh_isBuilder _ _ w

theorem Bld.later {B b : Nat} {bs : List UInt8} {w w' : World} (h : Bld B b bs w) (g : Below w.heap.size w w') : Bld B b bs w' := by
  have key : ∀ p, Lib.BuilderAt 60 5 B b p (Lib.byteCells bs) w → Lib.BuilderAt 60 5 B b p (Lib.byteCells bs) w' := fun p hp => by
    have hlt := hp.lt
    obtain ⟨hB, v, hb, hown, hne⟩ := hp
    refine ⟨hB, v, (g.block b hlt).trans hb, ?_, hne⟩
    refine World.ownsRow.kept hown (row := none) ⟨g.os, g.tape, g.output, g.size, fun k hk _ => g.block k hk⟩ ?_
    cases hv : v.ownBlock <;> simp
  exact h.imp (key _) (key _)

theorem bld_byte (B b : Nat) (bs : List UInt8) (c : UInt8) (w : World) (h : Bld B b bs w) (hlen : bs.length + 1 ≤ 140737488355328) (hBw : B ≤ w.heap.size) :
    Calls Try.prog 39 #[.pointer (some ⟨b, 0, none⟩), .int .u8 (c.toNat : Int)] w fun e w' => e = .returned .nilIface ∧ Bld B b (bs ++ [c]) w' ∧ Below B w w' :=
  (Any.Builder_WriteByte lays167 bldExtra167 B b (Lib.byteCells bs) (c.toNat : Int) w h (by simpa [Lib.byteCells] using hlen) hBw).mono fun e w' ⟨he, h1, h2⟩ =>
    ⟨he, .inr (by have e1 : Lib.byteCells (bs ++ [c]) = Lib.byteCells bs ++ [.int .u8 (c.toNat : Int)] := by simp [Lib.byteCells]
                  rw [e1]; exact h1), h2⟩

theorem bld_str (B b : Nat) (bs : List UInt8) (s : ByteArray) (w : World) (h : Bld B b bs w) (hlen : bs.length + s.size ≤ 140737488355328) (hBw : B ≤ w.heap.size) :
    Calls Try.prog 29 #[.pointer (some ⟨b, 0, none⟩), .string s] w fun e w' => e = .returned (.tuple #[.int .i64 s.size, .nilIface]) ∧ Bld B b (bs ++ s.data.toList) w' ∧ Below B w w' :=
  (Any.Builder_WriteString lays166 bldExtra166 B b (Lib.byteCells bs) s w h (by simpa [Lib.byteCells] using hlen) hBw).mono fun e w' ⟨he, h1, h2⟩ =>
    ⟨he, .inr (by have e1 : Lib.byteCells (bs ++ s.data.toList) = Lib.byteCells bs ++ Lib.strCells s := by simp [Lib.byteCells, Lib.strCells]
                  rw [e1]; exact h1), h2⟩

theorem range_boxB (w : World) (C : List Value) (t : TypeId) (j : Nat) (v : Value) (hj : C[j]? = some v) : (w.alloc (.cells C.toArray t)).cell? ⟨w.heap.size, 0 + j, none⟩ = some v := by
  have hb : (w.alloc (.cells C.toArray t)).heap[w.heap.size]? = some (.cells C.toArray t (0, 0)) := heap_alloc_last w _ _ rfl
  rw [cell_of_row _ _ _ _ _ _ hb, Nat.zero_add]
  simpa using hj
end Go.Proofs.Ytnlkanhakmkejaa
