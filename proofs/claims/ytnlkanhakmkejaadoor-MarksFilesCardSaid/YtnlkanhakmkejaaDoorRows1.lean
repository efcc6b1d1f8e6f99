/-
  Slices of one-cell elements that are read: the address may be whatever the slice bears, so that no walk parts on nil.
-/
import Derived.Test.YtnlkanhakmkejaaDoorBase
namespace Go.Proofs.YtnlkanhakmkejaaDoor
open Go.RowKit

/-- Where element k of a slice at a lies. -/
def elt (a : Option Addr) (k : Nat) : Addr := (a.getD default).add k

/-- The slice at a begins with the cells vs. -/
def Cells (w : World) (a : Option Addr) (vs : List Value) : Prop := (a = none → vs = []) ∧ ∀ j (h : j < vs.length), w.cell? (elt a j) = some vs[j]

theorem Cells.below {w w' : World} {a : Option Addr} {vs : List Value} (h : Cells w a vs) (hw : Below w.heap.size w w') : Cells w' a vs :=
  ⟨h.1, fun j hj => (hw.cell (p := elt a j) (lt_of_cell (h.2 j hj))).trans (h.2 j hj)⟩

theorem Cells.take {w : World} {a : Option Addr} {vs : List Value} (h : Cells w a vs) (n : Nat) : Cells w a (vs.take n) :=
  ⟨fun e => by rw [h.1 e]; simp, fun j hj => by rw [h.2 j (by simp at hj; omega)]; simp⟩

theorem Cells.isSome {w : World} {a : Option Addr} {vs : List Value} (h : Cells w a vs) {k : Nat} (hk : k < vs.length) : ∃ x, a = some x := by
  cases a with
  | none => rw [h.1 rfl] at hk; simp at hk
  | some x => exact ⟨x, rfl⟩

theorem Bs.cells {w : World} {a : Option Addr} {l : List UInt8} (h : Bs w a l) : Cells w a (bcells l) := by
  rcases h with rfl | ⟨b, off, rfl, hc⟩
  · exact ⟨fun _ => rfl, fun j hj => by simp [bcells] at hj⟩
  · refine ⟨fun e => by simp at e, fun j hj => ?_⟩
    have hadd : elt (some ⟨b, off, none⟩) j = ⟨b, off + j, none⟩ := by unfold elt Addr.add; simp only [Option.getD_some]; split <;> simp_all
    rw [hadd, hc j (by simpa [bcells] using hj)]
    simp [bcells]

theorem Cells.bs {w : World} {a : Option Addr} {l : List UInt8} (h : Cells w a (bcells l)) : Bs w a l := by
  cases l with
  | nil => exact .inl rfl
  | cons x l =>
    obtain ⟨y, rfl⟩ := h.isSome (k := 0) (by simp [bcells])
    have h0 := h.2 0 (by simp [bcells])
    obtain ⟨yb, yo, ys⟩ := y
    obtain rfl : ys = none := by
      simp only [elt, Option.getD_some, Addr.add, if_pos, World.cell?] at h0
      cases ys with
      | none => rfl
      | some z => split at h0 <;> simp at h0
    refine .inr ⟨yb, yo, rfl, fun j hj => ?_⟩
    have hadd : elt (some ⟨yb, yo, none⟩) j = ⟨yb, yo + j, none⟩ := by unfold elt Addr.add; simp only [Option.getD_some]; split <;> simp_all
    rw [← hadd, h.2 j (by simpa [bcells] using hj)]
    simp only [bcells, List.getElem_map]

theorem Bs.cell {w : World} {a : Option Addr} {l : List UInt8} (h : Bs w a l) {k : Nat} (hk : k < l.length) : w.cell? (elt a k) = some (.int .u8 (l[k].toNat : Int)) := by
  rw [h.cells.2 k (by simpa [bcells] using hk)]; simp [bcells]

/-- 's[k]' of whatever slice of one-cell elements, k within its length. -/
theorem run_index_any {P : Program} {w0 : World} {a : Option Addr} {vs : List Value} (h : Cells w0 a vs) (t : TypeId) {e : TypeId} (ht : P.underlying t = some (.slice e)) (hs : ∀ w : World, (sizeOf e).run P w = .ok 1 w) (cap : Nat) {n k : Nat} (hk : k < n) (hn : n ≤ vs.length) (kd : IntKind) (w : World) :
    (Instr.indexAt t (.slice a n cap) (.int kd (k : Int))).run P w = .ok (.pointer (some (elt a k))) w := by
  obtain ⟨x, rfl⟩ := h.isSome (k := k) (by omega)
  have he : P.elem t = e := by simp [Program.elem, ht]
  rw [run_indexAt_slice w t x n cap kd k (by rw [he]; exact ht), if_pos ⟨by omega, by omega⟩, he, hs]
  simp [Result.andThen, elt]

/-- 's[:k]', k within the capacity. -/
theorem run_slice_to {P : Program} (t : TypeId) {e : TypeId} (ht : P.underlying t = some (.slice e)) (a : Option Addr) (len cap k : Nat) (hk : k ≤ cap) (hn : a = none → cap = 0) {n : Nat} (hs : ∀ w : World, (sizeOf e).run P w = .ok n w) (w : World) :
    (Instr.slice t (.slice a len cap) none (some (.int .i64 (k : Int))) none).run P w = .ok (.slice a k cap) w := by
  have he : P.elem t = e := by simp [Program.elem, ht]
  rw [run_slice_h w t a len cap (by rw [he]; exact ht) .i64 k (by omega) (by omega), he, hs]
  cases a with
  | none => simp [Result.andThen, sliced]
  | some x => simp [Result.andThen, sliced, Addr.add]

/-- 'min' of four integers. -/
@[go_sem] theorem run_min_int4 {P : Program} (w : World) (ts : Array TypeId) (t : TypeId) (k k' k'' k3 : IntKind) (x y z u : Int) :
    (Builtin.min_ ts t #[.int k x, .int k' y, .int k'' z, .int k3 u]).run P w = .ok (.int k (min x (min y (min z u)))) w := by
  simp [Builtin.min_, Builtin.min2]
  omega

end Go.Proofs.YtnlkanhakmkejaaDoor
