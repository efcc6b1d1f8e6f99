/-
  What Order holds: the heap, how many parents are left, what came, the nodes' kids; the graph that is read.
-/
import Derived.Test.YtkkfolfplpafhaaRowsW
namespace Go.Proofs.Ytkkfolfplpafhaa
open Go.RowKit Go.Mix

def zcells (l : List Int) : List Value := l.map fun z => .int .i64 z
theorem zcells_length (l : List Int) : (zcells l).length = l.length := by simp [zcells]
def gcells (g : List (List Int)) (es : List (Option Addr × Nat)) : List Value := (List.range g.length).map fun i => .slice (es.getD i (none, 0)).1 (g.getD i []).length (es.getD i (none, 0)).2
theorem gcells_length (g : List (List Int)) (es : List (Option Addr × Nat)) : (gcells g es).length = g.length := by simp [gcells]
theorem sizeOf_row (w : World) : (sizeOf 24).run Try.prog w = .ok 1 w := by kernel_rfl

/-- A graph that is read: the slice at a holds slices (es) of numbers. -/
structure GraphAt (w : World) (a : Option Addr) (cap : Nat) (g : List (List Int)) (es : List (Option Addr × Nat)) : Prop where
  le : g.length ≤ cap
  non : a = none → cap = 0
  rows : Cells w a (gcells g es)
  ints : ∀ i, i < g.length → Cells w (es.getD i (none, 0)).1 (zcells (g.getD i []))
  caps : ∀ i, i < g.length → (g.getD i []).length ≤ (es.getD i (none, 0)).2
  nons : ∀ i, i < g.length → (es.getD i (none, 0)).1 = none → (es.getD i (none, 0)).2 = 0

theorem GraphAt.below {w w' : World} {a : Option Addr} {cap : Nat} {g : List (List Int)} {es : List (Option Addr × Nat)} (h : GraphAt w a cap g es) (b : Below w.heap.size w w') : GraphAt w' a cap g es :=
  ⟨h.le, h.non, h.rows.below b, fun i hi => (h.ints i hi).below b, h.caps, h.nons⟩
theorem GraphAt.at {w : World} {a : Option Addr} {cap : Nat} {g : List (List Int)} {es : List (Option Addr × Nat)} (h : GraphAt w a cap g es) (ki : Int) (i : Nat) (hki : ki = (i : Int)) (hi : i < g.length) :
    (∀ W : World, (Instr.indexAt 22 (.slice a g.length cap) (.int .i64 ki)).run Try.prog W = .ok (.pointer (some (elt a i))) W) ∧
    w.cell? (elt a i) = some (.slice (es.getD i (none, 0)).1 (g.getD i []).length (es.getD i (none, 0)).2) := by
  subst hki
  refine ⟨fun W => run_index_any (P := Try.prog) h.rows 22 Try.underlying22 sizeOf_row cap (n := g.length) hi (by rw [gcells_length]; omega) .i64 W, ?_⟩
  rw [h.rows.2 i (by rw [gcells_length]; exact hi)]
  simp [gcells]
/-- A number of a slice of numbers that is read. -/
theorem zs_at {w : World} {a : Option Addr} {l : List Int} (h : Cells w a (zcells l)) (cap : Nat) (ki : Int) (k : Nat) (hki : ki = (k : Int)) (hk : k < l.length) :
    (∀ W : World, (Instr.indexAt 24 (.slice a l.length cap) (.int .i64 ki)).run Try.prog W = .ok (.pointer (some (elt a k))) W) ∧ w.cell? (elt a k) = some (.int .i64 (l.getD k 0)) := by
  subst hki
  refine ⟨fun W => run_index_any (P := Try.prog) h 24 Try.underlying24 sizeOf_int cap (n := l.length) hk (by rw [zcells_length]; omega) .i64 W, ?_⟩
  rw [h.2 k (by rw [zcells_length]; exact hk), List.getD_eq_getElem?_getD, List.getElem?_eq_getElem hk]
  simp [zcells]

structure WAt (w0 w : World) (P KB n : Nat) (vh vL vO : Value) (h L out : List Nat) (kr : List (Value × List Nat)) : Prop where
  rows : Rows (· < w0.heap.size) w0 w ((vh, h) :: (vL, L) :: (vO, out) :: kr)
  blk : w.heap[P]? = some (.cells #[vh, lessV] 42 (0, 0))
  kids : Row (· < w0.heap.size) 24 w0 w (.slice (some ⟨KB, 0, none⟩) n n) (kr.map (·.1))
  hP : w0.heap.size ≤ P
  kn : kr.length = n

section
variable {w0 w w' : World} {P KB n : Nat} {vh vL vO : Value} {h L out : List Nat} {kr : List (Value × List Nat)}

theorem WAt.later (W : WAt w0 w P KB n vh vL vO h L out kr) (g : Below w.heap.size w w') : WAt w0 w' P KB n vh vL vO h L out kr :=
  ⟨W.rows.later g, block_below W.blk g, W.kids.later g, W.hP, W.kn⟩
theorem WAt.frame (W : WAt w0 w P KB n vh vL vO h L out kr) : Below w0.heap.size w0 w := W.rows.frame.toBelow fun _ hk => hk
theorem WAt.kblk (W : WAt w0 w P KB n vh vL vO h L out kr) : ∃ C, w.heap[KB]? = some (.cells C 24 (0, 0)) := W.kids.held KB rfl
theorem WAt.KP (W : WAt w0 w P KB n vh vL vO h L out kr) : KB ≠ P := fun e => by
  obtain ⟨C, hC⟩ := W.kblk
  rw [e, W.blk] at hC
  injection hC with hC
  injection hC with _ hC _
  exact absurd hC (by decide)

/-- The heap, all else being kept. -/
theorem WAt.heapAt (W : WAt w0 w P KB n vh vL vO h L out kr) : HeapAt (but w vh P) w w P h :=
  ⟨vh, W.blk, W.rows.alone 0 (by simp) P, fun hk => hk.2.2 rfl⟩
theorem WAt.heap_upd (W : WAt w0 w P KB n vh vL vO h L out kr) {h' : List Nat} (H : HeapAt (but w vh P) w w' P h') : ∃ vh', WAt w0 w' P KB n vh' vL vO h' L out kr := by
  obtain ⟨v', hb, hr, -⟩ := H
  obtain ⟨C, hC⟩ := W.kblk
  have hPo := W.rows.other W.blk (by decide)
  have hT := W.rows.butT 0 (by simp) hPo
  have hS := W.rows.butS 0 (by simp) (P := P) (by have := W.hP; omega)
  have hKo := W.rows.other hC (by decide)
  exact ⟨v', ⟨W.rows.upd 0 (by simp) hT hS hr, hb, W.kids.moved hr.frame (fun g hg => by
    injection hg with hg
    subst hg
    exact ⟨lt_of_block hC, hKo 0 (by simp), W.KP⟩) hS, W.hP, W.kn⟩⟩

/-- Row i (not the heap's) has become another one. -/
theorem WAt.row_upd (W : WAt w0 w P KB n vh vL vO h L out kr) (i : Nat) (hi : i < 3 + kr.length) {v' : Value} {l' : List Nat}
    (hr : Row (but w ((((vh, h) :: (vL, L) :: (vO, out) :: kr).getD i (undef, [])).1) w.heap.size) 3 w w' v' (icells l')) :
    Rows (· < w0.heap.size) w0 w' (((vh, h) :: (vL, L) :: (vO, out) :: kr).set i (v', l')) ∧ w'.heap[P]? = some (.cells #[vh, lessV] 42 (0, 0)) ∧
    Row (· < w0.heap.size) 24 w0 w' (.slice (some ⟨KB, 0, none⟩) n n) (kr.map (·.1)) := by
  obtain ⟨C, hC⟩ := W.kblk
  have hlen : ((vh, h) :: (vL, L) :: (vO, out) :: kr).length = 3 + kr.length := by simp; omega
  have hPo := W.rows.other W.blk (by decide)
  have hKo := W.rows.other hC (by decide)
  have hT := W.rows.butT i (by omega) (P := w.heap.size) (fun j hj e => by have := (W.rows.at j hj).lt _ e; omega)
  have hS := W.rows.butS i (by omega) (P := w.heap.size) (by have := W.rows.frame.size; omega)
  have hPl := lt_of_block W.blk
  have hKl := lt_of_block hC
  refine ⟨W.rows.upd i (by omega) hT hS hr, ?_, W.kids.moved hr.frame (fun g hg => ?_) hS⟩
  · exact (hr.frame.keep P ⟨hPl, hPo i (by omega), by omega⟩).2.trans W.blk
  · injection hg with hg
    have hgk : KB = g := hg
    subst hgk
    exact ⟨hKl, hKo i (by omega), by omega⟩
theorem WAt.aloneL (W : WAt w0 w P KB n vh vL vO h L out kr) : Row (but w vL w.heap.size) 3 w w vL (icells L) := W.rows.alone 1 (by simp) _
theorem WAt.aloneO (W : WAt w0 w P KB n vh vL vO h L out kr) : Row (but w vO w.heap.size) 3 w w vO (icells out) := W.rows.alone 2 (by simp) _
theorem WAt.aloneK (W : WAt w0 w P KB n vh vL vO h L out kr) (p : Nat) (hp : p < kr.length) : Row (but w (kr.getD p (undef, [])).1 w.heap.size) 3 w w (kr.getD p (undef, [])).1 (icells (kr.getD p (undef, [])).2) := by
  have := W.rows.alone (3 + p) (by simp; omega) w.heap.size
  have e : ((vh, h) :: (vL, L) :: (vO, out) :: kr).getD (3 + p) (undef, []) = kr.getD p (undef, []) := by
    rw [show 3 + p = p + 1 + 1 + 1 by omega]; rfl
  rw [e] at this
  exact this
theorem WAt.updL (W : WAt w0 w P KB n vh vL vO h L out kr) {v' : Value} {l' : List Nat} (hr : Row (but w vL w.heap.size) 3 w w' v' (icells l')) : WAt w0 w' P KB n vh v' vO h l' out kr := by
  obtain ⟨h1, h2, h3⟩ := W.row_upd 1 (by omega) hr
  exact ⟨h1, h2, h3, W.hP, W.kn⟩
theorem WAt.updO (W : WAt w0 w P KB n vh vL vO h L out kr) {v' : Value} {l' : List Nat} (hr : Row (but w vO w.heap.size) 3 w w' v' (icells l')) : WAt w0 w' P KB n vh vL v' h L l' kr := by
  obtain ⟨h1, h2, h3⟩ := W.row_upd 2 (by omega) hr
  exact ⟨h1, h2, h3, W.hP, W.kn⟩
theorem Rows.set_other {S : Nat → Prop} {rs : List (Value × List Nat)} (H : Rows S w0 w rs) {g : Nat} {C : Array Value} {t : TypeId} {fr : Nat × Nat} (hg : w.heap[g]? = some (.cells C t fr)) (ht : t ≠ 3) (hS : ¬ S g) (k : Nat) (u : Value) : Rows S w0 (w.setCell ⟨g, k, none⟩ u) rs :=
  ⟨H.frame.setCell hS u, fun r hr => (H.row r hr).set_other (p := ⟨g, k, none⟩) ((H.row r hr).other hg ht) hS u, H.apart⟩
/-- A kid more of node p: its row has grown, its slice is laid down. -/
theorem WAt.updK (W : WAt w0 w P KB n vh vL vO h L out kr) (p : Nat) (hp : p < kr.length) {v' : Value} {l' : List Nat} (hr : Row (but w (kr.getD p (undef, [])).1 w.heap.size) 3 w w' v' (icells l')) :
    Row (· < w0.heap.size) 24 w0 w' (.slice (some ⟨KB, 0, none⟩) n n) (kr.map (·.1)) ∧ WAt w0 (w'.setCell ⟨KB, p, none⟩ v') P KB n vh vL vO h L out (kr.set p (v', l')) := by
  have e : ((vh, h) :: (vL, L) :: (vO, out) :: kr).getD (3 + p) (undef, []) = kr.getD p (undef, []) := by
    rw [show 3 + p = p + 1 + 1 + 1 by omega]; rfl
  obtain ⟨h1, h2, h3⟩ := W.row_upd (3 + p) (by omega) (by rw [e]; exact hr)
  have e2 : ((vh, h) :: (vL, L) :: (vO, out) :: kr).set (3 + p) (v', l') = (vh, h) :: (vL, L) :: (vO, out) :: kr.set p (v', l') := by
    rw [show 3 + p = p + 1 + 1 + 1 by omega]; rfl
  rw [e2] at h1
  obtain ⟨C, hC⟩ := h3.held KB rfl
  have hKS : ¬ KB < w0.heap.size := h3.off KB rfl
  refine ⟨h3, h1.set_other hC (by decide) hKS p v', ?_, ?_, W.hP, by rw [List.length_set]; exact W.kn⟩
  · exact (Below.heap_setCell _ _ _ _ (fun e => W.KP e.symm)).trans h2
  · have := (h3.stored p v').1
    rw [List.map_set]
    exact this
/-- Where node p's kids lie. -/
theorem WAt.kidsAt (W : WAt w0 w P KB n vh vL vO h L out kr) (ki : Int) (p : Nat) (hki : ki = (p : Int)) (hp : p < n) :
    (∀ Wd : World, (Instr.indexAt 22 (.slice (some ⟨KB, 0, none⟩) n n) (.int .i64 ki)).run Try.prog Wd = .ok (.pointer (some ⟨KB, p, none⟩)) Wd) ∧ w.cell? ⟨KB, p, none⟩ = some (kr.getD p (undef, [])).1 ∧ w.frozen? ⟨KB, p, none⟩ = false := by
  subst hki
  obtain ⟨a', c', e, hc, -, -, -⟩ := W.kids.slice
  injection e with e1 e2 e3
  subst e1
  have hkl : p < (kr.map (·.1)).length := by rw [List.length_map, W.kn]; exact hp
  refine ⟨fun Wd => ?_, ?_, W.kids.free p⟩
  · have := run_index_any (P := Try.prog) hc 22 Try.underlying22 sizeOf_row n (n := n) hp (by rw [List.length_map, W.kn]; exact Nat.le_refl _) .i64 Wd
    rw [elt_own] at this
    exact this
  · have := hc.2 p hkl
    rw [elt_own] at this
    rw [this, List.getElem_map, List.getD_eq_getElem?_getD, List.getElem?_eq_getElem (by rw [W.kn]; exact hp)]
    rfl
end
end Go.Proofs.Ytkkfolfplpafhaa
