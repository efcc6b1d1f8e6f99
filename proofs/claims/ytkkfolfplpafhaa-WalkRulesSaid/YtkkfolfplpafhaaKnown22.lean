/-
  The law's known: the walk.
-/
import Derived.Test.YtkkfolfplpafhaaRight
namespace Go.Proofs.Ytkkfolfplpafhaa
open Go.RowKit Go.Mix

theorem cells_lit {w : World} {b : Nat} {C : Array Value} {t : TypeId} {fr : Nat × Nat} (h : w.heap[b]? = some (.cells C t fr)) : Cells w (some ⟨b, 0, none⟩) C.toList := by
  refine And.intro (fun h => nomatch h) fun j hj => ?_
  rw [elt_own, cell_of_row w b j C _ _ h, ← Array.getElem?_toList]
  exact List.getElem?_eq_getElem hj
theorem cells_none (w : World) : Cells w none [] := ⟨fun _ => rfl, fun j hj => by simp at hj⟩
theorem graph3 {w : World} {b0 b1 b2 : Nat} (h0 : w.heap[b0]? = some (.cells #[.int .i64 2] 3 (0, 0))) (h1 : w.heap[b1]? = some (.cells #[.int .i64 1] 3 (0, 0)))
    (h2 : w.heap[b2]? = some (.cells #[.slice (some ⟨b0, 0, none⟩) 1 1, .slice none 0 0, .slice (some ⟨b1, 0, none⟩) 1 1] 24 (0, 0))) :
    GraphAt w (some ⟨b2, 0, none⟩) 3 [[2], [], [1]] [(some ⟨b0, 0, none⟩, 1), (none, 0), (some ⟨b1, 0, none⟩, 1)] := by
  refine ⟨by decide, (fun h => nomatch h), cells_lit h2, fun i hi => ?_, fun i hi => ?_, fun i hi => ?_⟩
  · match i, hi with
    | 0, _ => exact cells_lit h0
    | 1, _ => exact cells_none w
    | 2, _ => exact cells_lit h1
  · match i, hi with
    | 0, _ => exact Nat.le_refl 1
    | 1, _ => exact Nat.le_refl 0
    | 2, _ => exact Nat.le_refl 1
  · match i, hi with
    | 0, _ => exact fun h => nomatch h
    | 1, _ => exact fun _ => rfl
    | 2, _ => exact fun h => nomatch h
theorem graph1 {w : World} {b0 b1 : Nat} (h0 : w.heap[b0]? = some (.cells #[.int .i64 0] 3 (0, 0))) (h1 : w.heap[b1]? = some (.cells #[.slice (some ⟨b0, 0, none⟩) 1 1] 24 (0, 0))) :
    GraphAt w (some ⟨b1, 0, none⟩) 1 [[0]] [(some ⟨b0, 0, none⟩, 1)] := by
  refine ⟨by decide, (fun h => nomatch h), cells_lit h1, fun i hi => ?_, fun i hi => ?_, fun i hi => ?_⟩
  · match i, hi with
    | 0, _ => exact cells_lit h0
  · match i, hi with
    | 0, _ => exact Nat.le_refl 1
  · match i, hi with
    | 0, _ => exact fun h => nomatch h

set_option maxRecDepth 100000 in
set_option maxHeartbeats 1000000 in
theorem known22_any (w : World) : Calls Try.prog 12 #[] w fun e w' => e = .returned (.bool true) ∧ Below w.heap.size w w' := by
  have o1 : orderG [[2], [], [1]] = some [1, 2, 0] := by decide
  have o2 : orderG [[0]] = none := by decide
  have O1 := Lib.hid o1
  have O2 := Lib.hid o2
  clear o1 o2
  have q0 : (((w.alloc (.cells #[.int .i64 2] 3)).alloc (.cells #[.int .i64 1] 3)).alloc (.cells #[.slice (some ⟨w.heap.size, 0, none⟩) 1 1, .slice none 0 0, .slice (some ⟨w.heap.size + 1, 0, none⟩) 1 1] 24)).heap[w.heap.size]? = some (.cells #[.int .i64 2] 3 (0, 0)) := by
    rw [((Below.refl (w.alloc (.cells #[.int .i64 2] 3)).heap.size _).alloc (Nat.le_refl _) _ |>.alloc (by simp) _).block w.heap.size (by simp)]
    exact heap_alloc_last _ _ _ rfl
  have q1 : (((w.alloc (.cells #[.int .i64 2] 3)).alloc (.cells #[.int .i64 1] 3)).alloc (.cells #[.slice (some ⟨w.heap.size, 0, none⟩) 1 1, .slice none 0 0, .slice (some ⟨w.heap.size + 1, 0, none⟩) 1 1] 24)).heap[w.heap.size + 1]? = some (.cells #[.int .i64 1] 3 (0, 0)) := by
    rw [((Below.refl ((w.alloc (.cells #[.int .i64 2] 3)).alloc (.cells #[.int .i64 1] 3)).heap.size _).alloc (Nat.le_refl _) _).block (w.heap.size + 1) (by simp)]
    exact heap_alloc_last _ _ _ (by simp)
  have q2 : (((w.alloc (.cells #[.int .i64 2] 3)).alloc (.cells #[.int .i64 1] 3)).alloc (.cells #[.slice (some ⟨w.heap.size, 0, none⟩) 1 1, .slice none 0 0, .slice (some ⟨w.heap.size + 1, 0, none⟩) 1 1] 24)).heap[w.heap.size + 2]? = some (.cells #[.slice (some ⟨w.heap.size, 0, none⟩) 1 1, .slice none 0 0, .slice (some ⟨w.heap.size + 1, 0, none⟩) 1 1] 24 (0, 0)) := heap_alloc_last _ _ _ (by simp)
  have C1 := order_any (graph3 q0 q1 q2) (by decide) (fun k => by
    match k with
    | 0 => decide
    | 1 => decide
    | 2 => decide
    | k + 3 => simp)
  have gA : Below w.heap.size w (((w.alloc (.cells #[.int .i64 2] 3)).alloc (.cells #[.int .i64 1] 3)).alloc (.cells #[.slice (some ⟨w.heap.size, 0, none⟩) 1 1, .slice none 0 0, .slice (some ⟨w.heap.size + 1, 0, none⟩) 1 1] 24)) := (((Below.refl _ _).alloc (Nat.le_refl _) _).alloc (by simp) _).alloc (by simp; omega) _
  go_enter Try.func12, Try.ntmps12
  go_wp2_with fail
  refine Calls.mono C1 ?_
  intro e w1 hO
  unfold OrderEnds at hO
  rw [O1.out] at hO
  obtain ⟨v1, rfl, hr1⟩ := hO
  have g1 := hr1.frame.toBelow (fun _ hk => hk)
  have G1 := gA.trans (Below.mono g1 gA.size)
  obtain ⟨a1, c1, hv1, hc1, -, -, -⟩ := hr1.slice
  rw [icells_z] at hc1 hv1
  have hv1' : v1 = .slice a1 3 c1 := hv1
  subst hv1'
  have p0 : ((w1.alloc (.cells #[.int .i64 0] 3)).alloc (.cells #[.slice (some ⟨w1.heap.size, 0, none⟩) 1 1] 24)).heap[w1.heap.size]? = some (.cells #[.int .i64 0] 3 (0, 0)) := by
    rw [((Below.refl (w1.alloc (.cells #[.int .i64 0] 3)).heap.size _).alloc (Nat.le_refl _) _).block w1.heap.size (by simp)]
    exact heap_alloc_last _ _ _ rfl
  have p1 : ((w1.alloc (.cells #[.int .i64 0] 3)).alloc (.cells #[.slice (some ⟨w1.heap.size, 0, none⟩) 1 1] 24)).heap[w1.heap.size + 1]? = some (.cells #[.slice (some ⟨w1.heap.size, 0, none⟩) 1 1] 24 (0, 0)) := heap_alloc_last _ _ _ (by simp)
  have C2 := order_any (graph1 p0 p1) (by decide) (fun k => by
    match k with
    | 0 => decide
    | k + 1 => simp)
  have gB : Below w1.heap.size w1 ((w1.alloc (.cells #[.int .i64 0] 3)).alloc (.cells #[.slice (some ⟨w1.heap.size, 0, none⟩) 1 1] 24)) := ((Below.refl _ _).alloc (Nat.le_refl _) _).alloc (by simp) _
  clear C1 q0 q1 q2 gA g1 hr1 hv1
  go_wp2_with fail
  refine Calls.mono C2 ?_
  intro e w2 hO
  unfold OrderEnds at hO
  rw [O2.out] at hO
  obtain ⟨rfl, g2⟩ := hO
  have g12 := gB.trans (Below.mono g2 gB.size)
  have G2 := G1.trans (Below.mono g12 G1.size)
  have hc2 := hc1.below g12
  clear C2 p0 p1 gB g2 hc1 g12 G1
  have hc3 : Cells (w2.alloc (.cells #[.int .i64 1, .int .i64 2, .int .i64 0] 3)) (some ⟨w2.heap.size, 0, none⟩) (zcells [1, 2, 0]) := cells_lit (heap_alloc_last _ _ _ rfl)
  have g3 : Below w2.heap.size w2 (w2.alloc (.cells #[.int .i64 1, .int .i64 2, .int .i64 0] 3)) := (Below.refl _ _).alloc (Nat.le_refl _) _
  have C3 := same_any (ca := c1) (cb := 3) (hc2.below g3) hc3 (by decide)
  have hde : decide (natsZ [1, 2, 0] = [1, 2, 0]) = true := by decide
  rw [hde] at C3
  have HC3 := Lib.hid C3
  clear C3
  go_wp2_with fail
  refine Calls.mono HC3.out ?_
  rintro e w3 ⟨rfl, g4⟩
  have G3 := G2.trans ((g3.trans (Below.mono g4 g3.size)).mono G2.size)
  clear HC3 g3 g4 G2
  go_wp2_with fail
  go_ret
  exact ⟨rfl, G3⟩
end Go.Proofs.Ytkkfolfplpafhaa
