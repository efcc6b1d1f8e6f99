/-
  The law's known: the walk.
-/
import Derived.Test.YtbllpjphlanchaaPrint10
import Derived.Test.YtbllpjphlanchaaBuildE
import Derived.Test.YtbllpjphlanchaaStrOps
namespace Go.Proofs.Ytbllpjphlanchaa
open Go.RowKit Go.Mix Go.WideMaps

def kA : Ent := ⟨33188, [97, 46, 99], id0⟩
def kB : Ent := ⟨16384, [97], id0⟩
def kC : Ent := ⟨33188, [97], id0⟩
instance (l : List Ent) : Decidable (RightE l) := inferInstanceAs (Decidable (∀ i, i < l.length → stepOk l i = true))
theorem k1 : RightE [kA, kB] := by decide
theorem k2 : ¬ RightE [kB, kA] := by decide
theorem k3 : RightE [kC, kA] := by decide
theorem k4 : (bodyL [kA, kB]).length = 59 := by decide

/-- Boxes that hold the three entries. -/
def Boxes (W : World) (b0 : Nat) : Prop := W.heap[b0]? = some (.cells (recA encE kA) 40 (0, 0)) ∧ W.heap[b0 + 1]? = some (.cells (recA encE kB) 40 (0, 0)) ∧ W.heap[b0 + 1 + 1]? = some (.cells (recA encE kC) 40 (0, 0))
theorem Boxes.below {W W' : World} {b0 : Nat} (h : Boxes W b0) (g : Below W.heap.size W W') : Boxes W' b0 := ⟨blockR_below h.1 g, blockR_below h.2.1 g, blockR_below h.2.2 g⟩
theorem Boxes.a {W : World} {b0 : Nat} (h : Boxes W b0) : (Instr.loadAt 40 (.pointer (some ⟨b0, 0, none⟩))).run Try.prog W = .ok (.agg (recA encE kA)) W := tyE.load kA b0 0 W (recBox h.1)
theorem Boxes.b {W : World} {b0 : Nat} (h : Boxes W b0) : (Instr.loadAt 40 (.pointer (some ⟨b0 + 1, 0, none⟩))).run Try.prog W = .ok (.agg (recA encE kB)) W := tyE.load kB (b0 + 1) 0 W (recBox h.2.1)
theorem Boxes.c {W : World} {b0 : Nat} (h : Boxes W b0) : (Instr.loadAt 40 (.pointer (some ⟨b0 + 1 + 1, 0, none⟩))).run Try.prog W = .ok (.agg (recA encE kC)) W := tyE.load kC (b0 + 1 + 1) 0 W (recBox h.2.2)
def twoW (W : World) (p q : Ent) : World := W.alloc (.cells (flatR encE [p, q]).toArray 40)
theorem two_run (p q : Ent) (W : World) : (Instr.buildSlice 23 2 [(0, .agg (recA encE p)), (1, .agg (recA encE q))].toArray).run Try.prog W = .ok (.slice (some ⟨W.heap.size, 0, none⟩) 2 2) (twoW W p q) := tyE.sliceL [p, q] (by simp) (by simp) W
theorem two_below (W : World) (p q : Ent) : Below W.heap.size W (twoW W p q) := (Below.refl _ _).alloc (Nat.le_refl _) _
theorem two_rs (W : World) (p q : Ent) : RsAt encE 22 (twoW W p q) (some ⟨W.heap.size, 0, none⟩) 2 [p, q] := tyE.rsNew W [p, q] (by simp)
theorem two_right {p q : Ent} (W : World) (hp : p.name.length ≤ 1000000) (hq : q.name.length ≤ 1000000) : Calls Try.prog 13 #[.slice (some ⟨W.heap.size, 0, none⟩) 2 2] (twoW W p q) fun e w' => e = .returned (.bool (decide (RightE [p, q]))) ∧ Below W.heap.size W w' := by
  refine (right_any (two_rs W p q) (by simp) (by intro x hx; simp at hx; rcases hx with rfl | rfl <;> assumption)).mono ?_
  rintro e w' ⟨r, rfl, hr, hw⟩
  refine ⟨?_, (two_below W p q).trans (hw.mono (two_below W p q).size)⟩
  congr 2
  rw [Bool.eq_iff_iff, hr, decide_eq_true_eq]

set_option maxRecDepth 100000 in
set_option maxHeartbeats 4000000 in
theorem known_any (w : World) : Calls Try.prog 12 #[] w fun e w' => e = .returned (.bool true) ∧ Below w.heap.size w w' := by
  have b1 : ∀ w, (Instr.build 40 [(0, .int .i64 33188), (1, .string ⟨#[97, 46, 99]⟩)].toArray).run Try.prog w = .ok (.agg (recA encE kA)) w := fun w => buildE2 33188 [97, 46, 99] w
  have b2 : ∀ w, (Instr.build 40 [(0, .int .i64 16384), (1, .string ⟨#[97]⟩)].toArray).run Try.prog w = .ok (.agg (recA encE kB)) w := fun w => buildE2 16384 [97] w
  have b3 : ∀ w, (Instr.build 40 [(0, .int .i64 33188), (1, .string ⟨#[97]⟩)].toArray).run Try.prog w = .ok (.agg (recA encE kC)) w := fun w => buildE2 33188 [97] w
  obtain ⟨Z, hZ⟩ : ∃ Z, Z = recA encE ent0 := ⟨_, rfl⟩
  have z : ∀ w, (zeroValue 40).run Try.prog w = .ok (.agg Z) w := fun w => by rw [hZ]; kernel_rfl
  have zs : ∀ p, Z.size = (recA encE p).size := fun p => by rw [hZ]; simp [recA, encE_len]
  have zi : ∀ p, (Try.prog.info? 40).map (·.size) = some (recA encE p).size := fun p => by rw [show (recA encE p).size = 22 by simp [recA, encE_len]]; exact tyE.ie
  have z1 : ∀ p, (recA encE p).all (·.oneCell') = true := fun p => all_oneCell_toArray (encE_one _)
  -- the worlds of the boxes
  obtain ⟨w2, hw2⟩ : ∃ w2, w2 = (w.alloc (.cells Z 40)).alloc (.cells Z 40) := ⟨_, rfl⟩
  have h20 : w2.heap[w.heap.size]? = some (.cells Z 40 (0, 0)) := by
    rw [hw2, Below.block ((Below.refl _ _).alloc (Nat.le_refl _) _) _ (by simp)]; exact heap_alloc_last _ _ _ rfl
  have h21 : w2.heap[w.heap.size + 1]? = some (.cells Z 40 (0, 0)) := by rw [hw2]; exact heap_alloc_last _ _ _ (by simp)
  have s2 : w2.heap.size = w.heap.size + 1 + 1 := by rw [hw2]; simp
  have g2 : Below w.heap.size w w2 := by rw [hw2]; exact ((Below.refl _ _).alloc (Nat.le_refl _) _).alloc (by simp) _
  obtain ⟨w3, hw3⟩ : ∃ w3, w3 = w2.setRow w.heap.size (recA encE kA) := ⟨_, rfl⟩
  have h30 : w3.heap[w.heap.size]? = some (.cells (recA encE kA) 40 (0, 0)) := by rw [hw3]; exact setRow_heap _ _ _ _ _ _ h20
  have h31 : w3.heap[w.heap.size + 1]? = some (.cells Z 40 (0, 0)) := by rw [hw3, setRow_other _ _ _ _ (by omega)]; exact h21
  obtain ⟨w4, hw4⟩ : ∃ w4, w4 = w3.setRow (w.heap.size + 1) (recA encE kB) := ⟨_, rfl⟩
  have h40 : w4.heap[w.heap.size]? = some (.cells (recA encE kA) 40 (0, 0)) := by rw [hw4, setRow_other _ _ _ _ (by omega)]; exact h30
  have h41 : w4.heap[w.heap.size + 1]? = some (.cells (recA encE kB) 40 (0, 0)) := by rw [hw4]; exact setRow_heap _ _ _ _ _ _ h31
  have s4 : w4.heap.size = w.heap.size + 1 + 1 := by rw [hw4, setRow_size, hw3, setRow_size, s2]
  have g4 : Below w.heap.size w w4 := by rw [hw4, hw3]; exact below_setRow (below_setRow g2 (Nat.le_refl _) _) (Nat.le_succ _) _
  obtain ⟨w5, hw5⟩ : ∃ w5, w5 = w4.alloc (.cells Z 40) := ⟨_, rfl⟩
  have h5 : w5.heap[w.heap.size + 1 + 1]? = some (.cells Z 40 (0, 0)) := by rw [hw5]; exact heap_alloc_last _ _ _ s4.symm
  have g5 : Below w.heap.size w w5 := by rw [hw5]; exact g4.alloc g4.size _
  obtain ⟨w6, hw6⟩ : ∃ w6, w6 = w5.setRow (w.heap.size + 1 + 1) (recA encE kC) := ⟨_, rfl⟩
  have B6 : Boxes w6 w.heap.size := by
    have e0 : w5.heap[w.heap.size]? = some (.cells (recA encE kA) 40 (0, 0)) := by rw [hw5]; exact blockR_below h40 ((Below.refl _ _).alloc (Nat.le_refl _) _)
    have e1 : w5.heap[w.heap.size + 1]? = some (.cells (recA encE kB) 40 (0, 0)) := by rw [hw5]; exact blockR_below h41 ((Below.refl _ _).alloc (Nat.le_refl _) _)
    refine ⟨?_, ?_, by rw [hw6]; exact setRow_heap _ _ _ _ _ _ h5⟩
    · rw [hw6, setRow_other _ _ _ _ (by omega)]; exact e0
    · rw [hw6, setRow_other _ _ _ _ (by omega)]; exact e1
  have g6 : Below w.heap.size w w6 := by rw [hw6]; exact below_setRow g5 (by omega) _
  have H := Lib.hid (And.intro hw2 (And.intro hw3 (And.intro hw4 (And.intro hw5 (And.intro hw6 (And.intro B6 g6))))))
  have HH := Lib.hid (And.intro h20 (And.intro h31 (And.intro h5 s4)))
  clear hZ hw2 h20 h21 s2 g2 hw3 h30 h31 hw4 h40 h41 g4 hw5 h5 g5 hw6 B6 g6 s4
  go_enter Try.func12, Try.ntmps12
  go_upto_region 3 with (first | (refine wpList_build_at rfl _ _ rfl [(0, .int .i64 33188), (1, .string ⟨#[97, 46, 99]⟩)] _ rfl (b1 _) ?_) | (refine wpList_build_at rfl _ _ rfl [(0, .int .i64 16384), (1, .string ⟨#[97]⟩)] _ rfl (b2 _) ?_) | (refine wpList_build_at rfl _ _ rfl [(0, .int .i64 33188), (1, .string ⟨#[97]⟩)] _ rfl (b3 _) ?_) | (rw [← H.out.1]; refine wpList_store_row rfl 40 _ _ rfl w.heap.size (recA encE kA) rfl rfl 40 Z HH.out.1 (zi _) (zs _) (z1 _) ?_; rw [← H.out.2.1]) | (refine wpList_store_row rfl 40 _ _ rfl (w.heap.size + 1) (recA encE kB) rfl rfl 40 Z HH.out.2.1 (zi _) (zs _) (z1 _) ?_; rw [← H.out.2.2.1]) | (rw [HH.out.2.2.2, ← H.out.2.2.2.1]; refine wpList_store_row rfl 40 _ _ rfl (w.heap.size + 1 + 1) (recA encE kC) rfl rfl 40 Z HH.out.2.2.1 (zi _) (zs _) (z1 _) ?_; rw [← H.out.2.2.2.2.1]))
  clear b1 b2 b3 z zs zi z1 HH
  have B6 := H.out.2.2.2.2.2.1
  have g6 := H.out.2.2.2.2.2.2
  have HB := Lib.hid (And.intro B6 g6)
  have la := B6.a
  have lb := B6.b
  have tw := two_run kA kB w6
  have CP := print_any (two_rs w6 kA kB) (by simp) (by intro x hx; simp at hx; rcases hx with rfl | rfl <;> decide)
  change Calls _ _ #[.slice (some ⟨w6.heap.size, 0, none⟩) 2 2] _ _ at CP
  have HK := Lib.hid k1
  have T6 := Lib.hid (two_below w6 kA kB)
  clear B6 g6 H
  go_wp2_with (first | (refine wpList_load_at rfl _ _ rfl _ _ rfl la ?_) | (refine wpList_load_at rfl _ _ rfl _ _ rfl lb ?_) | (refine wpList_buildSlice_at rfl _ _ _ rfl [(0, .agg (recA encE kA)), (1, .agg (recA encE kB))] _ rfl tw ?_))
  refine CP.mono ?_
  rintro e w7 (⟨h, -⟩ | ⟨-, v, rfl, hbuf⟩)
  · exact absurd HK.out h
  obtain ⟨av, cv, rfl, -⟩ := hbuf.1.bs
  rw [k4]
  have hw7 : Below w6.heap.size w6 w7 := T6.out.trans (hbuf.2.1.mono T6.out.size)
  have B7 := HB.out.1.below hw7
  have H7 := Lib.hid (And.intro B7 (HB.out.2.trans (hw7.mono HB.out.2.size)))
  clear CP la lb tw hbuf hw7
  have la := B7.a
  have lb := B7.b
  have tw := two_run kA kB w7
  have CR := two_right (p := kA) (q := kB) w7 (by decide) (by decide)
  rw [decide_eq_true k1] at CR
  clear B7
  go_wp2_with (first | (refine wpList_load_at rfl _ _ rfl _ _ rfl la ?_) | (refine wpList_load_at rfl _ _ rfl _ _ rfl lb ?_) | (refine wpList_buildSlice_at rfl _ _ _ rfl [(0, .agg (recA encE kA)), (1, .agg (recA encE kB))] _ rfl tw ?_))
  refine CR.mono ?_
  rintro e w8 ⟨rfl, hw8⟩
  have B8 := H7.out.1.below hw8
  have H8 := Lib.hid (And.intro B8 (H7.out.2.trans (hw8.mono H7.out.2.size)))
  clear CR la lb tw hw8
  have la := B8.a
  have lb := B8.b
  have tw := two_run kB kA w8
  have CR := two_right (p := kB) (q := kA) w8 (by decide) (by decide)
  rw [decide_eq_false k2] at CR
  clear B8
  go_wp2_with (first | (refine wpList_load_g rfl _ _ rfl _ _ rfl la ?_) | (refine wpList_load_g rfl _ _ rfl _ _ rfl lb ?_) | (refine wpList_unguard rfl ?_; refine wpList_buildSlice_at rfl _ _ _ rfl [(0, .agg (recA encE kB)), (1, .agg (recA encE kA))] _ rfl tw ?_))
  refine CR.mono ?_
  rintro e w9 ⟨rfl, hw9⟩
  have B9 := H8.out.1.below hw9
  have H9 := Lib.hid (And.intro B9 (H8.out.2.trans (hw9.mono H8.out.2.size)))
  clear CR la lb tw hw9
  have la := B9.a
  have lc := B9.c
  have tw := two_run kC kA w9
  have CR := two_right (p := kC) (q := kA) w9 (by decide) (by decide)
  rw [decide_eq_true k3] at CR
  clear B9
  go_wp2_with (first | (refine wpList_load_g rfl _ _ rfl _ _ rfl la ?_) | (refine wpList_load_g rfl _ _ rfl _ _ rfl lc ?_) | (refine wpList_unguard rfl ?_; refine wpList_buildSlice_at rfl _ _ _ rfl [(0, .agg (recA encE kC)), (1, .agg (recA encE kA))] _ rfl tw ?_))
  refine CR.mono ?_
  rintro e w10 ⟨rfl, hw10⟩
  have H10 := Lib.hid (H9.out.2.trans (hw10.mono H9.out.2.size))
  clear CR la lc tw hw10
  go_wp2_with fail
  go_ret
  exact ⟨rfl, H10.out⟩
end Go.Proofs.Ytbllpjphlanchaa
