/-
  The law's known: the walk.
-/
import Derived.Test.YtifoledkmjlmoaaDoorRefPar18
import Derived.Test.YtifoledkmjlmoaaDoorPar18
namespace Go.Proofs.YtifoledkmjlmoaaDoor
open Go.RowKit Go.Mix Go.WideMaps

def kA : MFile := ⟨[97], id0, [120]⟩
def kB : MFile := ⟨[98, 47, 99], id0, []⟩
def kC : MFile := ⟨[98], id0, []⟩
instance (l : List MFile) (p : List UInt8) : Decidable (noDir l p) := inferInstanceAs (Decidable (∀ j, j < p.length → p[j]? = some 47 → pathsM l (p.take j) = false))
instance (l : List MFile) : Decidable (RightM l) := inferInstanceAs (Decidable ((∀ i, i < l.length → stepM l i = true) ∧ ∀ i, i < l.length → noDir l l[i]!.path))
theorem k1 : RightM [kA, kB] := by decide +kernel
theorem k2 : ¬ RightM [kC, kB] := by decide +kernel
theorem k3 : (textM [kA, kB]).length = 89 := by decide +kernel
theorem kfill1 (p f : List UInt8) : Instr.fill (([(0, 1), (1, 20), (21, 1)] : List (Nat × Nat)).toArray[·]?) (encM mf0).toArray [(0, .string (strOf p)), (2, .string (strOf f))] = some (recA encM ⟨p, id0, f⟩) := by
  have l20 : ∀ y : Id20, (idc y).length = 20 := idc_len
  rw [fill_cons (o := 0) (n := 1) rfl rfl (by rw [encM_len]; omega), fill_cons (o := 21) (n := 1) rfl rfl (by simp [encM, Value.cells, l20, mf0]), fill_nil]
  simp [encM, Value.cells, recA, mf0, l20, List.drop_append]
theorem kfill2 (p : List UInt8) : Instr.fill (([(0, 1), (1, 20), (21, 1)] : List (Nat × Nat)).toArray[·]?) (encM mf0).toArray [(0, .string (strOf p))] = some (recA encM ⟨p, id0, []⟩) := by
  have l20 : ∀ y : Id20, (idc y).length = 20 := idc_len
  rw [fill_cons (o := 0) (n := 1) rfl rfl (by rw [encM_len]; omega), fill_nil]
  simp [encM, Value.cells, recA, mf0, l20, List.drop_append]
theorem buildM2 (p f : List UInt8) (w : World) : (Instr.build 46 #[(0, .string (strOf p)), (2, .string (strOf f))]).run Tryd.prog w = .ok (.agg (recA encM ⟨p, id0, f⟩)) w := by
  obtain ⟨fs, h1, h2⟩ := placesM
  exact built_at (Z := encM mf0) (by kernel_rfl) h1 h2 (kfill1 p f) w
theorem buildM1 (p : List UInt8) (w : World) : (Instr.build 46 #[(0, .string (strOf p))]).run Tryd.prog w = .ok (.agg (recA encM ⟨p, id0, []⟩)) w := by
  obtain ⟨fs, h1, h2⟩ := placesM
  exact built_at (Z := encM mf0) (by kernel_rfl) h1 h2 (kfill2 p) w
def twoM (W : World) (p q : MFile) : World := W.alloc (.cells (flatR encM [p, q]).toArray 46)
theorem two_run (p q : MFile) (W : World) : (Instr.buildSlice 23 2 [(0, .agg (recA encM p)), (1, .agg (recA encM q))].toArray).run Tryd.prog W = .ok (.slice (some ⟨W.heap.size, 0, none⟩) 2 2) (twoM W p q) := tyM.sliceL [p, q] (by simp) (by simp) W
theorem two_below (W : World) (p q : MFile) : Below W.heap.size W (twoM W p q) := (Below.refl _ _).alloc (Nat.le_refl _) _
theorem two_rs (W : World) (p q : MFile) : RsAt encM 22 (twoM W p q) (some ⟨W.heap.size, 0, none⟩) 2 [p, q] := tyM.rsNew W [p, q] (by simp)

theorem two_print (W : World) : Calls Tryd.prog 10 #[.slice (some ⟨W.heap.size, 0, none⟩) 2 2] (twoM W kA kB) fun e w' => (∃ b c, e = .returned (.tuple #[.slice b 89 c, .int .i64 0]) ∧ Sl w' b c (textM [kA, kB])) ∧ Below W.heap.size W w' := by
  refine (print_any (two_rs W kA kB) (by simp) (by intro x hx; simp at hx; rcases hx with rfl | rfl <;> decide)).mono ?_
  rintro e w' ⟨h1, -, hw⟩
  obtain ⟨b, c, he, hs⟩ := h1 k1
  rw [k3] at he
  exact ⟨⟨b, c, he, hs⟩, (two_below W kA kB).trans (hw.mono (two_below W kA kB).size)⟩
theorem two_none (W : World) : Calls Tryd.prog 10 #[.slice (some ⟨W.heap.size, 0, none⟩) 2 2] (twoM W kC kB) fun e w' => e = .returned (.tuple #[.slice none 0 0, .int .i64 4]) ∧ Below W.heap.size W w' := by
  refine (print_any (two_rs W kC kB) (by simp) (by intro x hx; simp at hx; rcases hx with rfl | rfl <;> decide)).mono ?_
  rintro e w' ⟨-, h2, hw⟩
  exact ⟨h2 k2, (two_below W kC kB).trans (hw.mono (two_below W kC kB).size)⟩
theorem two_parse {W : World} {b : Option Addr} {c : Nat} (h : Sl W b c (textM [kA, kB])) : Calls Tryd.prog 15 #[.slice b 89 c] W fun e w' => ∃ a cap, e = .returned (.tuple #[.slice a 2 cap, .int .i64 0]) ∧ RsAt encM 22 w' a cap [kA, kB] ∧ Below W.heap.size W w' := by
  have C := parse_any h (by rw [k3]; decide)
  have hk := read_right k1
  rw [k3] at C hk
  refine C.mono ?_
  rintro e w' (⟨l, hl, -, v, he, ho⟩ | ⟨hn | ⟨l, hl, hn⟩, -⟩)
  · rw [hk] at hl
    injection hl with hl
    subst hl
    obtain ⟨a, cap, rfl, hr, -⟩ := ho.rs tyM
    exact ⟨a, cap, he, hr, ho.frame⟩
  · rw [hk] at hn; cases hn
  · rw [hk] at hl
    injection hl with hl
    subst hl
    exact absurd k1 hn

set_option maxRecDepth 100000 in
set_option maxHeartbeats 4000000 in
theorem known_any (w : World) : Calls Tryd.prog 12 #[] w fun e w' => e = .returned (.bool true) ∧ Below w.heap.size w w' := by
  have b1 : ∀ w, (Instr.build 46 [(0, .string ⟨#[97]⟩), (2, .string ⟨#[120]⟩)].toArray).run Tryd.prog w = .ok (.agg (recA encM kA)) w := fun w => buildM2 [97] [120] w
  have b2 : ∀ w, (Instr.build 46 [(0, .string ⟨#[98, 47, 99]⟩)].toArray).run Tryd.prog w = .ok (.agg (recA encM kB)) w := fun w => buildM1 [98, 47, 99] w
  have b3 : ∀ w, (Instr.build 46 [(0, .string ⟨#[98]⟩)].toArray).run Tryd.prog w = .ok (.agg (recA encM kC)) w := fun w => buildM1 [98] w
  have CP := two_print w
  have tw := two_run kA kB w
  go_enter Tryd.func12, Tryd.ntmps12
  go_wp2_with (first | (refine wpList_build_at rfl _ _ rfl [(0, .string ⟨#[97]⟩), (2, .string ⟨#[120]⟩)] _ rfl (b1 _) ?_) | (refine wpList_build_at rfl _ _ rfl [(0, .string ⟨#[98, 47, 99]⟩)] _ rfl (b2 _) ?_) | (refine wpList_buildSlice_at rfl _ _ _ rfl [(0, .agg (recA encM kA)), (1, .agg (recA encM kB))] _ rfl tw ?_))
  refine CP.mono ?_
  rintro e w1 ⟨⟨b, c, rfl, hs⟩, hw1⟩
  have CQ := two_parse hs
  have H1 := Lib.hid hw1
  clear CP tw hs hw1 b1
  go_wp2_with fail
  refine CQ.mono ?_
  rintro e w2 ⟨a, cap, rfl, hr, hw2⟩
  have H2 := Lib.hid (And.intro hr (H1.out.trans (hw2.mono H1.out.size)))
  clear CQ hr hw2
  have CN := two_none w2
  have tw := two_run kC kB w2
  go_wp2_with (first | (refine wpList_build_at rfl _ _ rfl [(0, .string ⟨#[98]⟩)] _ rfl (b3 _) ?_) | (refine wpList_build_at rfl _ _ rfl [(0, .string ⟨#[98, 47, 99]⟩)] _ rfl (b2 _) ?_) | (refine wpList_buildSlice_at rfl _ _ _ rfl [(0, .agg (recA encM kC)), (1, .agg (recA encM kB))] _ rfl tw ?_))
  refine CN.mono ?_
  rintro e w3 ⟨rfl, hw3⟩
  have H3 := Lib.hid (H2.out.2.trans (hw3.mono H2.out.2.size))
  have hr3 := H2.out.1.below hw3
  clear CN tw hw3 b2 b3
  obtain ⟨B, q, IX, R, -⟩ := hr3.at tyM (0 : Int) 0 rfl (by simp)
  change ∀ W, (Instr.indexAt 23 (.slice a 2 cap) (.int .i64 0)).run Tryd.prog W = _ at IX
  obtain ⟨-, -, f2⟩ := mf_fields R
  change w3.cell? _ = some (.string ⟨#[120]⟩) at f2
  clear R hr3
  go_wp2_with fail
  go_ret
  exact ⟨rfl, H3.out⟩
end Go.Proofs.YtifoledkmjlmoaaDoor
