/-
  tree.order: the walk.
-/
import Derived.Test.YtbllpjphlanchaaThought
import Derived.Test.YtbllpjphlanchaaShelfT
import Derived.Test.YtbllpjphlanchaaMixG
namespace Go.Proofs.Ytbllpjphlanchaa
open Go.RowKit Go.Mix Go.WideMaps

set_option maxRecDepth 100000 in
set_option maxHeartbeats 2000000 in
theorem order_any (x y : Ent) (hx : x.name.length ≤ 1000000) (hy : y.name.length ≤ 1000000) (w : World) : Calls Try.prog 25 #[.agg (recA encE x), .agg (recA encE y)] w fun e w' => e = .returned (.int .i64 (Lib.compareBytes (thoughtL x) (thoughtL y))) ∧ Below w.heap.size w w' := by
  obtain ⟨w1, hw1⟩ : ∃ w1, w1 = (w.alloc (.cells (recA encE x) 40)).alloc (.cells (recA encE y) 40) := ⟨_, rfl⟩
  have hb : Below w.heap.size w w1 := by rw [hw1]; exact ((Below.refl _ _).alloc (Nat.le_refl _) _).alloc (by simp) _
  have k0 : w1.heap[w.heap.size]? = some (.cells (recA encE x) 40 (0, 0)) := by
    rw [hw1, Below.block ((Below.refl _ _).alloc (Nat.le_refl _) _) _ (by simp)]; exact heap_alloc_last _ _ _ rfl
  have k1 : w1.heap[w.heap.size + 1]? = some (.cells (recA encE y) 40 (0, 0)) := by
    rw [hw1]; exact heap_alloc_last _ _ _ (by simp)
  have LL : ∀ (p : Ent) (B : Nat), w1.heap[B]? = some (.cells (recA encE p) 40 (0, 0)) → ∀ z : Later w1, (Instr.loadAt 40 (.pointer (some ⟨B, 0, none⟩))).run Try.prog z.1 = .ok (.agg (recA encE p)) z.1 := fun p B h z => by
    refine tyE.load p B 0 z.1 fun j v hj => ?_
    rw [cell_of_row _ _ _ _ _ _ (blockR_below h z.2), Nat.zero_add]
    simpa [recA] using hj
  have L0 := LL x _ k0
  have L1 := LL y _ k1
  have C0 := fun W => thought_any x hx W
  have C1 := fun W => thought_any y hy W
  have CC : ∀ W, Calls Try.prog 30 #[.string (strOf (thoughtL x)), .string (strOf (thoughtL y))] W fun e w' => e = .returned (.int .i64 (Lib.compareBytes (thoughtL x) (thoughtL y))) ∧ W = w' := fun W => (Try.strings_Compare (strOf (thoughtL x)) (strOf (thoughtL y)) W).mono fun e w' ⟨h1, h2⟩ => ⟨h1, h2.symm⟩
  have HB := Lib.hid hb
  have HW := Lib.hid hw1
  clear LL k0 k1 hb
  generalize strOf (thoughtL x) = T0 at *
  generalize strOf (thoughtL y) = T1 at *
  go_enter Try.func25, Try.ntmps25
  go_upto_region 1 with (fail)
  rw [← HW.out]
  clear hw1
  refine wp_region_mg [(0, 0), (1, 0), (2, 0), (3, 0), (4, 0), (5, 0)] (by kernel_rfl) (by kernel_rfl) ?_
  refine mg_load rfl rfl _ _ rfl _ _ rfl L0 ?_
  refine mg_calm rfl (fun K hK => ?_)
  go_simp
  apply Exists.intro
  refine ⟨fun z => C0 z.1, hK _ ?_⟩
  clear hK K
  refine mg_load rfl rfl _ _ rfl _ _ rfl L1 ?_
  refine mg_calm rfl (fun K hK => ?_)
  go_simp
  apply Exists.intro
  refine ⟨fun z => C1 z.1, hK _ ?_⟩
  clear hK K
  refine mg_calm rfl (fun K hK => ?_)
  go_simp
  apply Exists.intro
  refine ⟨fun z => calls_calm (CC z.1), hK _ ?_⟩
  clear hK K
  refine mg_calm rfl (fun K hK => ?_); go_simp; (refine hK _ ?_; clear hK K)
  refine mg_nil fun w7 hw7 => ?_
  have HB7 := Lib.hid (HB.out.trans (Below.mono hw7 HB.out.size))
  clear hw7 L0 L1 C0 C1 CC
  go_wp2_with fail
  go_ret
  exact ⟨rfl, HB7.out⟩
end Go.Proofs.Ytbllpjphlanchaa
