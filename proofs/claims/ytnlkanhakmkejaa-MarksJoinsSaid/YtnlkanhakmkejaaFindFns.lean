/-
  The small functions that Hg and Git hand on.
-/
import Derived.Test.YtnlkanhakmkejaaFewP
import Derived.Test.YtnlkanhakmkejaaShelfG
namespace Go.Proofs.Ytnlkanhakmkejaa
open Go.RowKit Go.Mix Go.WideMaps Go.Proofs

theorem below_setRow {B : Nat} {a w : World} (h : Below B a w) {g : Nat} (hg : B ≤ g) (cs : Array Value) : Below B a (w.setRow g cs) :=
  ⟨h.os, h.tape, h.output, by rw [setRow_size]; exact h.size, fun k hk => by rw [setRow_other w g k cs (by omega)]; exact h.block k hk⟩
theorem range_box (w : World) (C : List Value) (t : TypeId) : (w.alloc (.cells C.toArray t)).rangeAt w.heap.size 0 C := fun j v hj => by
  have hb : (w.alloc (.cells C.toArray t)).heap[w.heap.size]? = some (.cells C.toArray t (0, 0)) := heap_alloc_last w _ _ rfl
  rw [cell_of_row _ _ _ _ _ _ hb, Nat.zero_add]
  simpa using hj

theorem results_cell_tmp {P : Program} {fn : Func} {p t : Tmp} {ty : TypeId} (h : fn.results = #[.cell p ty, .tmp t]) (tmps : Array Value) (w : World) (g : Nat) (te : TypeId) (cs : Array Value) (fr : Nat × Nat) (d : TypeDesc)
    (hp : tmps.getD p undef = .pointer (some ⟨g, 0, none⟩)) (hg : w.heap[g]? = some (.cells cs te fr))
    (hu : P.underlying ty = some d) (hd : (match d with | .struct _ | .array _ _ => true | _ => false) = true) (hi : (P.info? ty).map (·.size) = some cs.size) :
    (results fn tmps).run P w = .ok (.tuple #[.agg cs, tmps.getD t undef]) w := by
  have hp' : tmps[p]?.getD undef = .pointer (some ⟨g, 0, none⟩) := by simpa using hp
  simp [results, h, hp', asAddr, run_loadVar_row w g te ty cs fr d hg hu hd hi]

theorem enters24 : ∀ args w, (callFunc 24 args).run Try.prog w = .ok (.enter 24 args) w := enters_of Try.func24 (by kernel_rfl) rfl

set_option maxRecDepth 100000 in
set_option maxHeartbeats 1000000 in
/-- Hg's test: is the pair's commit the one that the box at B holds? -/
theorem hgTest_any {B : Nat} {x : Id20} {w : World} (hc : w.rangeAt B 0 (idc x)) :
    PredBelow Try.prog 24 #[.pointer (some ⟨B, 0, none⟩)] (fun p => .agg (enc p).toArray) (fun p => decide (p.1 = x)) w := fun W p hb => by
  have hcW := range_below hc hb
  show Calls Try.prog 24 #[.agg (encA p), .pointer (some ⟨B, 0, none⟩)] W _
  have hb1 : Below w.heap.size w (W.alloc (.cells (encA p) 32)) := hb.alloc hb.size _
  have hr := rangeAt_enc.1 (range_box W (enc p) 32)
  have L1 := tyG.loadId p.1 _ _ _ hr.1
  have L2 := tyG.loadId x _ _ _ (range_below hc hb1)
  have E := eq_id_run arrG p.1 x
  have G := fun op a b => tyG.eqF.2 op a b p.1 x
  simp only [] at G
  change Sem.run _ _ (W.alloc (.cells (encA p) 32)) = _ at L1
  have HB := Lib.hid hb1
  clear hb1 hr hcW hb hc
  go_enter Try.func24, Try.ntmps24
  go_wp2_with (first | (refine wpList_load_at rfl _ _ rfl _ _ rfl L1 ?_) | (refine wpList_load_at rfl _ _ rfl _ _ rfl L2 ?_))
  go_ret
  exact ⟨rfl, HB.out⟩
theorem enters26 : ∀ args w, (callFunc 26 args).run Try.prog w = .ok (.enter 26 args) w := enters_of Try.func26 (by kernel_rfl) rfl

set_option maxRecDepth 100000 in
set_option maxHeartbeats 1000000 in
/-- Git's test: is the pair's change the one that the box at B holds? -/
theorem gitTest_any {B : Nat} {x : Id20} {w : World} (hc : w.rangeAt B 0 (idc x)) :
    PredBelow Try.prog 26 #[.pointer (some ⟨B, 0, none⟩)] (fun p => .agg (enc p).toArray) (fun p => decide (p.2 = x)) w := fun W p hb => by
  have hcW := range_below hc hb
  show Calls Try.prog 26 #[.agg (encA p), .pointer (some ⟨B, 0, none⟩)] W _
  have hb1 : Below w.heap.size w (W.alloc (.cells (encA p) 32)) := hb.alloc hb.size _
  have hr := rangeAt_enc.1 (range_box W (enc p) 32)
  have L1 := tyG.loadId p.2 _ _ _ hr.2
  have L2 := tyG.loadId x _ _ _ (range_below hc hb1)
  have E := eq_id_run arrG p.2 x
  have G := fun op a b => tyG.eqF.2 op a b p.2 x
  simp only [] at G
  change Sem.run _ _ (W.alloc (.cells (encA p) 32)) = _ at L1
  have HB := Lib.hid hb1
  clear hb1 hr hcW hb hc
  go_enter Try.func26, Try.ntmps26
  go_wp2_with (first | (refine wpList_load_at rfl _ _ rfl _ _ rfl L1 ?_) | (refine wpList_load_at rfl _ _ rfl _ _ rfl L2 ?_))
  go_ret
  exact ⟨rfl, HB.out⟩

set_option maxRecDepth 100000 in
set_option maxHeartbeats 1000000 in
/-- What Hg tells of a pair. -/
theorem hgTells_any (p : Pr) (W : World) : Calls Try.prog 25 #[.agg (encA p)] W fun e w' => e = .returned (.agg (idA p.2)) ∧ Below W.heap.size W w' := by
  have hr := rangeAt_enc.1 (range_box W (enc p) 32)
  obtain ⟨Z, hZ⟩ : ∃ Z, Z = idA id0 := ⟨_, rfl⟩
  have hA : Below W.heap.size W ((W.alloc (.cells (encA p) 32)).alloc (.cells Z 30)) := ((Below.refl _ _).alloc (Nat.le_refl _) _).alloc (by simp) _
  have L1 : (Instr.loadAt 30 (.pointer (some ⟨W.heap.size, 20, none⟩))).run Try.prog ((W.alloc (.cells (encA p) 32)).alloc (.cells Z 30)) = _ := tyG.loadId p.2 _ _ _ (range_below hr.2 ((Below.refl _ _).alloc (Nat.le_refl _) (.cells Z 30)))
  have z : ∀ w, (zeroValue 30).run Try.prog w = .ok (.agg Z) w := fun w => by rw [hZ]; kernel_rfl
  have hs : (W.alloc (.cells (encA p) 32)).heap.size = W.heap.size + 1 := by simp
  have hb : ((W.alloc (.cells (encA p) 32)).alloc (.cells Z 30)).heap[W.heap.size + 1]? = some (.cells Z 30 (0, 0)) := heap_alloc_last _ _ _ hs.symm
  have hZs : Z.size = 20 := by rw [hZ]; simp [idA, idc_len]
  have HZ := Lib.hid hZs
  have HA := Lib.hid hA
  clear hr hZ hA
  go_enter Try.func25, Try.ntmps25
  go_wp2_with (first | (refine wpList_load_at rfl _ _ rfl _ _ rfl L1 ?_) | (refine wpList_store_row rfl 30 _ _ rfl (W.heap.size + 1) (idA p.2) rfl rfl 30 Z hb (by rw [show (idA p.2).size = 20 by simp [idA, idc_len]]; exact tyG.fi) (by rw [HZ.out]; simp [idA, idc_len]) (all_oneCell_toArray (bcells_one _)) ?_))
  refine bodyPost_ret (results_cell_row rfl _ _ (W.heap.size + 1) 30 (idA p.2) (0, 0) _ rfl (setRow_heap _ _ _ _ _ _ hb) Try.underlying30 rfl (by rw [show (idA p.2).size = 20 by simp [idA, idc_len]]; exact tyG.fi)) rfl ?_
  exact ⟨rfl, below_setRow HA.out (by omega) _⟩
set_option maxRecDepth 100000 in
set_option maxHeartbeats 1000000 in
/-- What Git tells of a pair. -/
theorem gitTells_any (p : Pr) (W : World) : Calls Try.prog 27 #[.agg (encA p)] W fun e w' => e = .returned (.agg (idA p.1)) ∧ Below W.heap.size W w' := by
  have hr := rangeAt_enc.1 (range_box W (enc p) 32)
  obtain ⟨Z, hZ⟩ : ∃ Z, Z = idA id0 := ⟨_, rfl⟩
  have hA : Below W.heap.size W ((W.alloc (.cells (encA p) 32)).alloc (.cells Z 30)) := ((Below.refl _ _).alloc (Nat.le_refl _) _).alloc (by simp) _
  have L1 : (Instr.loadAt 30 (.pointer (some ⟨W.heap.size, 0, none⟩))).run Try.prog ((W.alloc (.cells (encA p) 32)).alloc (.cells Z 30)) = _ := tyG.loadId p.1 _ _ _ (range_below hr.1 ((Below.refl _ _).alloc (Nat.le_refl _) (.cells Z 30)))
  have z : ∀ w, (zeroValue 30).run Try.prog w = .ok (.agg Z) w := fun w => by rw [hZ]; kernel_rfl
  have hs : (W.alloc (.cells (encA p) 32)).heap.size = W.heap.size + 1 := by simp
  have hb : ((W.alloc (.cells (encA p) 32)).alloc (.cells Z 30)).heap[W.heap.size + 1]? = some (.cells Z 30 (0, 0)) := heap_alloc_last _ _ _ hs.symm
  have hZs : Z.size = 20 := by rw [hZ]; simp [idA, idc_len]
  have HZ := Lib.hid hZs
  have HA := Lib.hid hA
  clear hr hZ hA
  go_enter Try.func27, Try.ntmps27
  go_wp2_with (first | (refine wpList_load_at rfl _ _ rfl _ _ rfl L1 ?_) | (refine wpList_store_row rfl 30 _ _ rfl (W.heap.size + 1) (idA p.1) rfl rfl 30 Z hb (by rw [show (idA p.1).size = 20 by simp [idA, idc_len]]; exact tyG.fi) (by rw [HZ.out]; simp [idA, idc_len]) (all_oneCell_toArray (bcells_one _)) ?_))
  refine bodyPost_ret (results_cell_row rfl _ _ (W.heap.size + 1) 30 (idA p.1) (0, 0) _ rfl (setRow_heap _ _ _ _ _ _ hb) Try.underlying30 rfl (by rw [show (idA p.1).size = 20 by simp [idA, idc_len]]; exact tyG.fi)) rfl ?_
  exact ⟨rfl, below_setRow HA.out (by omega) _⟩
end Go.Proofs.Ytnlkanhakmkejaa
