/-
  The law's fixed question: the walk.
-/
import Derived.Test.YtnlkanhakmkejaaAdd
namespace Go.Proofs.Ytnlkanhakmkejaa
open Go.RowKit Go.Mix Go.WideMaps Go.Proofs

theorem wpList_build_g {P : Program} {ops : Array Oper} {rest : List Oper} {o : Oper} {a : Act} {w : World} {Q : Exit → Act → World → Prop} (hw : Region.wanted o (yielded ops a.tmps) = true)
    (ty : TypeId) (ps : Array (Nat × Operand)) (hop : o.op = .build ty ps) (PS : List (Nat × Value)) (v : Value) (hx : (ps.toList.map fun p => (p.1, a.eval p.2)) = PS) (hl : (Instr.build ty PS.toArray).run P w = .ok v w)
    (h : wpList P ops Q rest (a.put o.dst v) w) : wpList P ops Q (o :: rest) a w := by
  unfold wpList
  rw [if_pos hw]
  refine .inl ?_
  unfold Oper.wp execOp
  simp only [hop, parts_map hx, Sem.run_bind, Sem.run_pure, Result.andThen_ok, hl]
  exact h

def idN (n : UInt8) : Id20 := ⟨n :: List.replicate 19 0, by simp⟩
theorem addL_k1 : addL [] (idN 1, idN 3) = [(idN 1, idN 3)] := by decide
theorem addE_k1 : addE [] (idN 1, idN 3) = 0 := by decide
theorem addE_k2 : addE [(idN 1, idN 3)] (idN 1, idN 2) = 9 := by decide
theorem hg_k : hgOf [(idN 1, idN 3)] (idN 1) = idN 3 := by decide
theorem has_k : hasHg [(idN 1, idN 3)] (idN 1) = true := by decide

set_option maxRecDepth 100000 in
set_option maxHeartbeats 2000000 in
theorem known_any (w : World) : Calls Try.prog 13 #[] w fun e w' => e = .returned (.bool true) ∧ Below w.heap.size w w' := by
  have b1 : ∀ w, (Instr.build 30 [(0, .int .u8 1)].toArray).run Try.prog w = .ok (.agg (idA (idN 1))) w := fun w => by kernel_rfl
  have b2 : ∀ w, (Instr.build 30 [(0, .int .u8 2)].toArray).run Try.prog w = .ok (.agg (idA (idN 2))) w := fun w => by kernel_rfl
  have b3 : ∀ w, (Instr.build 30 [(0, .int .u8 3)].toArray).run Try.prog w = .ok (.agg (idA (idN 3))) w := fun w => by kernel_rfl
  have p13 := tyG.build (idN 1) (idN 3)
  have p12 := tyG.build (idN 1) (idN 2)
  have C1 := add_any (PsAt.nil w) (.inl rfl) (by decide) (idN 1, idN 3)
  rw [addL_k1, addE_k1] at C1
  have E := eq_id_run arrG (idN 3) (idN 3)
  have ed : decide (idN 3 = idN 3) = true := decide_eq_true rfl
  rw [ed] at E
  have G := fun op a b => tyG.eqF.2 op a b (idN 3) (idN 3)
  simp only [] at G
  obtain ⟨Z, hZ⟩ : ∃ Z, Z = idA id0 := ⟨_, rfl⟩
  have z : ∀ w, (zeroValue 30).run Try.prog w = .ok (.agg Z) w := fun w => by rw [hZ]; kernel_rfl
  have hZ3 : Z.size = (idA (idN 3)).size := by rw [hZ]; simp [idA, idc_len]
  have HZ3 := Lib.hid hZ3
  have C2' : ∀ w2 v2, OwnP 32 w w2 v2 [(idN 1, idN 3)] → Calls Try.prog 9 #[v2, .agg (encA (idN 1, idN 2))] w2 (fun e w' => ∃ v, e = .returned (.tuple #[v, .int .i64 9]) ∧ Below w2.heap.size w2 w') := fun w2 v2 ho => by
    obtain ⟨a, c, rfl, hp, ha⟩ := ho.psA
    have := add_any hp ha (by decide) (idN 1, idN 2)
    rw [addE_k2] at this
    exact this.mono fun e w' ⟨v, he, h⟩ => ⟨v, he, h.frame⟩
  have C3' : ∀ w2 a c, PsAt w2 a c [(idN 1, idN 3)] → Calls Try.prog 11 #[.slice a 1 c, .agg (idA (idN 1))] w2 (fun e w' => e = .returned (.tuple #[.agg (idA (idN 3)), .bool true]) ∧ Below w2.heap.size w2 w') := fun w2 a c hp => by
    have := hg_any hp (idN 1)
    rw [hg_k, has_k] at this
    exact this
  have HC2 := Lib.hid C2'
  have HC3 := Lib.hid C3'
  have hone : (idA (idN 3)).all (·.oneCell') = true := all_oneCell_toArray (bcells_one _)
  have hi3 : (Try.prog.info? 30).map (·.size) = some (idA (idN 3)).size := by kernel_rfl
  have HI := Lib.hid (And.intro hone hi3)
  clear C2' C3' hZ hZ3 ed hone hi3
  generalize idN 1 = x1 at *
  generalize idN 2 = x2 at *
  generalize idN 3 = x3 at *
  go_enter Try.func13, Try.ntmps13
  go_wp2_with (first | (refine wpList_build_at rfl _ _ rfl [(0, .int .u8 1)] _ rfl (b1 _) ?_) | (refine wpList_build_at rfl _ _ rfl [(0, .int .u8 3)] _ rfl (b3 _) ?_) | (refine wpList_build_at rfl _ _ rfl [(0, .agg (idA x1)), (1, .agg (idA x3))] _ rfl (p13 _) ?_))
  refine C1.mono ?_
  rintro e w2 ⟨v2, rfl, ho2⟩
  have C2 := HC2.out w2 v2 ho2
  obtain ⟨a2, c2, rfl, hp2⟩ := ho2.ps
  have HP2 := Lib.hid hp2
  have HO2 := Lib.hid ho2
  clear C1 hp2 ho2
  go_wp2_with (first | (refine wpList_build_at rfl _ _ rfl [(0, .int .u8 1)] _ rfl (b1 _) ?_) | (refine wpList_build_at rfl _ _ rfl [(0, .int .u8 2)] _ rfl (b2 _) ?_) | (refine wpList_build_at rfl _ _ rfl [(0, .agg (idA x1)), (1, .agg (idA x2))] _ rfl (p12 _) ?_))
  refine C2.mono ?_
  rintro e w3 ⟨v3, rfl, hb3⟩
  have C3 := HC3.out w3 a2 c2 (HP2.out.below hb3)
  have HB3 := Lib.hid (HO2.out.frame.trans (hb3.mono HO2.out.frame.size))
  clear C2 hb3
  go_wp2_with (first | (refine wpList_build_at rfl _ _ rfl [(0, .int .u8 1)] _ rfl (b1 _) ?_))
  refine C3.mono ?_
  rintro e w4 ⟨rfl, hb4⟩
  have HB4 := Lib.hid (HB3.out.trans (hb4.mono HB3.out.size))
  clear C3 hb4
  have hb : (w4.alloc (.cells Z 30)).heap[w4.heap.size]? = some (.cells Z 30 (0, 0)) := heap_alloc_last _ _ _ rfl
  have L : (Instr.loadAt 30 (.pointer (some ⟨w4.heap.size, 0, none⟩))).run Try.prog ((w4.alloc (.cells Z 30)).setRow w4.heap.size (idA x3)) = .ok (.agg (idA x3)) ((w4.alloc (.cells Z 30)).setRow w4.heap.size (idA x3)) := by
    simp only [Instr.loadAt, Instr.sureAddr, Sem.run_bind, Sem.run_pure, Result.andThen_ok]
    exact run_loadVar_row _ _ 30 _ _ (0, 0) _ (setRow_heap _ _ _ _ _ _ hb) Try.underlying30 rfl HI.out.2
  go_wp2_with (first | (refine wpList_build_g rfl _ _ rfl [(0, .int .u8 3)] _ rfl (b3 _) ?_) | (refine wpList_store_row rfl 30 _ _ rfl w4.heap.size (idA x3) rfl rfl 30 Z hb HI.out.2 HZ3.out HI.out.1 ?_) | (refine wpList_load_g rfl _ _ rfl _ _ rfl L ?_))
  go_ret
  exact ⟨rfl, below_setRow (HB4.out.alloc HB4.out.size _) HB4.out.size _⟩
end Go.Proofs.Ytnlkanhakmkejaa
