/-
  The law MarksFinds: the walk.
-/
import Derived.Test.YtnlkanhakmkejaaFindsLast
namespace Go.Proofs.Ytnlkanhakmkejaa
open Go.RowKit Go.Mix Go.WideMaps Go.Proofs

/-- The place of the first one from j on, or -1. -/
def firstAt (p : Pr → Bool) (l : List Pr) (j : Nat) : Int := Go.Lib.idxByFrom (fun _ y => p y) default (l.drop j) j
theorem firstAt_end (p : Pr → Bool) (l : List Pr) : firstAt p l l.length = -1 := by unfold firstAt; rw [List.drop_of_length_le (Nat.le_refl _)]; rfl
theorem firstAt_step (p : Pr → Bool) {l : List Pr} {j : Nat} (hj : j < l.length) : firstAt p l j = if p l[j]! = true then (j : Int) else firstAt p l (j + 1) := by
  unfold firstAt
  rw [List.drop_eq_getElem_cons hj, getElem!_pos l j hj]
  rfl
theorem firstAt_zero (p : Pr → Bool) (l : List Pr) : firstAt p l 0 = idxP p l := by unfold firstAt idxP Go.Lib.idxBy; rw [List.drop_zero]

theorem loadId_block {t f e : TypeId} (T : PairTy t e f) {w : World} {B : Nat} {x : Id20} {te : TypeId} {fr : Nat × Nat} (h : w.heap[B]? = some (.cells (idA x) te fr)) :
    (Instr.loadAt f (.pointer (some ⟨B, 0, none⟩))).run Try.prog w = .ok (.agg (idA x)) w := by
  simp only [Instr.loadAt, Instr.sureAddr, Sem.run_bind, Sem.run_pure, Result.andThen_ok]
  exact run_loadVar_row _ _ te f _ fr _ h T.hf.hu rfl (by rw [show (idA x).size = 20 by simp [idA, idc_len]]; exact T.fi)
theorem idA_one (x : Id20) : (idA x).all (·.oneCell') = true := all_oneCell_toArray (bcells_one _)
theorem idA_size (x : Id20) : (idA x).size = 20 := by simp [idA, idc_len]

theorem finds_ret {R : Ending → World → Prop} {a : Act} {w : World} (h4 : a.tmps[4]? = some (.bool true)) (h5 : a.defers = []) (h : R (.returned (.bool true)) w) : bodyPost Try.prog Try.f4 R .ret a w := by
  refine ⟨h5, .bool true, ?_, h⟩
  simp [results, h4]
theorem Code.wp_eq {P : Program} {c c' : Code} {Q : Exit → Act → World → Prop} {a : Act} {w : World} (h : c = c') (h2 : Code.wp P c' Q a w) : Code.wp P c Q a w := h ▸ h2

set_option maxRecDepth 100000 in
set_option maxHeartbeats 4000000 in
theorem marksFinds_at {w : World} {l : List Pr} {a : Option Addr} {cap : Nat} (hg : PsAt w a cap l) (x : Id20) :
    Calls Try.prog 4 #[.slice a l.length cap, .agg (idA x)] w fun e w' => e = .returned (.bool true) ∧ Below w.heap.size w w' := by
  have hA : Below w.heap.size w (w.alloc (.cells (idA x) 30)) := (Below.refl _ _).alloc (Nat.le_refl _) _
  have hb0 : (w.alloc (.cells (idA x) 30)).heap[w.heap.size]? = some (.cells (idA x) 30 (0, 0)) := heap_alloc_last _ _ _ rfl
  have CF := few_any (hg.below hA)
  have HA := Lib.hid hA
  obtain ⟨m, hm⟩ : ∃ m, m = l.take 40 := ⟨_, rfl⟩
  have hm40 : m.length ≤ 40 := by rw [hm, List.length_take]; omega
  have HM := Lib.hid hm40
  rw [← hm] at CF
  generalize l.length = n0 at *
  clear hA hm hm40 hg
  obtain ⟨Z, hZ⟩ : ∃ Z, Z = idA id0 := ⟨_, rfl⟩
  have z : ∀ w, (zeroValue 30).run Try.prog w = .ok (.agg Z) w := fun w => by rw [hZ]; kernel_rfl
  have HZ := Lib.hid hZ
  clear hZ
  have G := fun op a b p q => tyG.eqF.2 op a b p q
  simp only [] at G
  go_enter Try.func4, Try.ntmps4
  go_wp2_with fail
  refine CF.mono ?_
  rintro e w2 ⟨v, rfl, ho⟩
  have hb2 := block_below hb0 ho.frame
  have HB := Lib.hid (HA.out.trans (ho.frame.mono (by simp)))
  obtain ⟨am, cm, rfl, hps⟩ := ho.ps
  have HO := Lib.hid ho
  have HPS := Lib.hid hps
  have HB2 := Lib.hid hb2
  obtain ⟨n, hn⟩ : ∃ n, n = m.length := ⟨_, rfl⟩
  have HN := Lib.hid hn
  have hn40 : n ≤ 40 := by rw [hn]; exact HM.out
  rw [← hn]
  clear CF hb0 ho hps hb2 hn
  go_wp2_with fail
  go_loopw [6, 7, 8] (fun s6 s7 s8 wr => ∃ j : Nat, j ≤ n ∧ s6 = .int .i64 (firstAt (fun p => decide (p.1 = x)) m j) ∧ s7 = .int .i64 (firstAt (fun p => decide (p.2 = x)) m j) ∧ s8 = .int .i64 ((j : Int) - 1) ∧ Below w2.heap.size w2 wr) (fun _ _ s8 _ => (intOf s8 + 1).toNat)
  case atStart => exact ⟨n, Nat.le_refl _, by rw [HN.out, firstAt_end], by rw [HN.out, firstAt_end], rfl, Below.refl _ _⟩
  case round =>
    obtain ⟨j, hj, rfl, rfl, rfl, hbr⟩ := hrel
    by_cases hj0 : j = 0
    · subst hj0
      have e1 : ((0 : Nat) : Int) - 1 = -1 := rfl
      rw [e1, firstAt_zero, firstAt_zero]
      have L3 := loadId_block tyG (block_below HB2.out hbr)
      have C5 := hg_any (HPS.out.below hbr) x
      have I1 := idx_find (fun p => decide (p.1 = x)) m
      have I2 := idx_find (fun p => decide (p.2 = x)) m
      rw [← HN.out] at C5
      have HI := Lib.hid (And.intro I1 I2)
      have HBR := Lib.hid hbr
      clear I1 I2 hbr
      generalize idxP (fun p => decide (p.1 = x)) m = g1 at *
      generalize idxP (fun p => decide (p.2 = x)) m = g2 at *
      obtain ⟨hh, hhh⟩ : ∃ h, h = hgOf m x := ⟨_, rfl⟩
      obtain ⟨hb, hhb⟩ : ∃ h, h = hasHg m x := ⟨_, rfl⟩
      rw [← hhh, ← hhb] at C5
      have HH := Lib.hid (And.intro hhh hhb)
      clear hhh hhb
      go_wp2_with (refine wpList_load_at rfl _ _ rfl _ _ rfl L3 ?_)
      refine C5.mono ?_
      rintro e w5 ⟨rfl, hb5⟩
      have hz5 : (w5.alloc (.cells Z 30)).heap[w5.heap.size]? = some (.cells Z 30 (0, 0)) := heap_alloc_last _ _ _ rfl
      have hbw6 : Below w5.heap.size w5 ((w5.alloc (.cells Z 30)).setRow w5.heap.size (idA hh)) := below_setRow ((Below.refl _ _).alloc (Nat.le_refl _) _) (Nat.le_refl _) _
      have hk6 : ((w5.alloc (.cells Z 30)).setRow w5.heap.size (idA hh)).heap[w5.heap.size]? = some (.cells (idA hh) 30 (0, 0)) := setRow_heap _ _ _ _ _ _ hz5
      have HB6 := Lib.hid (HBR.out.trans ((Below.trans hb5 (hbw6.mono hb5.size)).mono HBR.out.size))
      have zs : Z.size = (idA hh).size := by rw [HZ.out, idA_size, idA_size]
      have zi : (Try.prog.info? 30).map (·.size) = some (idA hh).size := by rw [idA_size]; exact tyG.fi
      have z1 := idA_one hh
      have HK6 := Lib.hid hk6
      clear C5 L3 hb5 hbw6 hk6
      go_upto_region 11 with (refine wpList_store_row rfl 30 _ _ rfl w5.heap.size (idA hh) rfl rfl 30 Z hz5 zi zs z1 ?_)
      have hk6 := HK6.out
      have hb6 := HB6.out
      clear HK6 HB6 zs zi z1 hz5
      generalize (w5.alloc (.cells Z 30)).setRow w5.heap.size (idA hh) = w6 at *
      have L3 := loadId_block tyG (block_below HB2.out hb6)
      have C6 := git_any (HPS.out.below hb6) x
      rw [← HN.out] at C6
      have HB6 := Lib.hid hb6
      have HK6 := Lib.hid hk6
      obtain ⟨gg, hgg⟩ : ∃ h, h = gitOf m x := ⟨_, rfl⟩
      obtain ⟨gb, hgb⟩ : ∃ h, h = hasGit m x := ⟨_, rfl⟩
      rw [← hgg, ← hgb] at C6
      have HG := Lib.hid (And.intro hgg hgb)
      clear hgg hgb hb6 hk6
      go_wp2_with (refine wpList_load_at rfl _ _ rfl _ _ rfl L3 ?_)
      refine C6.mono ?_
      rintro e w7 ⟨rfl, hb7⟩
      have hz7 : (w7.alloc (.cells Z 30)).heap[w7.heap.size]? = some (.cells Z 30 (0, 0)) := heap_alloc_last _ _ _ rfl
      have hbw8 : Below w7.heap.size w7 ((w7.alloc (.cells Z 30)).setRow w7.heap.size (idA gg)) := below_setRow ((Below.refl _ _).alloc (Nat.le_refl _) _) (Nat.le_refl _) _
      have hk8 : ((w7.alloc (.cells Z 30)).setRow w7.heap.size (idA gg)).heap[w7.heap.size]? = some (.cells (idA gg) 30 (0, 0)) := setRow_heap _ _ _ _ _ _ hz7
      have hb68 : Below w6.heap.size w6 ((w7.alloc (.cells Z 30)).setRow w7.heap.size (idA gg)) := Below.trans hb7 (hbw8.mono hb7.size)
      have HB8 := Lib.hid (HB6.out.trans (hb68.mono HB6.out.size))
      have HK9 := Lib.hid (block_below HK6.out hb68)
      have zs : Z.size = (idA gg).size := by rw [HZ.out, idA_size, idA_size]
      have zi : (Try.prog.info? 30).map (·.size) = some (idA gg).size := by rw [idA_size]; exact tyG.fi
      have z1 := idA_one gg
      have HK8 := Lib.hid hk8
      clear C6 L3 hb7 hbw8 hk8 hb68
      go_upto_region 12 with (refine wpList_store_row rfl 30 _ _ rfl w7.heap.size (idA gg) rfl rfl 30 Z hz7 zi zs z1 ?_)
      have hk8 := HK8.out
      have hk9 := HK9.out
      have hb8 := HB8.out
      clear HK8 HK9 HB8 zs zi z1 hz7
      generalize (w7.alloc (.cells Z 30)).setRow w7.heap.size (idA gg) = w8 at *
      have HB8 := Lib.hid hb8
      have L9 : ∀ y : Later w8, (Instr.loadAt 30 (.pointer (some ⟨w5.heap.size, 0, none⟩))).run Try.prog y.1 = .ok (.agg (idA hh)) y.1 := fun y => loadId_block tyG (block_below hk9 y.2)
      have L11 : ∀ y : Later w8, (Instr.loadAt 30 (.pointer (some ⟨w7.heap.size, 0, none⟩))).run Try.prog y.1 = .ok (.agg (idA gg)) y.1 := fun y => loadId_block tyG (block_below hk8 y.2)
      have hps8 := HPS.out.below hb8
      clear hk8 hk9 hb8
      rcases HI.out.1 with ⟨fa, rfl⟩ | ⟨k1, hk1, rfl, fa⟩ <;> rcases HI.out.2 with ⟨fb, rfl⟩ | ⟨k2, hk2, rfl, fb⟩
      · have ea : hgOf m x = id0 := by unfold hgOf found; rw [fa]
        have ba : hasHg m x = false := by unfold hasHg isFound; rw [fa]; rfl
        have eb : gitOf m x = id0 := by unfold gitOf found; rw [fb]
        have bb : hasGit m x = false := by unfold hasGit isFound; rw [fb]; rfl
        rw [← HH.out.1] at ea
        rw [← HH.out.2] at ba
        rw [← HG.out.1] at eb
        rw [← HG.out.2] at bb
        subst ba bb
        refine Code.wp_eq (by kernel_rfl : _ = finds12) ?_
        refine finds_00 L9 L11 ea eb _ _ _ _ _ _ _ _ _ _ _ _ _ _ _ _ _ _ _ _ _ _ _ _ _ _ _ _ _ _ _ _ _ _ _ _ _ _ _ _ _ _ _ _ _ _ _ _ _ _ _ _ _ _ _ _ _ _ _ _ _ _ _ _ _ _ _ _ _ _ _ _ _ _ _ _ _ _ _ _ _ _ _ _ _ _ _ _ _ _ _ _ _ _ _ _ _ _ _ _ ?_
        intro a9 w9 hw9 h4 h5
        have HB9 := Lib.hid (HB8.out.trans (Below.mono hw9 HB8.out.size))
        refine ‹∀ (a : Act) (w : World), Code.wp Try.prog _ _ a w → _› _ _ ?_
        refine wp_ret ?_
        exact finds_ret h4 h5 ⟨rfl, HB.out.trans (HB9.out.mono HB.out.size)⟩
      · have ea : hgOf m x = id0 := by unfold hgOf found; rw [fa]
        have ba : hasHg m x = false := by unfold hasHg isFound; rw [fa]; rfl
        have eb : gitOf m x = m[k2]!.1 := by unfold gitOf found; rw [fb]
        have bb : hasGit m x = true := by unfold hasGit isFound; rw [fb]; rfl
        rw [← HH.out.1] at ea
        rw [← HH.out.2] at ba
        rw [← HG.out.1] at eb
        rw [← HG.out.2] at bb
        obtain ⟨b2, q2, IX2, -, K2, -⟩ := hps8.at tyG (k2 : Int) k2 rfl hk2
        rw [← HN.out] at IX2
        rw [← eb] at K2
        have LK2 : ∀ y : Later w8, (Instr.loadAt 30 (.pointer (some ⟨b2, q2, none⟩))).run Try.prog y.1 = .ok (.agg (idA gg)) y.1 := fun y => K2 y.1 y.2
        subst ba bb
        refine Code.wp_eq (by kernel_rfl : _ = finds12) ?_
        refine finds_01 L9 L11 ea IX2 LK2 _ _ _ _ _ _ _ _ _ _ _ _ _ _ _ _ _ _ _ _ _ _ _ _ _ _ _ _ _ _ _ _ _ _ _ _ _ _ _ _ _ _ _ _ _ _ _ _ _ _ _ _ _ _ _ _ _ _ _ _ _ _ _ _ _ _ _ _ _ _ _ _ _ _ _ _ _ _ _ _ _ _ _ _ _ _ _ _ _ _ _ _ _ _ _ _ _ _ _ _ ?_
        intro a9 w9 hw9 h4 h5
        have HB9 := Lib.hid (HB8.out.trans (Below.mono hw9 HB8.out.size))
        refine ‹∀ (a : Act) (w : World), Code.wp Try.prog _ _ a w → _› _ _ ?_
        refine wp_ret ?_
        exact finds_ret h4 h5 ⟨rfl, HB.out.trans (HB9.out.mono HB.out.size)⟩
      · have ea : hgOf m x = m[k1]!.2 := by unfold hgOf found; rw [fa]
        have ba : hasHg m x = true := by unfold hasHg isFound; rw [fa]; rfl
        have eb : gitOf m x = id0 := by unfold gitOf found; rw [fb]
        have bb : hasGit m x = false := by unfold hasGit isFound; rw [fb]; rfl
        rw [← HH.out.1] at ea
        rw [← HH.out.2] at ba
        rw [← HG.out.1] at eb
        rw [← HG.out.2] at bb
        obtain ⟨b1, q1, IX1, -, -, K1⟩ := hps8.at tyG (k1 : Int) k1 rfl hk1
        rw [← HN.out] at IX1
        rw [← ea] at K1
        have LK1 : ∀ y : Later w8, (Instr.loadAt 30 (.pointer (some ⟨b1, q1 + 20, none⟩))).run Try.prog y.1 = .ok (.agg (idA hh)) y.1 := fun y => K1 y.1 y.2
        subst ba bb
        refine Code.wp_eq (by kernel_rfl : _ = finds12) ?_
        refine finds_10 L9 L11 IX1 LK1 eb _ _ _ _ _ _ _ _ _ _ _ _ _ _ _ _ _ _ _ _ _ _ _ _ _ _ _ _ _ _ _ _ _ _ _ _ _ _ _ _ _ _ _ _ _ _ _ _ _ _ _ _ _ _ _ _ _ _ _ _ _ _ _ _ _ _ _ _ _ _ _ _ _ _ _ _ _ _ _ _ _ _ _ _ _ _ _ _ _ _ _ _ _ _ _ _ _ _ _ _ ?_
        intro a9 w9 hw9 h4 h5
        have HB9 := Lib.hid (HB8.out.trans (Below.mono hw9 HB8.out.size))
        refine ‹∀ (a : Act) (w : World), Code.wp Try.prog _ _ a w → _› _ _ ?_
        refine wp_ret ?_
        exact finds_ret h4 h5 ⟨rfl, HB.out.trans (HB9.out.mono HB.out.size)⟩
      · have ea : hgOf m x = m[k1]!.2 := by unfold hgOf found; rw [fa]
        have ba : hasHg m x = true := by unfold hasHg isFound; rw [fa]; rfl
        have eb : gitOf m x = m[k2]!.1 := by unfold gitOf found; rw [fb]
        have bb : hasGit m x = true := by unfold hasGit isFound; rw [fb]; rfl
        rw [← HH.out.1] at ea
        rw [← HH.out.2] at ba
        rw [← HG.out.1] at eb
        rw [← HG.out.2] at bb
        obtain ⟨b1, q1, IX1, -, -, K1⟩ := hps8.at tyG (k1 : Int) k1 rfl hk1
        rw [← HN.out] at IX1
        rw [← ea] at K1
        have LK1 : ∀ y : Later w8, (Instr.loadAt 30 (.pointer (some ⟨b1, q1 + 20, none⟩))).run Try.prog y.1 = .ok (.agg (idA hh)) y.1 := fun y => K1 y.1 y.2
        obtain ⟨b2, q2, IX2, -, K2, -⟩ := hps8.at tyG (k2 : Int) k2 rfl hk2
        rw [← HN.out] at IX2
        rw [← eb] at K2
        have LK2 : ∀ y : Later w8, (Instr.loadAt 30 (.pointer (some ⟨b2, q2, none⟩))).run Try.prog y.1 = .ok (.agg (idA gg)) y.1 := fun y => K2 y.1 y.2
        subst ba bb
        refine Code.wp_eq (by kernel_rfl : _ = finds12) ?_
        refine finds_11 L9 L11 IX1 LK1 IX2 LK2 _ _ _ _ _ _ _ _ _ _ _ _ _ _ _ _ _ _ _ _ _ _ _ _ _ _ _ _ _ _ _ _ _ _ _ _ _ _ _ _ _ _ _ _ _ _ _ _ _ _ _ _ _ _ _ _ _ _ _ _ _ _ _ _ _ _ _ _ _ _ _ _ _ _ _ _ _ _ _ _ _ _ _ _ _ _ _ _ _ _ _ _ _ _ _ _ _ _ _ _ ?_
        intro a9 w9 hw9 h4 h5
        have HB9 := Lib.hid (HB8.out.trans (Below.mono hw9 HB8.out.size))
        refine ‹∀ (a : Act) (w : World), Code.wp Try.prog _ _ a w → _› _ _ ?_
        refine wp_ret ?_
        exact finds_ret h4 h5 ⟨rfl, HB.out.trans (HB9.out.mono HB.out.size)⟩
    · obtain ⟨i, rfl⟩ : ∃ i, j = i + 1 := ⟨j - 1, by omega⟩
      have e1 : ((i + 1 : Nat) : Int) - 1 = (i : Int) := by omega
      rw [e1]
      have t1 : decide ((i : Int) ≥ 0) = true := decide_eq_true (by omega)
      have t1' : decide (0 ≤ (i : Int)) = true := decide_eq_true (by omega)
      have him : i < m.length := by rw [← HN.out]; omega
      have s1 := firstAt_step (fun p => decide (p.1 = x)) him
      have s2 := firstAt_step (fun p => decide (p.2 = x)) him
      obtain ⟨b, q, IX, -, L0, L1⟩ := (HPS.out.below hbr).at tyG (i : Int) i rfl him
      rw [← HN.out] at IX
      have L0' : ∀ y : Later wr, (Instr.loadAt 30 (.pointer (some ⟨b, q, none⟩))).run Try.prog y.1 = .ok (.agg (idA m[i]!.1)) y.1 := fun y => L0 y.1 y.2
      have LX : ∀ y : Later wr, (Instr.loadAt 30 (.pointer (some ⟨w.heap.size, 0, none⟩))).run Try.prog y.1 = .ok (.agg (idA x)) y.1 := fun y => loadId_block tyG (block_below (block_below HB2.out hbr) y.2)
      have HL1 := Lib.hid L1
      have HBR := Lib.hid hbr
      have HLX := Lib.hid LX
      obtain ⟨d1, hd1⟩ : ∃ d, d = decide (m[i]!.1 = x) := ⟨_, rfl⟩
      obtain ⟨d2, hd2⟩ : ∃ d, d = decide (m[i]!.2 = x) := ⟨_, rfl⟩
      have E1 := eq_id_run arrG m[i]!.1 x
      have E2 := eq_id_run arrG m[i]!.2 x
      rw [← hd1] at E1
      rw [← hd2] at E2
      simp only [← hd1] at s1
      simp only [← hd2] at s2
      have S1 := Lib.hid s1
      have S2 := Lib.hid s2
      clear s1 s2 L0 L1 hd1 hd2 hbr
      generalize firstAt (fun p => decide (p.1 = x)) m (i + 1) = f1 at *
      generalize firstAt (fun p => decide (p.2 = x)) m (i + 1) = f2 at *
      generalize m[i]! = pr at *
      obtain ⟨p1, p2⟩ := pr
      simp only [] at L0' E1 E2
      go_upto_region 6 with (fail)
      refine wp_region_mix [(0, 0), (1, 0), (2, 0), (3, 0), (4, 0), (5, 0), (6, 0)] (by kernel_rfl) (by kernel_rfl) ?_
      iterate 7 (first | (refine mix_load rfl rfl _ _ rfl _ _ rfl L0' ?_) | (refine mix_load rfl rfl _ _ rfl _ _ rfl LX ?_) | (refine mix_calm rfl (fun K hK => ?_); go_simp; (refine hK _ ?_; clear hK K)))
      refine mix_nil fun w6 hw6 => ?_
      have L1' : ∀ y : Later w6, (Instr.loadAt 30 (.pointer (some ⟨b, q + 20, none⟩))).run Try.prog y.1 = .ok (.agg (idA p2)) y.1 := fun y => HL1.out y.1 (hw6.trans y.2)
      have LX2 : ∀ y : Later w6, (Instr.loadAt 30 (.pointer (some ⟨w.heap.size, 0, none⟩))).run Try.prog y.1 = .ok (.agg (idA x)) y.1 := fun y => HLX.out ⟨y.1, hw6.trans y.2⟩
      have HB6 := Lib.hid (HBR.out.trans (hw6.mono HBR.out.size))
      clear L0' LX hw6
      cases d1
      · go_upto_region 8 with (fail)
        refine wp_region_mix [(0, 0), (1, 0), (2, 0), (3, 0), (4, 0), (5, 0), (6, 0)] (by kernel_rfl) (by kernel_rfl) ?_
        iterate 7 (first | (refine mix_load rfl rfl _ _ rfl _ _ rfl L1' ?_) | (refine mix_load rfl rfl _ _ rfl _ _ rfl LX2 ?_) | (refine mix_calm rfl (fun K hK => ?_); go_simp; (refine hK _ ?_; clear hK K)))
        refine mix_nil fun w7 hw7 => ?_
        have HB7 := Lib.hid (HB6.out.trans (Below.mono hw7 HB6.out.size))
        clear L1' LX2 hw7
        cases d2
        · go_wp2_with fail
          go_roundw
          case rel => exact ⟨i, by omega, by rw [S1.out]; rfl, by rw [S2.out]; rfl, by go_num, HB7.out⟩
          case measure => simp [intOf]
        · go_wp2_with fail
          go_roundw
          case rel => exact ⟨i, by omega, by rw [S1.out]; rfl, by rw [S2.out]; rfl, by go_num, HB7.out⟩
          case measure => simp [intOf]
      · go_upto_region 8 with (fail)
        refine wp_region_mix [(0, 0), (1, 0), (2, 0), (3, 0), (4, 0), (5, 0), (6, 0)] (by kernel_rfl) (by kernel_rfl) ?_
        iterate 7 (first | (refine mix_load rfl rfl _ _ rfl _ _ rfl L1' ?_) | (refine mix_load rfl rfl _ _ rfl _ _ rfl LX2 ?_) | (refine mix_calm rfl (fun K hK => ?_); go_simp; (refine hK _ ?_; clear hK K)))
        refine mix_nil fun w7 hw7 => ?_
        have HB7 := Lib.hid (HB6.out.trans (Below.mono hw7 HB6.out.size))
        clear L1' LX2 hw7
        cases d2
        · go_wp2_with fail
          go_roundw
          case rel => exact ⟨i, by omega, by rw [S1.out]; rfl, by rw [S2.out]; rfl, by go_num, HB7.out⟩
          case measure => simp [intOf]
        · go_wp2_with fail
          go_roundw
          case rel => exact ⟨i, by omega, by rw [S1.out]; rfl, by rw [S2.out]; rfl, by go_num, HB7.out⟩
          case measure => simp [intOf]
theorem marksFinds_walk (a : Option Addr) (len cap : Nat) (l : List Pr) (id : List UInt8) (W : World) (hl : l.length = len) (hw : PsAt W a cap l) (hid : id.length = 20) :
    Calls Try.prog 4 #[.slice a len cap, .agg (bcells id).toArray] W fun e w' => e = .returned (.bool true) ∧ Below W.heap.size W w' := by
  subst hl
  exact marksFinds_at hw ⟨id, hid⟩
end Go.Proofs.Ytnlkanhakmkejaa
