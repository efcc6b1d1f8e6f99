/-
  The document's change: the walks, a kind each. (Printed by gen/gen_rfchange.py.)
  The document's change: the walks, a kind each. (Printed by gen/gen_rfchange.py.)
  The document's change: the walks, a kind each. (Printed by gen/gen_rfchange.py.)
-/
import Derived.Test.YthjjdcfkdmhmlaaDoorRf1
import Derived.Test.YthjjdcfkdmhmlaaDoorActDo
namespace Go.Proofs.YthjjdcfkdmhmlaaDoor
open Go.RowKit Go.Mix Go.WideMaps

set_option maxRecDepth 100000 in
set_option maxHeartbeats 8000000 in
theorem rfRemove_any {Q : Nat → Prop} {w : World} {t Z : Nat} {v : Value} {S : StP} {left : Int} (h : RefAt Q w t v S.quota S.files left S.down) (hQ : ∀ k, w.heap.size ≤ k → Q k) (ok : OkS Z S) (_hZ : Z ≤ 100000)
    (path dst : Bytes) (num : Int) (ba ka : Option Addr) (bn bc kn kc : Nat) (hpl : path.length ≤ 300) (hdl : dst.length ≤ 300) (_hwf : -9223372036854775808 ≤ num ∧ num ≤ 9223372036854775807) :
    Calls Tryd.prog 38 #[ptr t, .agg (recA encA ⟨4, path, dst, num, ba, bn, bc, ka, kn, kc⟩)] w fun e w' => ChgLeft Q w t S left (removeS S path) e w' := by
  obtain ⟨w1, hw1⟩ : ∃ w1, w1 = w.alloc (.cells (recA encA ⟨4, path, dst, num, ba, bn, bc, ka, kn, kc⟩) 49) := ⟨_, rfl⟩
  have hb1 : Below w.heap.size w w1 := by rw [hw1]; exact (Below.refl _ _).alloc (Nat.le_refl _) _
  obtain ⟨k0, k1, k2, k3, k4, -⟩ := act_cells (x := ⟨4, path, dst, num, ba, bn, bc, ka, kn, kc⟩) (w := w1) (b := w.heap.size) (q := 0) (by rw [hw1]; exact recBox (heap_alloc_last _ _ _ rfl))
  have h1 := h.below hb1
  have hQ1 : ∀ k, w1.heap.size ≤ k → Q k := fun k hk => hQ k (Nat.le_trans hb1.size hk)
  obtain ⟨c0, c1, c2, c3⟩ := h1.cells
  have hfew := ok.few
  have CF := rfFind_any h1 (by omega) path
  have H0 := Lib.hid (And.intro h1 (And.intro hQ1 (And.intro hb1 (And.intro ok (And.intro h.tlt (And.intro hpl hdl))))))
  clear h hQ h1 hQ1 hb1 ok hpl hdl
  dsimp only at k0 k1 k2 k3 k4
  obtain ⟨G, hG⟩ : ∃ G, G = w.heap.size := ⟨_, rfl⟩
  have HGG := Lib.hid hG
  unfold ptr at *
  go_enter Tryd.func38, Tryd.ntmps38
  go_upto_region 1 with (fail)
  rw [← hw1]
  rw [← hG] at k0 k1 k2 k3 k4 ⊢
  clear hw1 hG
  by_cases hd : S.down = true
  · rw [hd] at c3
    have HD := Lib.hid hd
    clear hd CF c0 c1 c2
    go_wp2_with fail
    go_ret
    exact ⟨by unfold removeS; rw [if_pos HD.out]; rfl, v, by unfold removeS; rw [if_pos HD.out]; exact H0.out.1, (FrameS.ofBelow H0.out.2.2.1 (Nat.le_refl _)).sub fun _ hj => hj.1⟩
  have hd2 : S.down = false := by simpa using hd
  rw [hd2] at c3
  have HD := Lib.hid hd
  clear hd hd2
  go_wp2_with fail
  refine CF.mono ?_
  clear CF
  rintro e w2 ⟨⟨o, rfl, hfo⟩, rfl⟩
  cases o with
  | none =>
    have HO := Lib.hid hfo
    have ea : atF none = -1 := rfl
    rw [ea]
    clear hfo c0 c1 c2 c3
    go_wp2_with fail
    go_ret
    have hg : getF S.files path = none := HO.out
    have hr : removeS S path = (S, 6) := by unfold removeS; rw [if_neg HD.out, hg]
    rw [hr]
    exact ⟨rfl, v, H0.out.1, (FrameS.ofBelow H0.out.2.2.1 (Nat.le_refl _)).sub fun _ hj => hj.1⟩
  | some k =>
    obtain ⟨hk, hkp⟩ := hfo
    have ea : atF (some k) = (k : Int) := rfl
    rw [ea]
    have HK := Lib.hid (And.intro hk hkp)
    obtain ⟨g, c, xk, rfl, IX, R, hx⟩ := H0.out.1.place hk
    have LX := tyF.load xk g (k * 4) w1 R
    obtain ⟨nl, hnl⟩ : ∃ n, n = S.files.length := ⟨_, rfl⟩
    have HNL := Lib.hid hnl
    rw [← hnl] at IX c1
    have hkn : k < nl := by rw [hnl]; exact hk
    have hkz : k ≤ 10000 := by omega
    obtain ⟨ZF, hZF⟩ : ∃ Z : Array Value, Z = #[.string ByteArray.empty, .slice none 0 0, .slice none 0 0, .slice none 0 0] := ⟨_, rfl⟩
    have z : ∀ w, (zeroValue 79).run Tryd.prog w = .ok (.agg ZF) w := fun w => by rw [hZF]; kernel_rfl
    have hzs : ZF.size = 4 := by rw [hZF]; rfl
    have HX := Lib.hid hx
    have hgf : getF S.files path = some S.files[k].2 := by rw [← hkp]; exact getF_idx H0.out.2.2.2.1.sorted hk
    have HGF := Lib.hid hgf
    clear hkp R hx hnl hZF hgf c0 c2 c3
    go_upto_region 34 with (first | (refine wpList_load_at rfl _ _ rfl _ _ rfl LX ?_) | (refine wpList_store_bxf rfl _ _ rfl w1 ((Below.refl _ _).alloc (Nat.le_refl _) _) w1.heap.size xk rfl rfl (Nat.le_refl _) _ (heap_alloc_last _ _ _ rfl) hzs ?_; intro w3 hb3; have H3 := Lib.hid hb3; clear hb3))
    have k0 := (H3.out.frame.cell (lt_of_cell k0)).trans k0
    have k1 := (H3.out.frame.cell (lt_of_cell k1)).trans k1
    have k2 := (H3.out.frame.cell (lt_of_cell k2)).trans k2
    have k3 := (H3.out.frame.cell (lt_of_cell k3)).trans k3
    obtain ⟨f0, f1, f2, f3⟩ := H3.out.cells
    unfold rowV at f1 f2 f3
    obtain ⟨GF, hGF⟩ : ∃ GF, GF = w1.heap.size := ⟨_, rfl⟩
    rw [← hGF] at f0 f1 f2 f3 ⊢
    have HGF2 := Lib.hid hGF
    clear LX z hzs hGF
    have CO := rfOut_any (H0.out.1.below H3.out.frame) (fun j hj => H0.out.2.1 j (Nat.le_trans H3.out.frame.size hj)) (by omega) HK.out.1
    clear f0 f1 f2 f3
    go_wp2_with fail
    refine CO.mono ?_
    clear CO
    rintro e w4 ⟨rfl, v4, h4, hb4, -⟩
    have H4 := Lib.hid (And.intro h4 hb4)
    clear h4 hb4
    go_wp2_with fail
    go_ret
    have hr : removeS S path = (doneS { S with used := S.used - (S.files[k].2.now.length : Int), files := delF S.files path }, 0) := by unfold removeS; rw [if_neg HD.out, HGF.out]
    rw [hr]
    refine ⟨rfl, v4, ?_, ?_⟩
    · show RefAt Q w4 t v4 S.quota (doneS _).files left S.down
      rw [doneS_files]
      have e : delF S.files path = S.files.take k ++ S.files.drop (k + 1) := by rw [← HK.out.2, del_idx H0.out.2.2.2.1.sorted HK.out.1]
      show RefAt Q w4 t v4 S.quota (delF S.files path) left S.down
      rw [e]
      exact H4.out.1
    · exact (FrameS.ofBelow (H0.out.2.2.1.trans (H3.out.frame.mono H0.out.2.2.1.size)) (Nat.le_refl _) |>.sub fun _ hj => hj.1).trans ((H4.out.2.frame H0.out.1.tq).sub fun j hj => ⟨Nat.lt_of_lt_of_le hj.1 (Nat.le_trans H0.out.2.2.1.size H3.out.frame.size), hj.2⟩)
end Go.Proofs.YthjjdcfkdmhmlaaDoor
namespace Go.Proofs.YthjjdcfkdmhmlaaDoor
open Go.RowKit Go.Mix Go.WideMaps

set_option maxRecDepth 100000 in
set_option maxHeartbeats 8000000 in
theorem rfSync_any {Q : Nat → Prop} {w : World} {t Z : Nat} {v : Value} {S : StP} {left : Int} (h : RefAt Q w t v S.quota S.files left S.down) (hQ : ∀ k, w.heap.size ≤ k → Q k) (ok : OkS Z S) (_hZ : Z ≤ 100000)
    (path dst : Bytes) (num : Int) (ba ka : Option Addr) (bn bc kn kc : Nat) (hpl : path.length ≤ 300) (hdl : dst.length ≤ 300) (_hwf : -9223372036854775808 ≤ num ∧ num ≤ 9223372036854775807) :
    Calls Tryd.prog 38 #[ptr t, .agg (recA encA ⟨2, path, dst, num, ba, bn, bc, ka, kn, kc⟩)] w fun e w' => ChgLeft Q w t S left (syncS S path) e w' := by
  obtain ⟨w1, hw1⟩ : ∃ w1, w1 = w.alloc (.cells (recA encA ⟨2, path, dst, num, ba, bn, bc, ka, kn, kc⟩) 49) := ⟨_, rfl⟩
  have hb1 : Below w.heap.size w w1 := by rw [hw1]; exact (Below.refl _ _).alloc (Nat.le_refl _) _
  obtain ⟨k0, k1, k2, k3, k4, -⟩ := act_cells (x := ⟨2, path, dst, num, ba, bn, bc, ka, kn, kc⟩) (w := w1) (b := w.heap.size) (q := 0) (by rw [hw1]; exact recBox (heap_alloc_last _ _ _ rfl))
  have h1 := h.below hb1
  have hQ1 : ∀ k, w1.heap.size ≤ k → Q k := fun k hk => hQ k (Nat.le_trans hb1.size hk)
  obtain ⟨c0, c1, c2, c3⟩ := h1.cells
  have hfew := ok.few
  have CF := rfFind_any h1 (by omega) path
  have H0 := Lib.hid (And.intro h1 (And.intro hQ1 (And.intro hb1 (And.intro ok (And.intro h.tlt (And.intro hpl hdl))))))
  clear h hQ h1 hQ1 hb1 ok hpl hdl
  dsimp only at k0 k1 k2 k3 k4
  obtain ⟨G, hG⟩ : ∃ G, G = w.heap.size := ⟨_, rfl⟩
  have HGG := Lib.hid hG
  unfold ptr at *
  go_enter Tryd.func38, Tryd.ntmps38
  go_upto_region 1 with (fail)
  rw [← hw1]
  rw [← hG] at k0 k1 k2 k3 k4 ⊢
  clear hw1 hG
  by_cases hd : S.down = true
  · rw [hd] at c3
    have HD := Lib.hid hd
    clear hd CF c0 c1 c2
    go_wp2_with fail
    go_ret
    exact ⟨by unfold syncS; rw [if_pos HD.out]; rfl, v, by unfold syncS; rw [if_pos HD.out]; exact H0.out.1, (FrameS.ofBelow H0.out.2.2.1 (Nat.le_refl _)).sub fun _ hj => hj.1⟩
  have hd2 : S.down = false := by simpa using hd
  rw [hd2] at c3
  have HD := Lib.hid hd
  clear hd hd2
  go_wp2_with fail
  refine CF.mono ?_
  clear CF
  rintro e w2 ⟨⟨o, rfl, hfo⟩, rfl⟩
  cases o with
  | none =>
    have HO := Lib.hid hfo
    have ea : atF none = -1 := rfl
    rw [ea]
    clear hfo c0 c1 c2 c3
    go_wp2_with fail
    go_ret
    have hg : getF S.files path = none := HO.out
    have hr : syncS S path = (S, 6) := by unfold syncS; rw [if_neg HD.out, hg]
    rw [hr]
    exact ⟨rfl, v, H0.out.1, (FrameS.ofBelow H0.out.2.2.1 (Nat.le_refl _)).sub fun _ hj => hj.1⟩
  | some k =>
    obtain ⟨hk, hkp⟩ := hfo
    have ea : atF (some k) = (k : Int) := rfl
    rw [ea]
    have HK := Lib.hid (And.intro hk hkp)
    obtain ⟨g, c, xk, rfl, IX, R, hx⟩ := H0.out.1.place hk
    have LX := tyF.load xk g (k * 4) w1 R
    obtain ⟨nl, hnl⟩ : ∃ n, n = S.files.length := ⟨_, rfl⟩
    have HNL := Lib.hid hnl
    rw [← hnl] at IX c1
    have hkn : k < nl := by rw [hnl]; exact hk
    have hkz : k ≤ 10000 := by omega
    obtain ⟨ZF, hZF⟩ : ∃ Z : Array Value, Z = #[.string ByteArray.empty, .slice none 0 0, .slice none 0 0, .slice none 0 0] := ⟨_, rfl⟩
    have z : ∀ w, (zeroValue 79).run Tryd.prog w = .ok (.agg ZF) w := fun w => by rw [hZF]; kernel_rfl
    have hzs : ZF.size = 4 := by rw [hZF]; rfl
    have HX := Lib.hid hx
    have hgf : getF S.files path = some S.files[k].2 := by rw [← hkp]; exact getF_idx H0.out.2.2.2.1.sorted hk
    have HGF := Lib.hid hgf
    clear hkp R hx hnl hZF hgf c0 c2 c3
    go_upto_region 34 with (first | (refine wpList_load_at rfl _ _ rfl _ _ rfl LX ?_) | (refine wpList_store_bxf rfl _ _ rfl w1 ((Below.refl _ _).alloc (Nat.le_refl _) _) w1.heap.size xk rfl rfl (Nat.le_refl _) _ (heap_alloc_last _ _ _ rfl) hzs ?_; intro w3 hb3; have H3 := Lib.hid hb3; clear hb3))
    have k0 := (H3.out.frame.cell (lt_of_cell k0)).trans k0
    have k1 := (H3.out.frame.cell (lt_of_cell k1)).trans k1
    have k2 := (H3.out.frame.cell (lt_of_cell k2)).trans k2
    have k3 := (H3.out.frame.cell (lt_of_cell k3)).trans k3
    obtain ⟨f0, f1, f2, f3⟩ := H3.out.cells
    unfold rowV at f1 f2 f3
    obtain ⟨GF, hGF⟩ : ∃ GF, GF = w1.heap.size := ⟨_, rfl⟩
    rw [← hGF] at f0 f1 f2 f3 ⊢
    have HGF2 := Lib.hid hGF
    clear LX z hzs hGF
    have F2 := H3.out.free 2
    rw [← HGF2.out] at F2
    go_upto_region 42 with (fail)
    have H4 := Lib.hid (H3.out.set (x' := ⟨xk.path, xk.now, xk.now, xk.since⟩) 2 (.slice xk.now.a xk.now.n xk.now.c) rfl)
    rw [← HGF2.out] at H4
    clear F2
    generalize w3.setCell ⟨GF, 2, none⟩ (.slice xk.now.a xk.now.n xk.now.c) = w4 at *
    obtain ⟨-, -, -, f3⟩ := H4.out.cells
    unfold rowV at f3
    have F3 := H4.out.free 3
    clear f0 f1 f2
    go_upto_region 58 with (fail)
    have H5 := Lib.hid (H4.out.set (x' := ⟨xk.path, xk.now, xk.now, ⟨none, 0, 0⟩⟩) 3 (.slice none 0 0) rfl)
    clear F3 f3
    generalize w4.setCell ⟨GF, 3, none⟩ (.slice none 0 0) = w5 at *
    have h5 := H0.out.1.below H5.out.frame
    have hx5 : RfIs (Pof Q w5.heap.size t (.slice (some ⟨g, 0, none⟩) S.files.length c)) w5 ⟨xk.path, xk.now, xk.now, ⟨none, 0, 0⟩⟩ (path, syncF S.files[k].2) := by
      have hm : RfIs (Pof Q w5.heap.size t (.slice (some ⟨g, 0, none⟩) S.files.length c)) w5 xk (S.files[k]'HK.out.1) := HX.out.keep fun j hp => ⟨⟨hp.1, Nat.lt_of_lt_of_le hp.2.1 H5.out.frame.size, hp.2.2⟩, H5.out.frame.block j hp.2.1⟩
      exact ⟨hm.path.trans HK.out.2, hm.now, hm.now, SnAt.nil _ _⟩
    obtain ⟨-, m1, -, -⟩ := h5.cells
    rw [← HNL.out] at m1
    have M1 : ∀ y : Later w5, y.1.cell? ⟨t, 1, none⟩ = some (.slice (some ⟨g, 0, none⟩) nl c) := fun y => load_later m1 y
    have M2 : ∀ y : Later w5, (Instr.loadAt 79 (.pointer (some ⟨GF, 0, none⟩))).run Tryd.prog y.1 = .ok (.agg (recA encF ⟨xk.path, xk.now, xk.now, ⟨none, 0, 0⟩⟩)) y.1 := fun y => (H5.out.below y.2).load
    have HR5 := Lib.hid (And.intro h5 hx5)
    clear h5 hx5 m1 k0 k1 k2 k3
    obtain ⟨x9, hx9⟩ : ∃ x9 : RfA, x9 = ⟨xk.path, xk.now, xk.now, ⟨none, 0, 0⟩⟩ := ⟨_, rfl⟩
    rw [← hx9] at M2 HR5
    clear hx9
    refine wp_region_mg [(0, 0), (1, 0), (2, 0), (3, 0), (4, 0), (5, 0), (6, 0), (7, 2)] (by kernel_rfl) (by kernel_rfl) ?_
    iterate 5 (refine mg_calm rfl (fun K hK => ?_); go_simp; (refine hK _ ?_; clear hK K))
    refine mg_load rfl rfl _ _ rfl _ _ rfl M2 ?_
    iterate 1 (refine mg_calm rfl (fun K hK => ?_); go_simp; (refine hK _ ?_; clear hK K))
    refine mg_storeF rfl rfl rfl rfl (.tmp 242) (.tmp 241) rfl (n := nl) (by rw [HNL.out]; exact HR5.out.1) HK.out.1 (by rw [HNL.out]; exact HR5.out.2) rfl rfl (fun w6 h6 hf6 => ?_)
    have H6 := Lib.hid (And.intro h6 hf6)
    clear h6 hf6 M1 M2 IX
    refine mg_nil fun w7 hw7 => ?_
    have H7 := Lib.hid hw7
    clear hw7
    go_wp2_with fail
    go_ret
    have hr : syncS S path = (doneS { S with files := putF S.files path (syncF (S.files[k]'HK.out.1).2) }, 0) := by unfold syncS; rw [if_neg HD.out, HGF.out]
    rw [hr]
    refine ⟨rfl, .slice (some ⟨g, 0, none⟩) nl c, ?_, ?_⟩
    · show RefAt Q w7 t (.slice (some ⟨g, 0, none⟩) nl c) S.quota (doneS _).files left S.down
      rw [doneS_files]
      show RefAt Q w7 t (.slice (some ⟨g, 0, none⟩) nl c) S.quota (putF S.files path _) left S.down
      rw [put_key H0.out.2.2.2.1.sorted HK.out.1 HK.out.2]
      exact H6.out.1.below H7.out
    · exact ((FrameS.ofBelow (H0.out.2.2.1.trans (H5.out.frame.mono H0.out.2.2.1.size)) (Nat.le_refl _) |>.sub fun _ hj => hj.1).trans (H6.out.2.sub fun j hj => ⟨Nat.lt_of_lt_of_le hj.1 (Nat.le_trans H0.out.2.2.1.size H5.out.frame.size), hj.2⟩)).below H7.out
end Go.Proofs.YthjjdcfkdmhmlaaDoor
namespace Go.Proofs.YthjjdcfkdmhmlaaDoor
open Go.RowKit Go.Mix Go.WideMaps

set_option maxRecDepth 100000 in
set_option maxHeartbeats 8000000 in
theorem rfRename_any {Q : Nat → Prop} {w : World} {t Z : Nat} {v : Value} {S : StP} {left : Int} (h : RefAt Q w t v S.quota S.files left S.down) (hQ : ∀ k, w.heap.size ≤ k → Q k) (ok : OkS Z S) (_hZ : Z ≤ 100000)
    (path dst : Bytes) (num : Int) (ba ka : Option Addr) (bn bc kn kc : Nat) (hpl : path.length ≤ 300) (hdl : dst.length ≤ 300) (_hwf : -9223372036854775808 ≤ num ∧ num ≤ 9223372036854775807) :
    Calls Tryd.prog 38 #[ptr t, .agg (recA encA ⟨3, path, dst, num, ba, bn, bc, ka, kn, kc⟩)] w fun e w' => ChgLeft Q w t S left (renameS S path dst) e w' := by
  obtain ⟨w1, hw1⟩ : ∃ w1, w1 = w.alloc (.cells (recA encA ⟨3, path, dst, num, ba, bn, bc, ka, kn, kc⟩) 49) := ⟨_, rfl⟩
  have hb1 : Below w.heap.size w w1 := by rw [hw1]; exact (Below.refl _ _).alloc (Nat.le_refl _) _
  obtain ⟨k0, k1, k2, k3, k4, -⟩ := act_cells (x := ⟨3, path, dst, num, ba, bn, bc, ka, kn, kc⟩) (w := w1) (b := w.heap.size) (q := 0) (by rw [hw1]; exact recBox (heap_alloc_last _ _ _ rfl))
  have h1 := h.below hb1
  have hQ1 : ∀ k, w1.heap.size ≤ k → Q k := fun k hk => hQ k (Nat.le_trans hb1.size hk)
  obtain ⟨c0, c1, c2, c3⟩ := h1.cells
  have hfew := ok.few
  have CF := rfFind_any h1 (by omega) path
  have H0 := Lib.hid (And.intro h1 (And.intro hQ1 (And.intro hb1 (And.intro ok (And.intro h.tlt (And.intro hpl hdl))))))
  clear h hQ h1 hQ1 hb1 ok hpl hdl
  dsimp only at k0 k1 k2 k3 k4
  obtain ⟨G, hG⟩ : ∃ G, G = w.heap.size := ⟨_, rfl⟩
  have HGG := Lib.hid hG
  unfold ptr at *
  go_enter Tryd.func38, Tryd.ntmps38
  go_upto_region 1 with (fail)
  rw [← hw1]
  rw [← hG] at k0 k1 k2 k3 k4 ⊢
  clear hw1 hG
  by_cases hd : S.down = true
  · rw [hd] at c3
    have HD := Lib.hid hd
    clear hd CF c0 c1 c2
    go_wp2_with fail
    go_ret
    exact ⟨by unfold renameS; rw [if_pos HD.out]; rfl, v, by unfold renameS; rw [if_pos HD.out]; exact H0.out.1, (FrameS.ofBelow H0.out.2.2.1 (Nat.le_refl _)).sub fun _ hj => hj.1⟩
  have hd2 : S.down = false := by simpa using hd
  rw [hd2] at c3
  have HD := Lib.hid hd
  clear hd hd2
  go_wp2_with fail
  refine CF.mono ?_
  clear CF
  rintro e w2 ⟨⟨o, rfl, hfo⟩, rfl⟩
  cases o with
  | none =>
    have HO := Lib.hid hfo
    have ea : atF none = -1 := rfl
    rw [ea]
    clear hfo c0 c1 c2 c3
    go_wp2_with fail
    go_ret
    have hg : getF S.files path = none := HO.out
    have hr : renameS S path dst = (S, 6) := by unfold renameS; rw [if_neg HD.out, hg]
    rw [hr]
    exact ⟨rfl, v, H0.out.1, (FrameS.ofBelow H0.out.2.2.1 (Nat.le_refl _)).sub fun _ hj => hj.1⟩
  | some k =>
    obtain ⟨hk, hkp⟩ := hfo
    have ea : atF (some k) = (k : Int) := rfl
    rw [ea]
    have HK := Lib.hid (And.intro hk hkp)
    obtain ⟨g, c, xk, rfl, IX, R, hx⟩ := H0.out.1.place hk
    have LX := tyF.load xk g (k * 4) w1 R
    obtain ⟨nl, hnl⟩ : ∃ n, n = S.files.length := ⟨_, rfl⟩
    have HNL := Lib.hid hnl
    rw [← hnl] at IX c1
    have hkn : k < nl := by rw [hnl]; exact hk
    have hkz : k ≤ 10000 := by omega
    obtain ⟨ZF, hZF⟩ : ∃ Z : Array Value, Z = #[.string ByteArray.empty, .slice none 0 0, .slice none 0 0, .slice none 0 0] := ⟨_, rfl⟩
    have z : ∀ w, (zeroValue 79).run Tryd.prog w = .ok (.agg ZF) w := fun w => by rw [hZF]; kernel_rfl
    have hzs : ZF.size = 4 := by rw [hZF]; rfl
    have HX := Lib.hid hx
    have hgf : getF S.files path = some S.files[k].2 := by rw [← hkp]; exact getF_idx H0.out.2.2.2.1.sorted hk
    have HGF := Lib.hid hgf
    clear hkp R hx hnl hZF hgf c0 c2 c3
    go_upto_region 34 with (first | (refine wpList_load_at rfl _ _ rfl _ _ rfl LX ?_) | (refine wpList_store_bxf rfl _ _ rfl w1 ((Below.refl _ _).alloc (Nat.le_refl _) _) w1.heap.size xk rfl rfl (Nat.le_refl _) _ (heap_alloc_last _ _ _ rfl) hzs ?_; intro w3 hb3; have H3 := Lib.hid hb3; clear hb3))
    have k0 := (H3.out.frame.cell (lt_of_cell k0)).trans k0
    have k1 := (H3.out.frame.cell (lt_of_cell k1)).trans k1
    have k2 := (H3.out.frame.cell (lt_of_cell k2)).trans k2
    have k3 := (H3.out.frame.cell (lt_of_cell k3)).trans k3
    obtain ⟨f0, f1, f2, f3⟩ := H3.out.cells
    unfold rowV at f1 f2 f3
    obtain ⟨GF, hGF⟩ : ∃ GF, GF = w1.heap.size := ⟨_, rfl⟩
    rw [← hGF] at f0 f1 f2 f3 ⊢
    have HGF2 := Lib.hid hGF
    clear LX z hzs hGF
    have hnk : w1.heap.size ≤ w3.heap.size := H3.out.frame.size
    obtain ⟨Q', hQ'⟩ : ∃ Q' : Nat → Prop, Q' = fun j => Q j ∧ j ≠ GF := ⟨_, rfl⟩
    have h3 : RefAt Q' w3 t (.slice (some ⟨g, 0, none⟩) S.files.length c) S.quota S.files left S.down := H0.out.1.keep hnk fun j hq hj => ⟨by rw [hQ']; exact ⟨hq, by rw [HGF2.out]; omega⟩, H3.out.frame.block j hj⟩
    have hx3 : RfIs (Pof Q' w3.heap.size t (.slice (some ⟨g, 0, none⟩) S.files.length c)) w3 xk (S.files[k]'HK.out.1) := HX.out.keep fun j hp => ⟨⟨by rw [hQ']; exact ⟨hp.1, by rw [HGF2.out]; have := hp.2.1; omega⟩, Nat.lt_of_lt_of_le hp.2.1 hnk, hp.2.2⟩, H3.out.frame.block j hp.2.1⟩
    have hQn : ∀ j, w3.heap.size ≤ j → Q' j := fun j hj => by
      rw [hQ']
      refine ⟨H0.out.2.1 j (Nat.le_trans hnk hj), ?_⟩
      have := lt_of_block H3.out.blk
      rw [HGF2.out]
      omega
    have HQ := Lib.hid (And.intro (show ∀ j, Q' j → Q j from fun j hj => by rw [hQ'] at hj; exact hj.1) (And.intro (show ∀ j, Q' j → j ≠ GF from fun j hj => by rw [hQ'] at hj; exact hj.2) hQn))
    have hback : ∀ (W : World) (v : Value) (l : Files), RefAt Q' W t v S.quota l left S.down → RefAt Q W t v S.quota l left S.down := fun _ _ _ h => h.keep (Nat.le_refl _) fun j hq _ => ⟨by rw [hQ'] at hq; exact hq.1, rfl⟩
    have HBK := Lib.hid hback
    clear hQn hQ' hback
    have CR := rfRight_any dst (by have := H0.out.2.2.2.2.2.2; omega) w3
    obtain ⟨rr, hrr⟩ : ∃ r, r = rightF dst := ⟨_, rfl⟩
    rw [← hrr] at CR
    have HRR := Lib.hid hrr
    have HX3 := Lib.hid hx3
    have HB3 := Lib.hid H3.out.blk
    have H33 := Lib.hid h3
    have CC := fun (W : World) (hW : Below w3.heap.size w3 W) => rfClash_any (h3.below hW) (by omega) dst path
    obtain ⟨fr, hfr⟩ : ∃ r, r = freeF S.files dst path := ⟨_, rfl⟩
    rw [← hfr] at CC
    have HFR := Lib.hid hfr
    have CCH := Lib.hid CC
    clear f0 f1 f2 f3 hrr h3 CC hfr hx3
    go_wp2_with fail
    refine CR.mono ?_
    clear CR
    rintro e w4 ⟨rfl, hb4⟩
    have H4 := Lib.hid hb4
    have k0 := (hb4.cell (lt_of_cell k0)).trans k0
    have k1 := (hb4.cell (lt_of_cell k1)).trans k1
    have k2 := (hb4.cell (lt_of_cell k2)).trans k2
    clear hb4 k3
    cases rr
    · go_wp2_with fail
      go_ret
      have hr : renameS S path dst = (S, 1) := by
        unfold renameS
        rw [if_neg HD.out, HGF.out]
        show (if (!rightF dst) = true then (S, 1) else _) = _
        rw [← HRR.out]
        rfl
      rw [hr]
      exact ⟨rfl, _, HBK.out _ _ _ (H33.out.below H4.out), ((FrQ.of H0.out.2.2.1).trans (FrQ.of H3.out.frame)).trans (FrQ.of H4.out)⟩
    have CC := CCH.out w4 H4.out
    go_wp2_with fail
    refine CC.mono ?_
    clear CC
    rintro e w5 ⟨rfl, rfl⟩
    cases fr
    · go_wp2_with fail
      go_ret
      have hr : renameS S path dst = (S, 9) := by
        unfold renameS
        rw [if_neg HD.out, HGF.out]
        show (if (!rightF dst) = true then (S, 1) else if (!freeF S.files dst path) = true then (S, 9) else _) = _
        rw [← HRR.out, ← HFR.out]
        rfl
      rw [hr]
      exact ⟨rfl, _, HBK.out _ _ _ (H33.out.below H4.out), ((FrQ.of H0.out.2.2.1).trans (FrQ.of H3.out.frame)).trans (FrQ.of H4.out)⟩
    have hsz4 : w1.heap.size ≤ w4.heap.size := Nat.le_trans hnk H4.out.size
    have CO := rfOut_any (H33.out.below H4.out) (fun j hj => HQ.out.2.2 j (Nat.le_trans H4.out.size hj)) (by omega) HK.out.1
    have hb34 := H4.out
    have HB4 : Hid (w4.heap[GF]? = some (.cells (recA encF xk) 79 (0, 0))) := Lib.hid ((hb34.block GF (lt_of_block (by rw [HGF2.out]; exact HB3.out))).trans (by rw [HGF2.out]; exact HB3.out))
    have HX4 := Lib.hid (HX3.out.later hb34 (Nat.le_refl _) hb34.size)
    clear hb34
    go_wp2_with fail
    refine CO.mono ?_
    clear CO
    rintro e w5 ⟨rfl, v5, h5, hb5, hf5⟩
    have hdel : S.files.take k ++ S.files.drop (k + 1) = delF S.files path := (del_key H0.out.2.2.2.1.sorted HK.out.1 HK.out.2).symm
    rw [hdel] at h5
    have htG : G ≠ t := by rw [HGG.out]; have := H0.out.2.2.2.2.1; omega
    have htF : GF ≠ t := by rw [HGF2.out]; have := H0.out.1.tlt; omega
    have k1 := (World.cell?_of_block (a := ⟨G, 1, none⟩) (hb5.keep G (lt_of_cell k1) htG)).trans k1
    have k2 := (World.cell?_of_block (a := ⟨G, 2, none⟩) (hb5.keep G (lt_of_cell k2) htG)).trans k2
    have H5 := Lib.hid (And.intro h5 (And.intro hb5 (And.intro ((hb5.keep GF (lt_of_block HB4.out) htF).trans HB4.out) (HX4.out.thru hb5 (Nat.le_refl _) hb5.size hf5))))
    have CF2 := rfFind_any H5.out.1 (by have := length_del_le S.files path; omega) dst
    obtain ⟨l5, hl5⟩ : ∃ l5, l5 = delF S.files path := ⟨_, rfl⟩
    have HL5 := Lib.hid hl5
    have hs5 : Sorted l5 := by rw [hl5]; exact sorted_del H0.out.2.2.2.1.sorted path
    have hn5 : l5.length ≤ 10000 := by rw [hl5]; have := length_del_le S.files path; omega
    rw [← hl5] at CF2 H5
    have HS5 := Lib.hid (And.intro hs5 hn5)
    clear h5 hb5 hf5 hdel hl5 hs5 hn5 k0
    go_wp2_with fail
    refine CF2.mono ?_
    clear CF2
    rintro e w6 ⟨⟨o2, rfl, hfo2⟩, rfl⟩
    have HO2 := Lib.hid hfo2
    clear hfo2
    cases o2 with
    | none =>
      have ea2 : atF none = -1 := rfl
      rw [ea2]
      have F0 := free_blk H5.out.2.2.1 0
      have f0 : w5.cell? ⟨GF, 0, none⟩ = some (.string (strOf xk.path)) := cell_of_row _ _ _ _ _ _ H5.out.2.2.1
      go_upto_region 53 with (fail)
      have hblk7 : (w5.setCell ⟨GF, 0, none⟩ (.string (strOf dst))).heap[GF]? = some (.cells (recA encF ⟨dst, xk.now, xk.kept, xk.since⟩) 79 (0, 0)) := by rw [Go.heap_setCell_same w5 GF 0 _ _ _ H5.out.2.2.1]; rfl
      have hoth7 : ∀ j, j ≠ GF → (w5.setCell ⟨GF, 0, none⟩ (.string (strOf dst))).heap[j]? = w5.heap[j]? := fun j hj => Below.heap_setCell _ _ _ _ hj
      have hsz7 : (w5.setCell ⟨GF, 0, none⟩ (.string (strOf dst))).heap.size = w5.heap.size := by simp [World.setCell]
      have hfr7 : FrQ Q w5 (w5.setCell ⟨GF, 0, none⟩ (.string (strOf dst))) := ⟨rfl, rfl, rfl, by rw [hsz7]; exact Nat.le_refl _, fun j hj => ⟨hj.1, hoth7 j fun e => hj.2 (by rw [e]; exact H0.out.2.1 GF (by rw [HGF2.out]; exact Nat.le_refl _))⟩⟩
      have h7 := (H5.out.1).keep (Q' := Q') (w' := w5.setCell ⟨GF, 0, none⟩ (.string (strOf dst))) (by rw [hsz7]; exact Nat.le_refl _) (fun j hq _ => ⟨hq, hoth7 j (HQ.out.2.1 j hq)⟩)
      have hx7 := (H5.out.2.2.2).keep (P' := Pof Q' (w5.setCell ⟨GF, 0, none⟩ (.string (strOf dst))).heap.size t _) (w' := w5.setCell ⟨GF, 0, none⟩ (.string (strOf dst))) (fun j hp => ⟨⟨hp.1, by rw [hsz7]; exact hp.2.1, hp.2.2⟩, hoth7 j (HQ.out.2.1 j hp.1)⟩)
      have hsz37 : w3.heap.size ≤ (w5.setCell ⟨GF, 0, none⟩ (.string (strOf dst))).heap.size := by rw [hsz7]; exact (Nat.le_trans H4.out.size H5.out.2.1.size)
      have LB := tyF.load ⟨dst, xk.now, xk.kept, xk.since⟩ GF 0 _ (recBox hblk7)
      have CI := rfIn_any h7 (fun j hj => HQ.out.2.2 j (Nat.le_trans hsz37 hj)) (by (have := HS5.out.2; omega)) (x := ⟨dst, xk.now, xk.kept, xk.since⟩) (p := (dst, (S.files[k]'HK.out.1).2)) ⟨rfl, hx7.now, hx7.kept, hx7.since⟩
      have H7 := Lib.hid (And.intro hfr7 h7.tq)
      obtain ⟨x9, hx9⟩ : ∃ x9 : RfA, x9 = ⟨dst, xk.now, xk.kept, xk.since⟩ := ⟨_, rfl⟩
      rw [← hx9] at LB CI
      clear hx9 hblk7 hoth7 hsz7 hfr7 h7 hx7 hsz37 F0 f0 k1 k2
      generalize w5.setCell ⟨GF, 0, none⟩ (.string (strOf dst)) = w7 at *
      go_wp2_with (refine wpList_load_at rfl _ _ rfl _ _ rfl LB ?_)
      refine CI.mono ?_
      clear CI
      rintro e w8 ⟨rfl, v8, h8, hb8, -⟩
      have H8 := Lib.hid (And.intro h8 hb8)
      clear h8 hb8
      go_wp2_with fail
      go_ret
      have hr : renameS S path dst = (doneS { S with used := S.used - (if dst = path then 0 else ((((getF S.files dst).getD file0).now.length : Nat) : Int)), files := putF (delF S.files path) dst (S.files[k]'HK.out.1).2 }, 0) := by
        unfold renameS
        rw [if_neg HD.out, HGF.out]
        show (if (!rightF dst) = true then (S, 1) else if (!freeF S.files dst path) = true then (S, 9) else _) = _
        rw [← HRR.out, ← HFR.out]
        rfl
      rw [hr]
      refine ⟨rfl, v8, ?_, ?_⟩
      · show RefAt Q w8 t v8 S.quota (doneS _).files left S.down
        rw [doneS_files]
        show RefAt Q w8 t v8 S.quota (putF (delF S.files path) dst _) left S.down
        have e : putF (delF S.files path) dst (S.files[k]'HK.out.1).2 = insF dst (S.files[k]'HK.out.1).2 l5 := by
          rw [← HL5.out]
          unfold putF
          rw [delF_none HO2.out]
        rw [e]
        exact HBK.out _ _ _ H8.out.1
      · exact (((((FrQ.of H0.out.2.2.1).trans (FrQ.of H3.out.frame)).trans (FrQ.of H4.out)).trans (FrQ.but H5.out.2.1 H0.out.1.tq)).trans H7.out.1).trans (FrQ.but H8.out.2 (HQ.out.1 t H7.out.2))
    | some k9 =>
      obtain ⟨hk9, hkp9⟩ := HO2.out
      have ea2 : atF (some k9) = (k9 : Int) := rfl
      rw [ea2]
      have CO := rfOut_any H5.out.1 (fun j hj => HQ.out.2.2 j (Nat.le_trans (Nat.le_trans H4.out.size H5.out.2.1.size) hj)) (by have := HS5.out.2; omega) hk9
      have hdel9 : l5.take k9 ++ l5.drop (k9 + 1) = delF l5 dst := (del_key HS5.out.1 hk9 hkp9).symm
      rw [hdel9] at CO
      have HDL9 := Lib.hid (length_del_le l5 dst)
      have hkz9 : k9 ≤ 10000 := by have := HS5.out.2; omega
      clear hk9 hkp9 hdel9
      go_wp2_with fail
      refine CO.mono ?_
      clear CO
      rintro e w6 ⟨rfl, v6, h6, hb6, hf6⟩
      have k1 := (World.cell?_of_block (a := ⟨G, 1, none⟩) (hb6.keep G (lt_of_cell k1) htG)).trans k1
      have k2 := (World.cell?_of_block (a := ⟨G, 2, none⟩) (hb6.keep G (lt_of_cell k2) htG)).trans k2
      have H6 := Lib.hid (And.intro h6 (And.intro hb6 (And.intro ((hb6.keep GF (lt_of_block H5.out.2.2.1) htF).trans H5.out.2.2.1) (H5.out.2.2.2.thru hb6 (Nat.le_refl _) hb6.size hf6))))
      clear h6 hb6 hf6
      have F0 := free_blk H6.out.2.2.1 0
      have f0 : w6.cell? ⟨GF, 0, none⟩ = some (.string (strOf xk.path)) := cell_of_row _ _ _ _ _ _ H6.out.2.2.1
      go_upto_region 53 with (fail)
      have hblk7 : (w6.setCell ⟨GF, 0, none⟩ (.string (strOf dst))).heap[GF]? = some (.cells (recA encF ⟨dst, xk.now, xk.kept, xk.since⟩) 79 (0, 0)) := by rw [Go.heap_setCell_same w6 GF 0 _ _ _ H6.out.2.2.1]; rfl
      have hoth7 : ∀ j, j ≠ GF → (w6.setCell ⟨GF, 0, none⟩ (.string (strOf dst))).heap[j]? = w6.heap[j]? := fun j hj => Below.heap_setCell _ _ _ _ hj
      have hsz7 : (w6.setCell ⟨GF, 0, none⟩ (.string (strOf dst))).heap.size = w6.heap.size := by simp [World.setCell]
      have hfr7 : FrQ Q w6 (w6.setCell ⟨GF, 0, none⟩ (.string (strOf dst))) := ⟨rfl, rfl, rfl, by rw [hsz7]; exact Nat.le_refl _, fun j hj => ⟨hj.1, hoth7 j fun e => hj.2 (by rw [e]; exact H0.out.2.1 GF (by rw [HGF2.out]; exact Nat.le_refl _))⟩⟩
      have h7 := (H6.out.1).keep (Q' := Q') (w' := w6.setCell ⟨GF, 0, none⟩ (.string (strOf dst))) (by rw [hsz7]; exact Nat.le_refl _) (fun j hq _ => ⟨hq, hoth7 j (HQ.out.2.1 j hq)⟩)
      have hx7 := (H6.out.2.2.2).keep (P' := Pof Q' (w6.setCell ⟨GF, 0, none⟩ (.string (strOf dst))).heap.size t _) (w' := w6.setCell ⟨GF, 0, none⟩ (.string (strOf dst))) (fun j hp => ⟨⟨hp.1, by rw [hsz7]; exact hp.2.1, hp.2.2⟩, hoth7 j (HQ.out.2.1 j hp.1)⟩)
      have hsz37 : w3.heap.size ≤ (w6.setCell ⟨GF, 0, none⟩ (.string (strOf dst))).heap.size := by rw [hsz7]; exact (Nat.le_trans (Nat.le_trans H4.out.size H5.out.2.1.size) H6.out.2.1.size)
      have LB := tyF.load ⟨dst, xk.now, xk.kept, xk.since⟩ GF 0 _ (recBox hblk7)
      have CI := rfIn_any h7 (fun j hj => HQ.out.2.2 j (Nat.le_trans hsz37 hj)) (by (have := HDL9.out; have := HS5.out.2; omega)) (x := ⟨dst, xk.now, xk.kept, xk.since⟩) (p := (dst, (S.files[k]'HK.out.1).2)) ⟨rfl, hx7.now, hx7.kept, hx7.since⟩
      have H7 := Lib.hid (And.intro hfr7 h7.tq)
      obtain ⟨x9, hx9⟩ : ∃ x9 : RfA, x9 = ⟨dst, xk.now, xk.kept, xk.since⟩ := ⟨_, rfl⟩
      rw [← hx9] at LB CI
      clear hx9 hblk7 hoth7 hsz7 hfr7 h7 hx7 hsz37 F0 f0 k1 k2
      generalize w6.setCell ⟨GF, 0, none⟩ (.string (strOf dst)) = w7 at *
      go_wp2_with (refine wpList_load_at rfl _ _ rfl _ _ rfl LB ?_)
      refine CI.mono ?_
      clear CI
      rintro e w8 ⟨rfl, v8, h8, hb8, -⟩
      have H8 := Lib.hid (And.intro h8 hb8)
      clear h8 hb8
      go_wp2_with fail
      go_ret
      have hr : renameS S path dst = (doneS { S with used := S.used - (if dst = path then 0 else ((((getF S.files dst).getD file0).now.length : Nat) : Int)), files := putF (delF S.files path) dst (S.files[k]'HK.out.1).2 }, 0) := by
        unfold renameS
        rw [if_neg HD.out, HGF.out]
        show (if (!rightF dst) = true then (S, 1) else if (!freeF S.files dst path) = true then (S, 9) else _) = _
        rw [← HRR.out, ← HFR.out]
        rfl
      rw [hr]
      refine ⟨rfl, v8, ?_, ?_⟩
      · show RefAt Q w8 t v8 S.quota (doneS _).files left S.down
        rw [doneS_files]
        show RefAt Q w8 t v8 S.quota (putF (delF S.files path) dst _) left S.down
        have e : putF (delF S.files path) dst (S.files[k]'HK.out.1).2 = insF dst (S.files[k]'HK.out.1).2 (delF l5 dst) := by
          rw [← HL5.out]
          unfold putF
          rfl
        rw [e]
        exact HBK.out _ _ _ H8.out.1
      · exact (((((FrQ.of H0.out.2.2.1).trans (FrQ.of H3.out.frame)).trans (FrQ.of H4.out)).trans ((FrQ.but H5.out.2.1 H0.out.1.tq).trans (FrQ.but H6.out.2.1 H0.out.1.tq))).trans H7.out.1).trans (FrQ.but H8.out.2 (HQ.out.1 t H7.out.2))
end Go.Proofs.YthjjdcfkdmhmlaaDoor
