/-
  A change done to bytes: the walk.
-/
import Derived.Test.YtnlkanhakmkejaaDoorStBytes
namespace Go.Proofs.YtnlkanhakmkejaaDoor
open Go.RowKit Go.Mix Go.WideMaps Go.Maps

set_option maxRecDepth 100000 in
set_option maxHeartbeats 4000000 in
theorem on_any {w : World} {ca : ChgA} {c : Chg} (hat : ca.at_ = (c.at_ : Int)) (hcut : ca.cut = c.cut) (hb : Sl w ca.a ca.c c.b) (hbn : ca.n = c.b.length) {a : Option Addr} {cp n : Nat} {x : Bytes} (hx : Sl w a cp x) (hn : n = x.length) (hf : c.fits x) (hbl : c.b.length ≤ 1000000000000) (hxl : x.length ≤ 1000000000000) :
    Calls Tryd.prog 27 #[.agg (recA encC ca), .slice a n cp] w fun e w' => ∃ v, e = .returned v ∧ Buf w.heap.size w w' v (c.on x) := by
  have hA : recA encC ca = #[.int .i64 (c.at_ : Int), .int .i64 c.cut, .slice ca.a ca.n ca.c] := by unfold recA encC; rw [hat, hcut]
  rw [hA]
  clear hA hat hcut
  obtain ⟨ab, nb, cb, hab, hnb, hcb⟩ : ∃ ab nb cb, ab = ca.a ∧ nb = ca.n ∧ cb = ca.c := ⟨_, _, _, rfl, rfl, rfl⟩
  rw [← hab, ← hnb, ← hcb]
  rw [← hnb] at hbn
  rw [← hab, ← hcb] at hb
  clear hab hnb hcb
  obtain ⟨bx, hbx⟩ : ∃ bx, bx = w.alloc (.cells #[.int .i64 (c.at_ : Int), .int .i64 c.cut, .slice ab nb cb] 72) := ⟨_, rfl⟩
  have gb : Below w.heap.size w bx := by rw [hbx]; exact (Below.refl _ _).alloc (Nat.le_refl _) _
  have bb : bx.heap[w.heap.size]? = some (.cells #[.int .i64 (c.at_ : Int), .int .i64 c.cut, .slice ab nb cb] 72 (0, 0)) := by rw [hbx]; exact heap_alloc_last _ _ _ rfl
  have f0 := cell_blk bb 0 _ rfl
  have f1 := cell_blk bb 1 _ rfl
  have f2 := cell_blk bb 2 _ rfl
  have HW := Lib.hid (And.intro gb (And.intro bb (And.intro hb (And.intro hx (And.intro hbn hf)))))
  have HX := Lib.hid hbx
  subst hn
  by_cases hc : 0 ≤ c.cut
  · obtain ⟨l2, e2, n2, s2, SL⟩ := hx.to c.cut c.cut.toNat (by omega) (hf.1 hc)
    have CL := clone_any (s2.below gb) rfl (by have := hf.1 hc; omega)
    have t1 : decide ((0 : Int) ≤ c.cut) = true := decide_eq_true hc
    have HE := Lib.hid (And.intro e2 n2)
    clear gb bb hb hx hbn hf e2 n2 s2 hbl hxl
    go_enter Tryd.func27, Tryd.ntmps27
    go_upto_region 1 with (fail)
    rw [← hbx]
    clear hbx HX
    go_wp2_with fail
    refine CL.mono ?_
    clear CL
    rintro e w1 ⟨v, rfl, h1⟩
    have H1 := Lib.hid h1
    clear h1
    go_wp2_with fail
    go_ret
    refine ⟨_, rfl, ?_⟩
    have e3 : c.on x = l2 := by unfold Chg.on; rw [if_pos hc, HE.out.1]
    rw [e3]
    exact H1.out.rebase HW.out.1.size HW.out.1 (Nat.le_refl _)
  · obtain ⟨l2, e2, n2, s2, SL⟩ := hx.to (c.at_ : Int) c.at_ rfl (hf.2 (by omega))
    have t1 : decide ((0 : Int) ≤ c.cut) = false := decide_eq_false hc
    have HE := Lib.hid (And.intro e2 (And.intro n2 s2))
    clear gb bb hb hx hbn hf e2 n2 s2
    go_enter Tryd.func27, Tryd.ntmps27
    go_upto_region 1 with (fail)
    rw [← hbx]
    clear hbx HX
    go_upto_region 3 with (fail)
    have LA : ∀ y : Later bx, (Instr.loadAt 3 (.pointer (some ⟨w.heap.size, 0, none⟩))).run Tryd.prog y.1 = .ok (.int .i64 (c.at_ : Int)) y.1 := fun y => by
      have c := load_later f0 y
      go_simp
    have LB : ∀ y : Later bx, (Instr.loadAt 51 (.pointer (some ⟨w.heap.size, 2, none⟩))).run Tryd.prog y.1 = .ok (.slice ab nb cb) y.1 := fun y => by
      have c := load_later f2 y
      go_simp
    refine wp_region_mg [(0, 0), (1, 0), (2, 0), (3, 0), (4, 0), (5, 0), (6, 1), (7, 1), (8, 0)] (by kernel_rfl) (by kernel_rfl) ?_
    iterate 2 (refine mg_calm rfl (fun K hK => ?_); go_simp; (refine hK _ ?_; clear hK K))
    refine mg_load rfl rfl _ _ rfl _ _ rfl LA ?_
    iterate 2 (refine mg_calm rfl (fun K hK => ?_); go_simp; (refine hK _ ?_; clear hK K))
    refine mg_load rfl rfl _ _ rfl _ _ rfl LB ?_
    refine mg_loud rfl rfl (fun w5 hw5 K hK => ?_)
    have g5 := Grow.trans HW.out.1 hw5
    have b5 : (w5.alloc (.cells #[.slice a l2.length cp, .slice ab nb cb] 51)).heap[w5.heap.size]? = some (.cells #[.slice a l2.length cp, .slice ab nb cb] 51 (0, 0)) := heap_alloc_last _ _ _ rfl
    have g6 : Grow w5 (w5.alloc (.cells #[.slice a l2.length cp, .slice ab nb cb] 51)) := (Below.refl _ _).alloc (Nat.le_refl _) _
    have H5 := Lib.hid (And.intro g5 (And.intro b5 (And.intro g6 hw5)))
    clear g5 b5 g6 hw5 LA LB SL
    go_wp2_with fail
    refine hK _ _ H5.out.2.2.1 ?_
    clear hK K
    refine mg_loud rfl rfl (fun w7 hw7 K hK => ?_)
    have CC := concat_any (H5.out.2.1 |> fun h => (Below.block hw7 _ (lt_of_block h)).trans h) (HE.out.2.2.below (Below.trans H5.out.1 (Below.mono (Grow.trans H5.out.2.2.1 hw7) H5.out.1.size))) (HW.out.2.2.1.below (Below.trans H5.out.1 (Below.mono (Grow.trans H5.out.2.2.1 hw7) H5.out.1.size))) rfl HW.out.2.2.2.2.1 (by have := HE.out.2.1; have := HW.out.2.2.2.2.2.2; omega) (by have := HW.out.2.2.2.2.1; omega)
    have H7 := Lib.hid (Grow.trans (Grow.trans H5.out.2.2.2 H5.out.2.2.1) hw7)
    clear hw7
    go_wp2_with fail
    refine CC.mono ?_
    clear CC
    rintro e w8 ⟨v, rfl, h8⟩
    have H8 := Lib.hid (And.intro (Grow.trans H7.out h8.2.1) h8.1)
    have g8 := h8.2.1
    have HS7 := Lib.hid (show w.heap.size ≤ w7.heap.size from Nat.le_trans HW.out.1.size H7.out.size)
    clear h8
    go_wp2_with fail
    refine hK _ _ g8 ?_
    clear hK K g8
    refine mg_calm rfl (fun K hK => ?_)
    go_simp
    refine hK _ ?_
    clear hK K
    refine mg_nil fun w9 hw9 => ?_
    have g9 := Grow.trans H8.out.1 hw9
    have o9 := H8.out.2.below hw9
    have f0 := (Below.cell g9 (p := ⟨w.heap.size, 0, none⟩) (lt_of_cell f0)).trans f0
    have f2 := (Below.cell g9 (p := ⟨w.heap.size, 2, none⟩) (lt_of_cell f2)).trans f2
    have g9w : Below w.heap.size w w9 := HW.out.1.trans (Below.mono g9 HW.out.1.size)
    have b9 : Buf w.heap.size w w9 v (l2 ++ c.b) := by
      refine ⟨?_, g9w, Nat.le_refl _⟩
      obtain ⟨p1, p2⟩ := o9
      refine ⟨p1, p2.imp id ?_⟩
      rintro ⟨g, cap, cur, e, hg, r⟩
      exact ⟨g, cap, cur, e, Nat.le_trans HS7.out hg, r⟩
    have H9 := Lib.hid (And.intro b9 g9w)
    have hnb := HW.out.2.2.2.2.1
    have hat := HW.out.2.2.2.2.2.2 (by omega)
    have HF := Lib.hid (show c.on x = l2 ++ c.b ++ x.drop (c.at_ + nb) by unfold Chg.on; rw [if_neg (by omega), HE.out.1, hnb])
    clear g9 o9 g9w b9 hw9 f1
    have hat' : (c.at_ : Int) ≤ 1000000000000 := by omega
    have hnb' : (nb : Int) ≤ 1000000000000 := by omega
    by_cases he : c.at_ + nb < x.length
    · have t2 : decide ((c.at_ : Int) + (nb : Int) < (x.length : Int)) = true := decide_eq_true (by omega)
      obtain ⟨a3, l3, c3, e3, s3, SF⟩ := (HW.out.2.2.2.1.below H9.out.2).from ((c.at_ : Int) + (nb : Int)) (c.at_ + nb) (by omega) (by omega)
      have hl3 : l3.length ≤ 1000000000000 := by rw [e3, List.length_drop]; omega
      have hl2 : l2.length ≤ 1000000000000 := by have := HE.out.2.1; omega
      have HS3 := Lib.hid (And.intro s3 e3)
      clear s3 e3 he hnb hat
      have hb9 := H9.out.1
      go_wp2_with (first | (at_builtin; refine wpList_append_buf rfl _ _ rfl _ (l2 ++ c.b) rfl hb9 _ c3 l3 rfl HS3.out.1.bs HS3.out.1.non (by simp; omega) ?_; intro v w2 hb2 hg2))
      go_ret
      exact ⟨_, rfl, by rw [HF.out, ← HS3.out.2]; exact hb2⟩
    · have t2 : decide ((c.at_ : Int) + (nb : Int) < (x.length : Int)) = false := decide_eq_false (by omega)
      have ed : x.drop (c.at_ + nb) = [] := List.drop_of_length_le (by omega)
      have HD := Lib.hid ed
      clear ed he hnb hat
      go_wp2_with fail
      go_ret
      exact ⟨_, rfl, by rw [HF.out, HD.out, List.append_nil]; exact H9.out.1⟩
end Go.Proofs.YtnlkanhakmkejaaDoor
