/-
  slices.Clone, slices.Grow, slices.Concat of two, at bytes; a change of a file's bytes: the walks.
  A change done to bytes: the walk.
  (*file).do: the walk.
  (*Store).Write: the walk.
  (*Store).Read, Cut, Sync, Remove, Rename: the walks.
  (*Store).Remove, Rename: the walks.
-/
import Derived.Test.YtponfkfeflnilaaGreatDoorMaStA
import Derived.Lib.AppendZeros
import Derived.Lib.LazyBuf
import Derived.Test.YtponfkfeflnilaaGreatDoorMaRec
import Derived.Tactics
import Derived.Tactics2
import Derived.Deep.DeepCutAuto
namespace Go.Proofs.YtponfkfeflnilaaGreatDoor
open Go.RowKit Go.Mix Go.WideMaps Go.Maps

set_option maxRecDepth 100000 in
theorem clone_any {w : World} {a : Option Addr} {c n : Nat} {l : Bytes} (h : Sl w a c l) (hn : n = l.length) (hl : l.length ≤ 100000000000000) :
    Calls Tryz.prog 88 #[.slice a n c] w fun e w' => ∃ v, e = .returned v ∧ Buf w.heap.size w w' v l := by
  have NE := fun W => Lib.run_eql_slice_nil (P := Tryz.prog) W 24 5 a n c 0 0 Tryz.underlying24
  cases a with
  | none =>
    have e0 : l = [] := by rcases h.bs with h | ⟨b, off, h, _⟩; exact h; simp at h
    obtain rfl := h.non rfl
    rw [e0] at hn
    obtain rfl : n = 0 := hn
    clear h hl
    go_enter Tryz.func88, Tryz.ntmps88
    go_wp2_with fail
    go_ret
    exact ⟨_, rfl, by rw [e0]; exact Buf.nil (Below.refl _ _) (Nat.le_refl _)⟩
  | some x =>
    have HB := Buf.made (B := w.heap.size) (Below.refl _ w) (Nat.le_refl _)
    have HS := Lib.hid (h.below ((Below.refl w.heap.size w).alloc (Nat.le_refl _) (.cells #[] 5)))
    clear h
    subst hn
    go_enter Tryz.func88, Tryz.ntmps88
    go_wp2_with (first | (at_builtin; refine wpList_append_buf rfl _ _ rfl _ [] rfl HB _ c l rfl HS.out.bs HS.out.non (by simp; omega) ?_; intro v w1 hb1 hg1))
    go_ret
    exact ⟨_, rfl, by simpa using hb1⟩

set_option maxRecDepth 100000 in
theorem grow_any (w : World) (n : Nat) (hn : n ≤ 100000000000000) : Calls Tryz.prog 121 #[.slice none 0 0, .int .i64 (n : Int)] w fun e w' => ∃ v, e = .returned v ∧ Buf w.heap.size w w' v [] := by
  by_cases h0 : n = 0
  · subst h0
    go_enter Tryz.func121, Tryz.ntmps121
    go_wp2_with fail
    go_ret
    exact ⟨_, rfl, Buf.nil (Below.refl _ _) (Nat.le_refl _)⟩
  · obtain ⟨i, hi, hz0, hz1, hz2⟩ := info_parts infoByte
    have hge := grownCap_ge w n 0 5
    have hle := grownCap_le_maxLen w n 0 5 (by unfold maxLen; omega)
    have AP := fun ty => Lib.run_append_nil_zeros (P := Tryz.prog) w 24 3 ty 5 i (.int .u8 0) .i64 .i64 Tryz.underlying24 Tryz.underlying3 hi hz0 n (by omega) (by rw [hz1]; decide) (by omega) (by rw [hz2]; omega)
    obtain ⟨cp, hcp⟩ : ∃ cp, cp = grownCap w n 0 5 := ⟨_, rfl⟩
    obtain ⟨C, hC⟩ : ∃ C, C = (Builtin.zeroCells (Value.int .u8 0).cells n ++ Builtin.zeroCells (Value.int .u8 0).cells (cp - n)) := ⟨_, rfl⟩
    have hCs : C.size = cp := by rw [hC]; simp [Builtin.zeroCells, Value.cells]; omega
    rw [← hcp] at AP hge hle
    rw [← hC] at AP
    unfold maxLen at hle
    have HH := Lib.hid (And.intro hCs (And.intro hge hle))
    have hpos : (0 : Int) < (n : Int) := by omega
    have hg : Below w.heap.size w (w.drew.alloc (.cells C 5)) := ((Below.refl _ _).drew).alloc (by simp) _
    have hb : (w.drew.alloc (.cells C 5)).heap[w.heap.size]? = some (.cells C 5 (0, 0)) := heap_alloc_last w.drew _ _ rfl
    have HW := Lib.hid (And.intro hg hb)
    have SL : ∀ W : World, (Instr.slice 24 (.slice (some ⟨w.heap.size, 0, none⟩) n cp) none (some (.int .i64 ((0 : Nat) : Int))) none).run Tryz.prog W = .ok (.slice (some ⟨w.heap.size, 0, none⟩) 0 cp) W := fun W => run_slice_to 24 Tryz.underlying24 (some ⟨w.heap.size, 0, none⟩) n cp 0 (by omega) (fun h => nomatch h) sizeOf_u8 W
    have SL2 : ∀ W : World, (Instr.slice 24 (.slice none 0 0) none (some (.int .i64 ((0 : Nat) : Int))) none).run Tryz.prog W = .ok (.slice none 0 0) W := fun W => run_slice_to 24 Tryz.underlying24 none 0 0 0 (by omega) (fun _ => rfl) sizeOf_u8 W
    clear hi hz0 hz1 hz2 hcp hC hCs hge hle hg hb h0
    go_enter Tryz.func121, Tryz.ntmps121
    go_wp2_with (first | (at_builtin; refine Lib.wpList_append_run _ rfl _ _ _ _ rfl _ _ rfl rfl _ _ (AP _) ?_))
    go_ret
    exact ⟨_, rfl, ⟨⟨rfl, .inr ⟨w.heap.size, cp, C, rfl, Nat.le_refl _, HW.out.2, Nat.zero_le _, by unfold maxLen; exact HH.out.2.2, by rw [HH.out.1, Nat.mul_one], by simp [bcells]⟩⟩, HW.out.1, Nat.le_refl _⟩⟩

/-- Two slices of bytes in a row. -/
theorem row2 {w : World} {g : Nat} {v1 v2 : Value} {t : TypeId} {fr : Nat × Nat} (h : w.heap[g]? = some (.cells #[v1, v2] t fr)) : w.cell? ⟨g, 0, none⟩ = some v1 ∧ w.cell? ⟨g, 1, none⟩ = some v2 := ⟨by simp [World.cell?, h], by simp [World.cell?, h]⟩
theorem idx2 (g k : Nat) (hk : k < 2) (K : Int) (hK : K = (k : Int)) (w : World) : (Instr.indexAt 163 (.slice (some ⟨g, 0, none⟩) 2 2) (.int .i64 K)).run Tryz.prog w = .ok (.pointer (some ⟨g, k, none⟩)) w := by
  subst hK
  have he : Tryz.prog.elem 163 = 24 := by simp [Program.elem, Tryz.underlying163]
  rw [run_indexAt_slice w 163 _ 2 2 .i64 k (by rw [he]; exact Tryz.underlying163), if_pos ⟨by omega, by omega⟩, he, show (sizeOf 24).run Tryz.prog w = .ok 1 w by kernel_rfl]
  simp [Result.andThen, Addr.add_lit]
set_option maxRecDepth 100000 in
set_option maxHeartbeats 4000000 in
theorem concat_any {w : World} {g : Nat} {a1 a2 : Option Addr} {c1 c2 n1 n2 : Nat} {l1 l2 : Bytes} (hg : w.heap[g]? = some (.cells #[.slice a1 n1 c1, .slice a2 n2 c2] 24 (0, 0))) (h1 : Sl w a1 c1 l1) (h2 : Sl w a2 c2 l2) (hn1 : n1 = l1.length) (hn2 : n2 = l2.length) (hl1 : n1 ≤ 10000000000000) (hl2 : n2 ≤ 10000000000000) :
    Calls Tryz.prog 108 #[.slice (some ⟨g, 0, none⟩) 2 2] w fun e w' => ∃ v, e = .returned v ∧ Buf w.heap.size w w' v (l1 ++ l2) := by
  obtain ⟨k0, k1⟩ := row2 hg
  have I0 := fun W => idx2 g 0 (by decide) 0 rfl W
  have I1 := fun W => idx2 g 1 (by decide) 1 rfl W
  have HB := Lib.hid (And.intro h1 (And.intro h2 (And.intro hn1 hn2)))
  have HK := Lib.hid (And.intro k0 k1)
  clear hg h1 h2 hn1 hn2
  go_enter Tryz.func108, Tryz.ntmps108
  go_wp2_with fail
  go_loop [3, 11] (fun s3 s11 => ∃ k : Nat, k ≤ 2 ∧ s11 = .int .i64 (k : Int) ∧ s3 = .int .i64 (if k = 0 then 0 else if k = 1 then (n1 : Int) else (n1 : Int) + (n2 : Int))) (fun _ s11 => 2 - (intOf s11).toNat)
  case atStart => exact ⟨0, by omega, rfl, rfl⟩
  case round =>
    obtain ⟨k, hk, rfl, rfl⟩ := hrel
    obtain rfl | rfl | rfl : k = 0 ∨ k = 1 ∨ k = 2 := by omega
    · go_wp2_with fail
      go_round
      case rel => exact ⟨1, by omega, rfl, by simp⟩
      case measure => simp [intOf]
    · go_wp2_with fail
      go_round
      case rel => exact ⟨2, by omega, rfl, by simp⟩
      case measure => simp [intOf]
    · have CG := fun W => grow_any W (n1 + n2) (by omega)
      rw [Int.natCast_add] at CG
      clear k0 k1
      go_wp2_with fail
      refine (CG _).mono ?_
      clear CG
      rintro e w1 ⟨v1, rfl, hb1⟩
      have HB1 := Lib.hid hb1
      have k0 := (hb1.2.1.cell (p := ⟨g, 0, none⟩) (lt_of_cell HK.out.1)).trans HK.out.1
      have k1 := (hb1.2.1.cell (p := ⟨g, 1, none⟩) (lt_of_cell HK.out.2)).trans HK.out.2
      clear hb1 k0 k1
      go_wp2_with fail
      go_loopw [6, 27] (fun s6 s27 wr => ∃ k : Nat, k ≤ 2 ∧ s27 = .int .i64 (k : Int) ∧ Buf w.heap.size w wr s6 (if k = 0 then [] else if k = 1 then l1 else l1 ++ l2)) (fun _ s27 _ => 2 - (intOf s27).toNat)
      case atStart => exact ⟨0, by omega, rfl, HB1.out⟩
      case round =>
        obtain ⟨k, hk, rfl, hb⟩ := hrel
        have k0 := (hb.2.1.cell (p := ⟨g, 0, none⟩) (lt_of_cell HK.out.1)).trans HK.out.1
        have k1 := (hb.2.1.cell (p := ⟨g, 1, none⟩) (lt_of_cell HK.out.2)).trans HK.out.2
        have g1 := hb.2.1
        have HG := Lib.hid g1
        clear g1
        obtain rfl | rfl | rfl : k = 0 ∨ k = 1 ∨ k = 2 := by omega
        · have e1 := HB.out.2.2.1
          subst e1
          go_wp2_with (first | (at_builtin; refine wpList_append_buf rfl _ _ rfl _ [] rfl hb _ c1 l1 rfl (HB.out.1.below HG.out).bs HB.out.1.non (by simp; omega) ?_; intro v w2 hb2 hg2))
          go_roundw
          case rel => exact ⟨1, by omega, rfl, by simpa using hb2⟩
          case measure => simp [intOf]
        · have e2 := HB.out.2.2.2
          subst e2
          simp only [Nat.one_ne_zero, if_false, if_true] at hb
          have hl1' : l1.length ≤ 10000000000000 := by rw [← HB.out.2.2.1]; exact hl1
          go_wp2_with (first | (at_builtin; refine wpList_append_buf rfl _ _ rfl _ l1 rfl hb _ c2 l2 rfl (HB.out.2.1.below HG.out).bs HB.out.2.1.non (by omega) ?_; intro v w2 hb2 hg2))
          go_roundw
          case rel => exact ⟨2, by omega, rfl, by simpa using hb2⟩
          case measure => simp [intOf]
        · have HB2 := Lib.hid hb
          clear hb k0 k1
          go_wp2_with fail
          go_ret
          exact ⟨_, rfl, by simpa using HB2.out⟩
end Go.Proofs.YtponfkfeflnilaaGreatDoor
namespace Go.Proofs.YtponfkfeflnilaaGreatDoor
open Go.RowKit Go.Mix Go.WideMaps Go.Maps

set_option maxRecDepth 100000 in
set_option maxHeartbeats 4000000 in
theorem on_any {w : World} {ca : ChgA} {c : Chg} (hat : ca.at_ = (c.at_ : Int)) (hcut : ca.cut = c.cut) (hb : Sl w ca.a ca.c c.b) (hbn : ca.n = c.b.length) {a : Option Addr} {cp n : Nat} {x : Bytes} (hx : Sl w a cp x) (hn : n = x.length) (hf : c.fits x) (hbl : c.b.length ≤ 1000000000000) (hxl : x.length ≤ 1000000000000) :
    Calls Tryz.prog 75 #[.agg (recA encC ca), .slice a n cp] w fun e w' => ∃ v, e = .returned v ∧ Buf w.heap.size w w' v (c.on x) := by
  have hA : recA encC ca = #[.int .i64 (c.at_ : Int), .int .i64 c.cut, .slice ca.a ca.n ca.c] := by unfold recA encC; rw [hat, hcut]
  rw [hA]
  clear hA hat hcut
  obtain ⟨ab, nb, cb, hab, hnb, hcb⟩ : ∃ ab nb cb, ab = ca.a ∧ nb = ca.n ∧ cb = ca.c := ⟨_, _, _, rfl, rfl, rfl⟩
  rw [← hab, ← hnb, ← hcb]
  rw [← hnb] at hbn
  rw [← hab, ← hcb] at hb
  clear hab hnb hcb
  obtain ⟨bx, hbx⟩ : ∃ bx, bx = w.alloc (.cells #[.int .i64 (c.at_ : Int), .int .i64 c.cut, .slice ab nb cb] 134) := ⟨_, rfl⟩
  have gb : Below w.heap.size w bx := by rw [hbx]; exact (Below.refl _ _).alloc (Nat.le_refl _) _
  have bb : bx.heap[w.heap.size]? = some (.cells #[.int .i64 (c.at_ : Int), .int .i64 c.cut, .slice ab nb cb] 134 (0, 0)) := by rw [hbx]; exact heap_alloc_last _ _ _ rfl
  have f0 := cell_blk bb 0 _ rfl
  have f1 := cell_blk bb 1 _ rfl
  have f2 := cell_blk bb 2 _ rfl
  have HW := Lib.hid (And.intro gb (And.intro bb (And.intro hb (And.intro hx (And.intro hbn hf)))))
  have HX := Lib.hid hbx
  subst hn
  by_cases hc : 0 ≤ c.cut
  · obtain ⟨l2, e2, n2, s2, SL⟩ := hx.to c.cut c.cut.toNat (by omega) (hf.1 hc)
    have CL := clone_any (s2.below gb) rfl (by have := hf.1 hc; omega)
    have t1 : decide ((0 : Int) ≤ c.cut) = true := decide_eq_true hc
    have HE := Lib.hid (And.intro e2 n2)
    clear gb bb hb hx hbn hf e2 n2 s2 hbl hxl
    go_enter Tryz.func75, Tryz.ntmps75
    go_upto_region 1 with (fail)
    rw [← hbx]
    clear hbx HX
    go_wp2_with fail
    refine CL.mono ?_
    clear CL
    rintro e w1 ⟨v, rfl, h1⟩
    have H1 := Lib.hid h1
    clear h1
    go_wp2_with fail
    go_ret
    refine ⟨_, rfl, ?_⟩
    have e3 : c.on x = l2 := by unfold Chg.on; rw [if_pos hc, HE.out.1]
    rw [e3]
    exact H1.out.rebase HW.out.1.size HW.out.1 (Nat.le_refl _)
  · obtain ⟨l2, e2, n2, s2, SL⟩ := hx.to (c.at_ : Int) c.at_ rfl (hf.2 (by omega))
    have t1 : decide ((0 : Int) ≤ c.cut) = false := decide_eq_false hc
    have HE := Lib.hid (And.intro e2 (And.intro n2 s2))
    clear gb bb hb hx hbn hf e2 n2 s2
    go_enter Tryz.func75, Tryz.ntmps75
    go_upto_region 1 with (fail)
    rw [← hbx]
    clear hbx HX
    go_upto_region 3 with (fail)
    have LA : ∀ y : Later bx, (Instr.loadAt 3 (.pointer (some ⟨w.heap.size, 0, none⟩))).run Tryz.prog y.1 = .ok (.int .i64 (c.at_ : Int)) y.1 := fun y => by
      have c := load_later f0 y
      go_simp
    have LB : ∀ y : Later bx, (Instr.loadAt 24 (.pointer (some ⟨w.heap.size, 2, none⟩))).run Tryz.prog y.1 = .ok (.slice ab nb cb) y.1 := fun y => by
      have c := load_later f2 y
      go_simp
    refine wp_region_mg [(0, 0), (1, 0), (2, 0), (3, 0), (4, 0), (5, 0), (6, 1), (7, 1), (8, 0)] (by kernel_rfl) (by kernel_rfl) ?_
    iterate 2 (refine mg_calm rfl (fun K hK => ?_); go_simp; (refine hK _ ?_; clear hK K))
    refine mg_load rfl rfl _ _ rfl _ _ rfl LA ?_
    iterate 2 (refine mg_calm rfl (fun K hK => ?_); go_simp; (refine hK _ ?_; clear hK K))
    refine mg_load rfl rfl _ _ rfl _ _ rfl LB ?_
    refine mg_loud rfl rfl (fun w5 hw5 K hK => ?_)
    have g5 := Grow.trans HW.out.1 hw5
    have b5 : (w5.alloc (.cells #[.slice a l2.length cp, .slice ab nb cb] 24)).heap[w5.heap.size]? = some (.cells #[.slice a l2.length cp, .slice ab nb cb] 24 (0, 0)) := heap_alloc_last _ _ _ rfl
    have g6 : Grow w5 (w5.alloc (.cells #[.slice a l2.length cp, .slice ab nb cb] 24)) := (Below.refl _ _).alloc (Nat.le_refl _) _
    have H5 := Lib.hid (And.intro g5 (And.intro b5 (And.intro g6 hw5)))
    clear g5 b5 g6 hw5 LA LB SL
    go_wp2_with fail
    refine hK _ _ H5.out.2.2.1 ?_
    clear hK K
    refine mg_loud rfl rfl (fun w7 hw7 K hK => ?_)
    have CC := concat_any (H5.out.2.1 |> fun h => (Below.block hw7 _ (lt_of_block h)).trans h) (HE.out.2.2.below (Below.trans H5.out.1 (Below.mono (Grow.trans H5.out.2.2.1 hw7) H5.out.1.size))) (HW.out.2.2.1.below (Below.trans H5.out.1 (Below.mono (Grow.trans H5.out.2.2.1 hw7) H5.out.1.size))) rfl HW.out.2.2.2.2.1 (by have := HE.out.2.1; have := HW.out.2.2.2.2.2.2; omega) (by have := HW.out.2.2.2.2.1; omega)
    have H7 := Lib.hid (Grow.trans (Grow.trans H5.out.2.2.2 H5.out.2.2.1) hw7)
    clear hw7
    go_wp2_with fail
    refine CC.mono ?_
    clear CC
    rintro e w8 ⟨v, rfl, h8⟩
    have H8 := Lib.hid (And.intro (Grow.trans H7.out h8.2.1) h8.1)
    have g8 := h8.2.1
    have HS7 := Lib.hid (show w.heap.size ≤ w7.heap.size from Nat.le_trans HW.out.1.size H7.out.size)
    clear h8
    go_wp2_with fail
    refine hK _ _ g8 ?_
    clear hK K g8
    refine mg_calm rfl (fun K hK => ?_)
    go_simp
    refine hK _ ?_
    clear hK K
    refine mg_nil fun w9 hw9 => ?_
    have g9 := Grow.trans H8.out.1 hw9
    have o9 := H8.out.2.below hw9
    have f0 := (Below.cell g9 (p := ⟨w.heap.size, 0, none⟩) (lt_of_cell f0)).trans f0
    have f2 := (Below.cell g9 (p := ⟨w.heap.size, 2, none⟩) (lt_of_cell f2)).trans f2
    have g9w : Below w.heap.size w w9 := HW.out.1.trans (Below.mono g9 HW.out.1.size)
    have b9 : Buf w.heap.size w w9 v (l2 ++ c.b) := by
      refine ⟨?_, g9w, Nat.le_refl _⟩
      obtain ⟨p1, p2⟩ := o9
      refine ⟨p1, p2.imp id ?_⟩
      rintro ⟨g, cap, cur, e, hg, r⟩
      exact ⟨g, cap, cur, e, Nat.le_trans HS7.out hg, r⟩
    have H9 := Lib.hid (And.intro b9 g9w)
    have hnb := HW.out.2.2.2.2.1
    have hat := HW.out.2.2.2.2.2.2 (by omega)
    have HF := Lib.hid (show c.on x = l2 ++ c.b ++ x.drop (c.at_ + nb) by unfold Chg.on; rw [if_neg (by omega), HE.out.1, hnb])
    clear g9 o9 g9w b9 hw9 f1
    have hat' : (c.at_ : Int) ≤ 1000000000000 := by omega
    have hnb' : (nb : Int) ≤ 1000000000000 := by omega
    by_cases he : c.at_ + nb < x.length
    · have t2 : decide ((c.at_ : Int) + (nb : Int) < (x.length : Int)) = true := decide_eq_true (by omega)
      obtain ⟨a3, l3, c3, e3, s3, SF⟩ := (HW.out.2.2.2.1.below H9.out.2).from ((c.at_ : Int) + (nb : Int)) (c.at_ + nb) (by omega) (by omega)
      have hl3 : l3.length ≤ 1000000000000 := by rw [e3, List.length_drop]; omega
      have hl2 : l2.length ≤ 1000000000000 := by have := HE.out.2.1; omega
      have HS3 := Lib.hid (And.intro s3 e3)
      clear s3 e3 he hnb hat
      have hb9 := H9.out.1
      go_wp2_with (first | (at_builtin; refine wpList_append_buf rfl _ _ rfl _ (l2 ++ c.b) rfl hb9 _ c3 l3 rfl HS3.out.1.bs HS3.out.1.non (by simp; omega) ?_; intro v w2 hb2 hg2))
      go_ret
      exact ⟨_, rfl, by rw [HF.out, ← HS3.out.2]; exact hb2⟩
    · have t2 : decide ((c.at_ : Int) + (nb : Int) < (x.length : Int)) = false := decide_eq_false (by omega)
      have ed : x.drop (c.at_ + nb) = [] := List.drop_of_length_le (by omega)
      have HD := Lib.hid ed
      clear ed he hnb hat
      go_wp2_with fail
      go_ret
      exact ⟨_, rfl, by rw [HF.out, HD.out, List.append_nil]; exact H9.out.1⟩
end Go.Proofs.YtponfkfeflnilaaGreatDoor
namespace Go.Proofs.YtponfkfeflnilaaGreatDoor
open Go.RowKit Go.Mix Go.WideMaps Go.Maps

theorem mg_pure {P : Program} {ops : Array Oper} {Q : Act → World → Prop} {i : Nat} {r : List (Nat × Nat)} {o : Oper} {a : Act} {w : World} (ho : ops[i]? = some o)
    (h : ∀ K : Act → Prop, (∀ a, MG P ops Q r a w → K a) → pureStep P ops o K a) : MG P ops Q ((i, 3) :: r) a w :=
  ⟨mix_pure ho fun K hK => h K fun a h => hK a h.out⟩
theorem grown_below {w w' w2 : World} {row : Option Nat} (h : w.grownBy w' row) (g : Below w'.heap.size w' w2) : w.grownBy w2 row :=
  ⟨g.os.trans h.os, g.tape.trans h.tape, g.output.trans h.output, Nat.le_trans h.size g.size, fun k hk hne => (g.block k (Nat.lt_of_lt_of_le hk h.size)).trans (h.block k hk hne)⟩
theorem rows_below {w w' : World} {e : TypeId} {sz n : Nat} {v : Value} {xs : List Value} (h : w.ownsRow 0 e sz v n xs) (g : Below w.heap.size w w') : w'.ownsRow 0 e sz v n xs :=
  ownsRow_same h fun k hk => g.block k (World.ownsRow.lt h k hk).2
/-- A row of another type is another block. -/
theorem rows_other {w : World} {e t : TypeId} {sz n b : Nat} {v : Value} {xs : List Value} {C : Array Value} {fr : Nat × Nat} (h : w.ownsRow 0 e sz v n xs) (hb : w.heap[b]? = some (.cells C t fr)) (he : t ≠ e) : ∀ g, v.ownBlock = some g → g ≠ b := by
  rintro g hg rfl
  rcases h.2 with ⟨rfl, _⟩ | ⟨g', cap, cur, rfl, _, hh, _⟩
  · simp [Value.ownBlock] at hg
  · simp [Value.ownBlock] at hg
    subst hg
    rw [hh] at hb
    injection hb with hb
    injection hb with _ hb
    exact he hb.symm
theorem ownB_block {w : World} {B g : Nat} {v : Value} {l : Bytes} (h : OwnB w B v l) (hg : v.ownBlock = some g) : B ≤ g ∧ g < w.heap.size := World.ownsRow.lt h g hg

/-- What stands has been stored. -/
theorem FileAt.stand {own : Owns} {w w6 w7 : World} {b : Nat} {f : FileP} (hf : FileAt own w b f) (hlt : ∀ k, own k ≠ none → k < w.heap.size) (g1 : Below w.heap.size w w6) {v : Value} {l : Bytes} (hv : OwnB w6 w.heap.size v l) (g2 : Below w6.heap.size (w6.setCell ⟨b, 0, none⟩ v) w7) :
    FileAt (own.new w.heap.size w7.heap.size fun _ => .bytes) w7 b { f with now := l } ∧ Turn (fun o => o = some (.file b)) own (own.new w.heap.size w7.heap.size fun _ => .bytes) w w7 := by
  obtain ⟨v1, v2, v3, L, h1, h2, h3, h4, h5, h6⟩ := hf.ex
  have hbl : b < w.heap.size := hlt b (by rw [hf.tag]; simp)
  have hs6 : w.heap.size ≤ w6.heap.size := g1.size
  have hs7 : w6.heap.size ≤ w7.heap.size := by have := g2.size; simpa [World.setCell] using this
  have hk : ∀ k, k < w6.heap.size → k ≠ b → w7.heap[k]? = w6.heap[k]? := fun k hk hne => (g2.block k hk).trans (Below.heap_setCell _ _ _ _ hne)
  have ht : Turn (fun o => o = some (.file b)) own (own.new w.heap.size w7.heap.size fun _ => .bytes) w w7 := by
    refine ⟨⟨g2.os.trans g1.os, g2.tape.trans g1.tape, g2.output.trans g1.output, Nat.le_trans hs6 hs7, fun k hk' => ⟨hk'.1, ?_⟩⟩, own.onto_new (Nat.le_trans hs6 hs7) _⟩
    exact (hk k (Nat.lt_of_lt_of_le hk'.1 hs6) (fun e => hk'.2 (by rw [e]; exact hf.tag))).trans (g1.block k hk'.1)
  refine ⟨⟨ht.ow.some hlt hf.tag, v, v2, v3, L, ?_, ?_, h3.turn ht hlt (by simp), ?_, fun g hg => ht.ow.some hlt (h5 g hg), h6.imp fun _ _ hc => hc.turn ht hlt (by simp)⟩, ht⟩
  · rw [g2.block b (Nat.lt_of_lt_of_le hbl hs6), heap_setCell_same _ _ _ _ _ _ ((g1.block b hbl).trans h1)]
    rfl
  · obtain ⟨a, c, e, hs⟩ := hv.sl
    have hx : ∀ x, a = some x → w.heap.size ≤ x.block ∧ x.block < w6.heap.size := fun x hx => ownB_block hv (by rw [e, hx]; rfl)
    refine ⟨a, c, e, sl_same hs fun x hx' => hk _ (hx x hx').2 (by have := (hx x hx').1; omega), fun x hx' => Owns.new_at _ _ (hx x hx').1 (Nat.lt_of_lt_of_le (hx x hx').2 hs7)⟩
  · refine ownsRow_same h4 fun g hg => ?_
    have hgl := (World.ownsRow.lt h4 g hg).2
    exact (hk g (Nat.lt_of_lt_of_le hgl hs6) (rows_other h4 h1 (by decide) g hg)).trans (g1.block g hgl)

/-- One change more has been stored. -/
theorem since_end {own : Owns} {w wb wc wd : World} {b : Nat} {v1 v2 v3 v' : Value} {L : List ChgA} {f : FileP} {x : ChgA} {c : Chg} (hlt : ∀ k, own k ≠ none → k < w.heap.size) (htag : own b = some (.file b))
    (h1 : w.heap[b]? = some (.cells #[v1, v2, v3] 132 (0, 0))) (h2 : SlO own w v1 f.now) (h3 : SlO own w v2 f.kept) (h5 : ∀ g, v3.ownBlock = some g → own g = some (.file b)) (h6 : All2 (ChgIs own w) L f.since)
    (gb : Below w.heap.size w wb) (gc : wb.grownBy wc v3.ownBlock) (hrow : wc.ownsRow 0 134 3 v' (L ++ [x]).length (flatR encC (L ++ [x]))) (hat : v'.ownBlock = v3.ownBlock ∨ v'.ownBlock = some wb.heap.size) (h4 : wb.ownsRow 0 134 3 v3 L.length (flatR encC L))
    (hx : ChgIs own w x c) (gd : Below wc.heap.size (wc.setCell ⟨b, 2, none⟩ v') wd) :
    FileAt (own.new w.heap.size wd.heap.size fun _ => .file b) wd b { f with since := f.since ++ [c] } ∧ Turn (fun o => o = some (.file b)) own (own.new w.heap.size wd.heap.size fun _ => .file b) w wd := by
  have hbl : b < w.heap.size := hlt b (by rw [htag]; simp)
  have hsb : w.heap.size ≤ wb.heap.size := gb.size
  have hsc : wb.heap.size ≤ wc.heap.size := gc.size
  have hsd : wc.heap.size ≤ wd.heap.size := by have := gd.size; simpa [World.setCell] using this
  have hbb := (gb.block b hbl).trans h1
  have hb3 : v3.ownBlock ≠ some b := fun e => rows_other h4 hbb (by decide) b e rfl
  have hbc := (gc.block b (by omega) (fun e => hb3 e.symm)).trans hbb
  have ht : Turn (fun o => o = some (.file b)) own (own.new w.heap.size wd.heap.size fun _ => .file b) w wd := by
    refine ⟨⟨gd.os.trans (gc.os.trans gb.os), gd.tape.trans (gc.tape.trans gb.tape), gd.output.trans (gc.output.trans gb.output), by omega, fun k hk => ⟨hk.1, ?_⟩⟩, own.onto_new (by omega) _⟩
    rw [gd.block k (by have := hk.1; omega), Below.heap_setCell _ _ _ _ (fun e => hk.2 (by rw [e]; exact htag)), gc.block k (by have := hk.1; omega) (fun e => hk.2 (h5 k e.symm)), gb.block k hk.1]
  have hv' : ∀ g, v'.ownBlock = some g → g ≠ b := rows_other hrow hbc (by decide)
  refine ⟨⟨ht.ow.some hlt htag, v1, v2, v', L ++ [x], ?_, h2.turn ht hlt (by simp), h3.turn ht hlt (by simp), ?_, fun g hg => ?_, (h6.imp fun _ _ hc => hc.turn ht hlt (by simp)).append (.one (hx.turn ht hlt (by simp)))⟩, ht⟩
  · rw [gd.block b (by omega), heap_setCell_same _ _ _ _ _ _ hbc]
    rfl
  · refine ownsRow_same hrow fun g hg => ?_
    have := (World.ownsRow.lt hrow g hg).2
    rw [gd.block g this, Below.heap_setCell _ _ _ _ (hv' g hg)]
  · rcases hat with e | e
    · exact ht.ow.some hlt (h5 g (by rw [← e]; exact hg))
    · rw [e] at hg
      injection hg with hg
      have := (World.ownsRow.lt hrow wb.heap.size e).2
      rw [← hg]
      exact Owns.new_at _ _ hsb (by omega)

/-- 'append' of one value onto a row. -/
theorem wpList_append_row1 {α : Type} [Inhabited α] {enc : α → List Value} {L : Nat} {t e : TypeId} (T : RecTy α enc L t e) {w : World} {ops : Array Oper} {rest : List Oper} {o : Oper} {a : Act} {Q : Exit → Act → World → Prop} (hgd : o.guard = none) (s x : Operand)
    (ho : o.op = .call { callee := .builtin .append, args := #[s, x], argTypes := #[t, t] })
    (v : Value) (xs : List α) (hs : a.eval s = v) (hR : w.ownsRow 0 e L v xs.length (flatR enc xs)) (ad : Addr) (c : Nat) (y : α) (hx : a.eval x = .slice (some ad) 1 c) (hy : RsAt enc L w (some ad) c [y])
    (hlen : xs.length ≤ 100000000)
    (h : ∀ v' w', w'.ownsRow 0 e L v' (xs ++ [y]).length (flatR enc (xs ++ [y])) → w.grownBy w' v.ownBlock → (v'.ownBlock = v.ownBlock ∨ v'.ownBlock = some w.heap.size) → wpList Tryz.prog ops Q rest (a.put o.dst v') w') : wpList Tryz.prog ops Q (o :: rest) a w := by
  obtain ⟨z, by_, hi0, hzs, hby⟩ := T.hi
  obtain ⟨i, hi, hz0, hz1, hz2⟩ := info_parts hi0
  have hbound : (xs.length + 1) * by_ ≤ 140737488355328 := Nat.le_trans (Nat.mul_le_mul (Nat.succ_le_succ hlen) hby) (by decide)
  rcases hy.cells with h0 | ⟨b, off, hbe, hc⟩
  · cases h0
  injection hbe with hbe
  subst hbe
  refine wpList_append_own_at w hgd s x t ho 0 e i _ L by_ T.ht hi hz0 hz1 hz2 (by simpa [Value.cells] using hzs) T.pos v xs.length (flatR enc xs) hs hR _ 1 c (flatR enc [y]) hx (by rw [T.flat_len]; rfl) (fun j u hj => ?_) (T.flat_oneCell [y]) (by unfold maxLen; omega) hbound (Nat.zero_le _) ?_
  · rw [Addr.add_mid]; exact (T.range_flat [y] off).2 hc j u hj
  · intro v' w' h1 h2 _ h4
    exact h v' w' (by rw [List.length_append, flatR_append]; exact h1) h2 h4

set_option maxRecDepth 100000 in
set_option maxHeartbeats 4000000 in
theorem do_any {own : Owns} {w : World} {b : Nat} {f : FileP} (hf : FileAt own w b f) (hlt : ∀ k, own k ≠ none → k < w.heap.size) {ca : ChgA} {c : Chg} (hc : ChgIs own w ca c) (hfit : c.fits f.now) (hnl : f.now.length ≤ 1000000000000) (hbl : c.b.length ≤ 1000000000000) (hsl : f.since.length ≤ 100000000) :
    Calls Tryz.prog 87 #[ptr b, .agg (recA encC ca)] w fun e w' => e = .returned (.tuple #[]) ∧ ∃ own', FileAt own' w' b (doF f c) ∧ Turn (fun o => o = some (.file b)) own own' w w' := by
  obtain ⟨v1, v2, v3, L, h1, ⟨a1, c1, rfl, s1, o1⟩, h3, h4, h5, h6⟩ := hf.ex
  have hb0 : b < w.heap.size := hlt b (by rw [hf.tag]; simp)
  obtain ⟨abx, cbx, ebx, sbx, obx⟩ := hc.b
  injection ebx with eb1 eb2 eb3
  subst eb1 eb3
  obtain ⟨bx, hbx⟩ : ∃ bx, bx = w.alloc (.cells (recA encC ca) 134) := ⟨_, rfl⟩
  have gb : Below w.heap.size w bx := by rw [hbx]; exact (Below.refl _ _).alloc (Nat.le_refl _) _
  have bb : bx.heap[w.heap.size]? = some (.cells (recA encC ca) 134 (0, 0)) := by rw [hbx]; exact heap_alloc_last _ _ _ rfl
  have k0 : bx.cell? ⟨b, 0, none⟩ = some (.slice a1 f.now.length c1) := cell_blk ((gb.block b hb0).trans h1) 0 _ rfl
  have LB : ∀ y : Later bx, (Instr.loadAt 134 (.pointer (some ⟨w.heap.size, 0, none⟩))).run Tryz.prog y.1 = .ok (.agg (recA encC ca)) y.1 := fun y => tyC.load ca _ _ _ (rangeR_below (recBox bb) y.2)
  have L1 : ∀ y : Later bx, (Instr.loadAt 24 (.pointer (some ⟨b, 0, none⟩))).run Tryz.prog y.1 = .ok (.slice a1 f.now.length c1) y.1 := fun y => by
    have c := load_later k0 y
    go_simp
  have HH := Lib.hid (And.intro gb (And.intro bb (And.intro hf (And.intro hlt (And.intro hc (And.intro hfit (And.intro hb0 (And.intro s1 (And.intro sbx eb2)))))))))
  have HL := Lib.hid (And.intro hnl (And.intro hbl hsl))
  clear gb bb k0 hf hlt hc hfit hb0 s1 sbx eb2 h1 o1 h3 h4 h5 h6 obx hnl hbl hsl
  go_enter Tryz.func87, Tryz.ntmps87
  go_upto_region 1 with (fail)
  rw [← hbx]
  clear hbx
  obtain ⟨nn, hnn⟩ : ∃ nn, nn = f.now.length := ⟨_, rfl⟩
  have HN := Lib.hid hnn
  rw [← hnn] at L1
  clear hnn
  generalize hRC : recA encC ca = RC at *
  have HRC := Lib.hid hRC
  clear hRC
  refine wp_region_mg [(0, 0), (1, 0), (2, 0), (3, 0), (4, 0), (5, 0), (6, 1), (7, 0), (8, 0), (9, 2)] (by kernel_rfl) (by kernel_rfl) ?_
  refine mg_calm rfl (fun K hK => ?_); go_simp; (refine hK _ ?_; clear hK K)
  refine mg_load rfl rfl _ _ rfl _ _ rfl LB ?_
  iterate 3 (refine mg_calm rfl (fun K hK => ?_); go_simp; (refine hK _ ?_; clear hK K))
  refine mg_load rfl rfl _ _ rfl _ _ rfl L1 ?_
  refine mg_loud rfl rfl (fun w4 hw4 K hK => ?_)
  obtain ⟨gb, bb, hf, hlt, hc, hfit, hb0, s1, sbx, eb2⟩ := HH.out
  have g4 : Below w.heap.size w w4 := gb.trans (Below.mono hw4 gb.size)
  have CO := on_any hc.at_ hc.cut (sbx.below g4) eb2 (s1.below g4) HN.out hfit HL.out.2.1 HL.out.1
  rw [HRC.out] at CO
  have H4 := Lib.hid (And.intro g4 hw4)
  clear gb bb hf hlt hc hfit hb0 s1 sbx eb2 g4 hw4
  go_wp2_with fail
  refine CO.mono ?_
  clear CO
  rintro e w5 ⟨v, rfl, h5⟩
  obtain ⟨av, mv, cv, rfl⟩ := h5.1.slice
  have H5 := Lib.hid (And.intro (H4.out.1.trans (h5.2.1.mono H4.out.1.size)) (And.intro (h5.rebase H4.out.1.size H4.out.1 (Nat.le_refl _)).1 (Grow.trans H4.out.2 h5.2.1)))
  have g5 := h5.2.1
  clear h5
  go_wp2_with fail
  refine hK _ _ g5 ?_
  clear hK K g5
  iterate 2 (refine mg_calm rfl (fun K hK => ?_); go_simp; (refine hK _ ?_; clear hK K))
  refine mg_sync rfl rfl (fun w6 hw6 K hK => ?_)
  have g6 : Below w.heap.size w w6 := H5.out.1.trans (Below.mono hw6 H5.out.1.size)
  obtain ⟨v1, v2, v3, L, h1, h2, h3, h4, h5, h6⟩ := HH.out.2.2.1.ex
  have hb6 := (g6.block b HH.out.2.2.2.2.2.2.1).trans h1
  have k6 := cell_blk hb6 0 _ rfl
  have f6 := free_blk hb6 0
  have H6 := Lib.hid (And.intro g6 (And.intro (H5.out.2.1.below hw6) (Grow.trans H5.out.2.2 hw6)))
  clear g6 h1 h2 h3 h4 h5 h6 hb6 hw6
  go_wp2_with fail
  refine mg_nil fun w7 hw7 => ?_
  obtain ⟨hf7, ht7⟩ := HH.out.2.2.1.stand HH.out.2.2.2.1 H6.out.1 H6.out.2.1 (by have := hw7.mono (B' := w6.heap.size) (by simp [World.setCell]); exact this)
  have bb7 : w7.heap[w.heap.size]? = some (.cells RC 134 (0, 0)) := by
    have l1 : w.heap.size < bx.heap.size := lt_of_block HH.out.2.1
    have l2 := Below.size H6.out.2.2
    rw [hw7.block _ (by simp [World.setCell]; omega), Below.heap_setCell _ _ _ _ (by have := HH.out.2.2.2.2.2.2.1; show w.heap.size ≠ b; omega), Below.block H6.out.2.2 _ l1]
    exact HH.out.2.1
  have hlt7 := ht7.ow.lt
  have hc7 := HH.out.2.2.2.2.1.turn ht7 HH.out.2.2.2.1 (by simp)
  have HT7 := Lib.hid (And.intro ht7 (And.intro hlt7 (And.intro hc7 hf7.tag)))
  obtain ⟨u1, u2, u3, L, p1, p2, p3, p4, p5, p6⟩ := hf7.ex
  have HP := Lib.hid (And.intro p1 (And.intro p2 (And.intro p3 (And.intro p4 (And.intro p5 p6)))))
  have k2 : w7.cell? ⟨b, 2, none⟩ = some u3 := cell_blk p1 2 _ rfl
  have LS : ∀ y : Later w7, (Instr.loadAt 130 (.pointer (some ⟨b, 2, none⟩))).run Tryz.prog y.1 = .ok u3 y.1 := fun y => by
    have c := load_later k2 y
    go_simp
  have LB7 : ∀ y : Later w7, (Instr.loadAt 134 (.pointer (some ⟨w.heap.size, 0, none⟩))).run Tryz.prog y.1 = .ok (.agg RC) y.1 := fun y => by
    rw [← HRC.out] at bb7 ⊢
    exact tyC.load ca _ _ _ (rangeR_below (recBox bb7) y.2)
  have BS : ∀ W : World, (Instr.buildSlice 130 1 #[(0, .agg RC)]).run Tryz.prog W = .ok (.slice (some ⟨W.heap.size, 0, none⟩) 1 1) (W.alloc (.cells RC 134)) := fun W => by rw [← HRC.out]; exact tyC.slice1 ca W
  clear hf7 ht7 hlt7 hc7 p1 p2 p3 p4 p5 p6 k2 bb7 hw7 LB L1
  clear k6 f6
  go_upto_region 2 with (fail)
  refine wp_region_mg [(0, 3), (1, 0), (2, 0), (3, 0), (4, 0), (5, 0), (6, 1), (7, 2), (8, 0), (9, 0), (10, 2)] (by kernel_rfl) (by kernel_rfl) ?_
  refine mg_pure rfl (fun K hK => ?_); go_simp; (refine hK _ ?_; clear hK K)
  iterate 3 (refine mg_calm rfl (fun K hK => ?_); go_simp; (refine hK _ ?_; clear hK K))
  refine mg_load rfl rfl _ _ rfl _ _ rfl LS ?_
  refine mg_load rfl rfl _ _ rfl _ _ rfl LB7 ?_
  refine mg_buildSlice_g rfl rfl _ _ _ rfl [(0, .agg RC)] RC 134 1 1 rfl BS (fun w8 hw8 => ?_)
  have g8 : Grow w8 (w8.alloc (.cells RC 134)) := (Below.refl _ _).alloc (Nat.le_refl _) _
  have y8 : RsAt encC 3 (w8.alloc (.cells RC 134)) (some ⟨w8.heap.size, 0, none⟩) 1 [ca] := by rw [← HRC.out]; exact RsAt.one w8 _ ca
  have H8 := Lib.hid (And.intro hw8 (And.intro g8 y8))
  clear hw8 y8 g8
  refine mg_sync rfl rfl (fun w9 hw9 K hK => ?_)
  have g9 : Below w7.heap.size w7 w9 := Grow.trans (Grow.trans H8.out.1 H8.out.2.1) hw9
  have r9 := rows_below HP.out.2.2.2.1 g9
  have y9 := H8.out.2.2.below hw9
  have hL : L.length ≤ 100000000 := by rw [HP.out.2.2.2.2.2.length]; exact HL.out.2.2
  have H9 := Lib.hid (And.intro g9 (And.intro r9 y9))
  clear g9 r9 y9 hw9
  refine wpList_append_row1 tyC rfl _ _ rfl u3 L rfl H9.out.2.1 ⟨w8.heap.size, 0, none⟩ 1 ca rfl H9.out.2.2 hL ?_
  intro v' w10 hr10 hg10 hat10
  obtain ⟨ar, nr, cr, rfl⟩ : ∃ a n c, v' = .slice a n c := by
    rcases hr10.2 with ⟨rfl, _⟩ | ⟨g, cap, cur, rfl, _⟩
    · exact ⟨_, _, _, rfl⟩
    · exact ⟨_, _, _, rfl⟩
  have H10 := Lib.hid (And.intro hr10 (And.intro hg10 hat10))
  clear hr10 hg10 hat10 hL
  go_wp2_with fail
  iterate 2 (refine mg_calm rfl (fun K hK => ?_); go_simp; (refine hK _ ?_; clear hK K))
  refine mg_sync rfl rfl (fun w11 hw11 K hK => ?_)
  have hb9 := (H9.out.1.block b (lt_of_block HP.out.1)).trans HP.out.1
  have hb11 : w11.heap[b]? = some (.cells #[u1, u2, u3] 132 (0, 0)) := by
    have hne : u3.ownBlock ≠ some b := fun e => rows_other H9.out.2.1 hb9 (by decide) b e rfl
    have l9 := lt_of_block hb9
    have e10 := (H10.out.2.1.block b l9 (fun e => hne e.symm)).trans hb9
    exact (Below.block hw11 b (lt_of_block e10)).trans e10
  have k11 := cell_blk hb11 2 _ rfl
  have f11 := free_blk hb11 2
  have H11 := Lib.hid hw11
  clear hb9 hb11 hw11
  go_wp2_with fail
  refine mg_nil fun w12 hw12 => ?_
  obtain ⟨hlt7, hc7, ht7⟩ : (∀ k, _ → k < w7.heap.size) ∧ _ ∧ _ := ⟨HT7.out.2.1, HT7.out.2.2.1, HT7.out.2.2.2⟩
  obtain ⟨hf12, ht12⟩ := since_end (f := { f with now := c.on f.now }) hlt7 ht7 HP.out.1 HP.out.2.1 HP.out.2.2.1 HP.out.2.2.2.2.1 HP.out.2.2.2.2.2 H9.out.1 (grown_below H10.out.2.1 H11.out) (rows_below H10.out.1 H11.out) H10.out.2.2 H9.out.2.1 hc7 (by have := hw12.mono (B' := w11.heap.size) (by simp [World.setCell]); exact this)
  have HE := Lib.hid (And.intro hf12 (HT7.out.1.trans ht12))
  clear hf12 ht12 hw12 hlt7 hc7 ht7
  go_wp2_with fail
  refine bodyPost_end (results_none rfl _ _ _) rfl ?_
  exact ⟨rfl, _, HE.out.1, HE.out.2⟩
end Go.Proofs.YtponfkfeflnilaaGreatDoor
namespace Go.Proofs.YtponfkfeflnilaaGreatDoor
open Go.RowKit Go.Mix Go.WideMaps Go.Maps

abbrev Any : Option Own → Prop := fun o => o ≠ none
/-- What a call on a store leaves. -/
def Left (own : Owns) (w : World) (p : Nat) (r : StP × Int) (e : Ending) (w' : World) : Prop := e = .returned (.int .i64 r.2) ∧ ∃ own', StoreAt own' w' p r.1 ∧ Turn Any own own' w w'

theorem slO_buf (own : Owns) {w w' : World} {v : Value} {l : Bytes} (h : OwnB w' w.heap.size v l) : SlO (own.new w.heap.size w'.heap.size fun _ => .bytes) w' v l := by
  obtain ⟨a, c, e, hs⟩ := h.sl
  exact ⟨a, c, e, hs, fun x hx => Owns.new_at _ _ (ownB_block h (by rw [e, hx]; rfl)).1 (ownB_block h (by rw [e, hx]; rfl)).2⟩
section
variable {own own' : Owns} {w w' : World} {p M : Nat} {G : Bytes → Nat} {S : StP}
theorem StoreIn.newBytes (h : StoreIn own w p M G S) (g : Below w.heap.size w w') (t : Nat → Own) : StoreIn (own.new w.heap.size w'.heap.size t) w' p M G S ∧ Turn (fun _ => False) own (own.new w.heap.size w'.heap.size t) w w' :=
  ⟨h.turn (T := fun _ => False) (Turn.made own g t) id id fun _ _ _ => id, Turn.made own g t⟩
theorem turn_any {T : Option Own → Prop} (h : Turn T own own' w w') (hT : ∀ o, T o → o ≠ none) : Turn Any own own' w w' := h.mono hT
theorem turn_root (h : Turn (fun o => o = some .root) own own' w w') : Turn Any own own' w w' := h.mono fun o e => by rw [e]; simp
theorem turn_file {b : Nat} (h : Turn (fun o => o = some (.file b)) own own' w w') : Turn Any own own' w w' := h.mono fun o e => by rw [e]; simp
theorem turn_no (h : Turn (fun _ => False) own own' w w') : Turn Any own own' w w' := h.mono fun _ => False.elim
theorem Left.same (h : StoreIn own w p M G S) (g : Below w.heap.size w w') (n : Int) : Left own w p (S, n) (.returned (.int .i64 n)) w' := ⟨rfl, own, ⟨M, G, h.below g⟩, Turn.below g h.lt⟩
/-- A place in the map for a file. -/
theorem StoreIn.putMap (h : StoreIn own w p M G S) (hs : Sorted S.files) (hfew : S.files.length ≤ 1000000) {x : Bytes} (hx : x.length ≤ 1000000) {b : Nat} {f : FileP} (hf : FileAt own w b f) (hb : ∀ y, y ≠ x → (getF S.files y).isSome = true → G y ≠ b) :
    ∃ w', (Instr.mapUpdate 126 (.map (some M)) (.string (strOf x)) (ptr b)).run Tryz.prog w = .ok () w' ∧ StoreIn own w' p M (updG G x b) { S with files := putF S.files x f } ∧ Turn (fun o => o = some .root) own own w w' := by
  obtain ⟨w', hrun, hm, hg, hsz⟩ := h.map.put hs hfew x hx f b
  obtain ⟨h1, h2⟩ := h.mapped hm hg hsz (fun y f' hy => by
    rw [getF_put] at hy
    unfold updG
    by_cases e : y = x
    · rw [if_pos e] at hy ⊢
      injection hy with hy
      subst hy; exact hf
    · rw [if_neg e] at hy ⊢
      exact h.file y f' hy) (fun y z hy hz hyz => by
    rw [getF_put] at hy hz
    unfold updG at hyz
    by_cases ey : y = x
    · by_cases ez : z = x
      · rw [ey, ez]
      · rw [if_pos ey, if_neg ez] at hyz
        rw [if_neg ez] at hz
        exact absurd hyz.symm (hb z ez hz)
    · by_cases ez : z = x
      · rw [if_neg ey, if_pos ez] at hyz
        rw [if_neg ey] at hy
        exact absurd hyz (hb y ey hy)
      · rw [if_neg ey, if_neg ez] at hyz
        rw [if_neg ey] at hy
        rw [if_neg ez] at hz
        exact h.inj y z hy hz hyz)
  exact ⟨w', hrun, h1, h2⟩
theorem Sl.foreign {T : Option Own → Prop} {a : Option Addr} {c : Nat} {l : Bytes} (h : Sl w a c l) (g : Turn T own own' w w') (hT : ¬ T none) (ho : ∀ x, a = some x → own x.block = none) : Sl w' a c l := by
  by_cases hl : l = []
  · subst hl; exact ⟨.inl rfl, h.le, h.max, h.non⟩
  · refine sl_same h fun x hx => (g.frame.keep x.block ⟨?_, by rw [ho x hx]; exact hT⟩).2
    rcases h.bs with h | ⟨b, off, e, hc⟩
    · exact absurd h hl
    · rw [e] at hx
      injection hx with hx
      subst hx
      exact lt_of_cell (hc 0 (List.length_pos_iff.2 hl))
/-- A new file's block. -/
theorem file_new (own : Owns) (w : World) : FileAt (own.new w.heap.size (w.alloc (.cells #[.slice none 0 0, .slice none 0 0, .slice none 0 0] 132)).heap.size fun _ => .file w.heap.size) (w.alloc (.cells #[.slice none 0 0, .slice none 0 0, .slice none 0 0] 132)) w.heap.size file0 := by
  have hsz : (w.alloc (.cells #[.slice none 0 0, .slice none 0 0, .slice none 0 0] 132)).heap.size = w.heap.size + 1 := by simp
  exact ⟨Owns.new_at _ _ (Nat.le_refl _) (by omega), _, _, _, [], heap_alloc_last _ _ _ rfl, SlO.nil _ _, SlO.nil _ _, World.ownsRow_nil _ _ _ _, fun g hg => by simp [Value.ownBlock] at hg, .nil⟩
end

set_option maxRecDepth 100000 in
set_option maxHeartbeats 8000000 in
theorem write_any {own : Owns} {w : World} {p M Z : Nat} {G : Bytes → Nat} {S : StP} (h : StoreIn own w p M G S) (ok : OkS Z S) (hZ : Z ≤ 100000000) (path : Bytes) (hp : path.length ≤ 100000) (at_ : Int) (hat : -9223372036854775808 ≤ at_ ∧ at_ ≤ 9223372036854775807)
    {ab : Option Addr} {nb cb : Nat} {b : Bytes} (hb : Sl w ab cb b) (hn : nb = b.length) (hbl : nb ≤ 1000000000) (hbo : ∀ x, ab = some x → own x.block = none) :
    Calls Tryz.prog 53 #[ptr p, .string (strOf path), .int .i64 at_, .slice ab nb cb] w fun e w' => Left own w p (writeS S path at_ b) e w' := by
  have C1 := off_any h
  have C2 := right_any path hp w
  have HH := Lib.hid (And.intro h (And.intro ok (And.intro hb hn)))
  have HZ := Lib.hid (And.intro hZ hp)
  have HBO := Lib.hid hbo
  clear h ok hb hn hZ hp hbo
  obtain ⟨D, hD⟩ : ∃ D, D = S.down := ⟨_, rfl⟩
  obtain ⟨R, hR⟩ : ∃ R, R = rightF path := ⟨_, rfl⟩
  rw [← hD] at C1
  rw [← hR] at C2
  have HD := Lib.hid hD
  have HR := Lib.hid hR
  clear hD hR
  go_enter Tryz.func53, Tryz.ntmps53
  go_wp2_with fail
  refine C1.mono ?_
  clear C1
  rintro e w' ⟨rfl, rfl⟩
  cases D
  case true =>
    go_wp2_with fail
    go_ret
    unfold writeS
    rw [if_pos HD.out.symm]
    exact Left.same HH.out.1 (Below.refl _ _) _
  go_wp2_with fail
  refine C2.mono ?_
  clear C2
  rintro e w1 ⟨rfl, hw1⟩
  have H1 := Lib.hid hw1
  clear hw1
  cases R
  case false =>
    go_wp2_with fail
    go_ret
    unfold writeS
    rw [if_neg (by rw [← HD.out]; simp), if_pos (by rw [← HR.out]; rfl)]
    exact Left.same HH.out.1 H1.out _
  by_cases h0 : at_ < 0
  · have t0 : decide (at_ < 0) = true := decide_eq_true h0
    go_wp2_with fail
    go_ret
    unfold writeS
    rw [if_neg (by rw [← HD.out]; simp), if_pos (by rw [decide_eq_true h0]; simp)]
    exact Left.same HH.out.1 H1.out _
  have t0 : decide (at_ < 0) = false := decide_eq_false h0
  have C3 := free_any (HH.out.1.below H1.out) (fun q hq => (HH.out.2.1.ok q hq).2.1) path path HZ.out.2
  obtain ⟨F, hF⟩ : ∃ F, F = freeF S.files path path := ⟨_, rfl⟩
  rw [← hF] at C3
  have HF := Lib.hid hF
  clear hF
  go_wp2_with fail
  refine C3.mono ?_
  clear C3
  rintro e w2 ⟨rfl, hw2⟩
  have H2 := Lib.hid (H1.out.trans (hw2.mono H1.out.size))
  clear hw2
  cases F
  case false =>
    go_wp2_with fail
    go_ret
    unfold writeS
    rw [if_neg (by rw [← HD.out]; simp), if_neg (by rw [← HR.out, decide_eq_false (by omega)]; simp), if_pos (by rw [← HF.out]; rfl)]
    exact Left.same HH.out.1 H2.out _
  have h2 := HH.out.1.below H2.out
  obtain ⟨-, -, c2, -⟩ := h2.cells
  have LK := h2.map.look_ok path (by have := HZ.out.2; omega)
  have HS2 := Lib.hid h2
  clear h2
  obtain ⟨K, hK⟩ : ∃ K, K = (getF S.files path).isSome := ⟨_, rfl⟩
  have HK := Lib.hid hK
  obtain ⟨V, hV⟩ : ∃ V, V = placeV G S.files path := ⟨_, rfl⟩
  have HV := Lib.hid hV
  rw [← hK, ← hV] at LK
  clear hK hV
  go_upto_if 36 with (fail)
  go_cut [9] (fun s9 wx => ∃ b own3, s9 = ptr b ∧ StoreIn own3 wx p M G S ∧ FileAt own3 wx b ((getF S.files path).getD file0) ∧ Turn Any own own3 w wx ∧ ∀ y, y ≠ path → (getF S.files y).isSome = true → G y ≠ b)
  case first =>
    have HX := HK.out
    cases hx : getF S.files path with
    | none =>
      rw [hx] at HX
      obtain rfl : K = false := HX
      have hv : V = .pointer none := by rw [HV.out]; exact placeV_none hx
      subst hv
      have HX2 := Lib.hid hx
      clear hx
      go_wp2_with fail
      go_meet
      obtain ⟨g1, g2⟩ := HS2.out.newBytes ((Below.refl w2.heap.size w2).alloc (Nat.le_refl _) (.cells #[.slice none 0 0, .slice none 0 0, .slice none 0 0] 132)) (fun _ => .file w2.heap.size)
      refine ⟨_, _, rfl, g1, ?_, (Turn.below (T := Any) H2.out HH.out.1.lt).trans (turn_no g2), fun y _ hy e => ?_⟩
      · rw [HX2.out]; exact file_new own w2
      · obtain ⟨f, hf⟩ := Option.isSome_iff_exists.1 hy
        have := HS2.out.lt (G y) (by rw [(HS2.out.file y f hf).tag]; simp)
        omega
    | some f =>
      rw [hx] at HX
      obtain rfl : K = true := HX
      have hv : V = ptr (G path) := by rw [HV.out]; exact placeV_some hx
      subst hv
      have HX2 := Lib.hid hx
      clear hx
      go_wp2_with fail
      go_meet
      refine ⟨_, _, rfl, HS2.out, ?_, Turn.below (T := Any) H2.out HH.out.1.lt, fun y hy hs e => hy (HS2.out.inj y path hs (by rw [HX2.out]; rfl) e)⟩
      rw [HX2.out]; exact HS2.out.file path f HX2.out
  case rest =>
    obtain ⟨bf, own3, rfl, hs3, hf3, ht3, hG3⟩ := hcut
    obtain ⟨f, hf⟩ : ∃ f, f = (getF S.files path).getD file0 := ⟨_, rfl⟩
    rw [← hf] at hf3
    have hfo : f.ok ∧ f.now.length ≤ Z ∧ f.since.length ≤ Z := by
      rw [hf]
      cases hx : getF S.files path with
      | none => exact ⟨file0_ok, Nat.zero_le _, Nat.zero_le _⟩
      | some g =>
        have := HH.out.2.1.ok _ (getF_mem hx)
        exact ⟨this.1, this.2.2.1, this.2.2.2.2⟩
    obtain ⟨v1, v2, v3, L, p1, ⟨a1, c1, rfl, s1, o1⟩, -⟩ := hf3.ex
    have k0 := cell_blk p1 0 _ rfl
    obtain ⟨nn, hnn⟩ : ∃ nn, nn = f.now.length := ⟨_, rfl⟩
    rw [← hnn] at k0
    obtain ⟨q0, q1, q2, -⟩ := hs3.cells
    have SZ := hs3.map.size HH.out.2.1.sorted
    obtain ⟨nf, hnf⟩ : ∃ nf, nf = S.files.length := ⟨_, rfl⟩
    rw [← hnf] at SZ
    have hused := HH.out.2.1.used
    have hsum := sumF_le Z S.files (fun q hq => (HH.out.2.1.ok q hq).2.2.1)
    have hfew := HH.out.2.1.few
    have hZ := HZ.out.1
    have hmul : Z * S.files.length ≤ 1000000000000 := Nat.le_trans (Nat.mul_le_mul hZ hfew) (by decide)
    have husedb : 0 ≤ S.used ∧ S.used ≤ 1000000000000 := by rw [hused]; omega
    have hquota := HH.out.2.1.quota
    have hneg := HH.out.2.1.neg
    have hwq : IntKind.i64.wrap (S.quota - S.used) = S.quota - S.used := IntWalk.i64_in _ (by omega)
    have hnnb : nn ≤ 100000000 := by rw [hnn]; omega
    have H3 := Lib.hid (And.intro hs3 (And.intro hf3 (And.intro ht3 (And.intro hG3 (And.intro hf (And.intro hfo (And.intro hnn (And.intro hnf (And.intro hfew husedb)))))))))
    have HQ := Lib.hid hwq
    clear hs3 hf3 ht3 hG3 hf hfo p1 s1 o1 hnn hnf hused hsum hfew hZ hmul hneg hquota hwq c2 LK
    by_cases h1 : (nn : Int) < at_
    · have t1 : decide ((nn : Int) < at_) = true := decide_eq_true h1
      go_wp2_with fail
      go_ret
      unfold writeS
      rw [if_neg (by rw [← HD.out]; simp), if_neg (by rw [← HR.out, decide_eq_false (by omega)]; simp), if_neg (by rw [← HF.out]; simp), if_pos (by rw [← H3.out.2.2.2.2.1, ← H3.out.2.2.2.2.2.2.1]; exact h1)]
      exact ⟨rfl, own3, ⟨M, G, H3.out.1⟩, H3.out.2.2.1⟩
    have t1 : decide ((nn : Int) < at_) = false := decide_eq_false h1
    obtain ⟨mo, hmo⟩ : ∃ mo, mo = max 0 (at_ + (nb : Int) - (nn : Int)) := ⟨_, rfl⟩
    have MX := max_run 0 (at_ + (nb : Int) - (nn : Int)) mo hmo
    have HM := Lib.hid hmo
    have hmob : 0 ≤ mo ∧ mo ≤ 1000000000 := by omega
    clear hmo
    obtain ⟨qu, hqu⟩ : ∃ qu, qu = S.quota := ⟨_, rfl⟩
    obtain ⟨us, hus⟩ : ∃ us, us = S.used := ⟨_, rfl⟩
    have HQU := Lib.hid (And.intro hqu hus)
    have hwq := HQ.out
    rw [← hqu] at q0
    rw [← hus] at q1
    rw [← hqu, ← hus] at hwq
    have LQ : ∀ x : Later wc, x.1.cell? ⟨p, 0, none⟩ = some (.int .i64 qu) := fun x => load_later q0 x
    have LU : ∀ x : Later wc, x.1.cell? ⟨p, 1, none⟩ = some (.int .i64 us) := fun x => load_later q1 x
    have LM : ∀ x : Later wc, x.1.cell? ⟨p, 2, none⟩ = some (.map (some M)) := fun x => load_later q2 x
    have LZ : ∀ (x : Later wc) (ty : TypeId), (Builtin.len_ #[126] ty #[.map (some M)]).run Tryz.prog x.1 = .ok (.int .i64 (nf : Int)) x.1 := fun x ty => by
      have h1 := (H3.out.1.map.same (x.2.block M H3.out.1.map.lt)).size HH.out.2.1.sorted ty
      rw [← H3.out.2.2.2.2.2.2.2.1] at h1
      exact h1
    obtain ⟨B1, hB1⟩ : ∃ B, B = decide (qu - us < mo) := ⟨_, rfl⟩
    obtain ⟨B2, hB2⟩ : ∃ B, B = decide (0 < mo) := ⟨_, rfl⟩
    obtain ⟨B4, hB4⟩ : ∃ B, B = decide ((10000 : Int) ≤ (nf : Int)) := ⟨_, rfl⟩
    have HB := Lib.hid (And.intro hB1 (And.intro hB2 hB4))
    clear hqu hus q0 q1 q2 SZ hB1 hB2 hB4
    go_upto_region 13 with (fail)
    clear k0 MX
    go_cut [83] (fun s83 wx => s83 = .bool ((B1 && B2) || (!K && B4)) ∧ Below wc.heap.size wc wx)
    case first =>
      have e1 : decide (qu - us < mo) = B1 := HB.out.1.symm
      have e2 : decide (0 < mo) = B2 := HB.out.2.1.symm
      have e4 : decide ((10000 : Int) ≤ (nf : Int)) = B4 := HB.out.2.2.symm
      clear HB
      have hca : (B1 = true ∧ B2 = true) ∨ ((B1 = false ∨ (B1 = true ∧ B2 = false)) ∧ (K = true ∨ (K = false ∧ (B4 = true ∨ B4 = false)))) := by
        cases B1 <;> cases B2 <;> cases K <;> cases B4 <;> simp
      rcases hca with ⟨rfl, rfl⟩ | ⟨rfl | ⟨rfl, rfl⟩, rfl | ⟨rfl, rfl | rfl⟩⟩
      all_goals
        refine wp_region_mg [(0, 0), (1, 0), (2, 0), (3, 0), (4, 0), (5, 0), (6, 0), (7, 0), (8, 0), (9, 0), (10, 0), (11, 0), (12, 0), (13, 0), (14, 0), (15, 0), (16, 0), (17, 0), (18, 0), (19, 0), (20, 0), (21, 0), (22, 0), (23, 0), (24, 0), (25, 0), (26, 0)] (by kernel_rfl) (by kernel_rfl) ?_
        iterate 27 (refine mg_calm rfl (fun K hK => ?_); go_simp; (refine hK _ ?_; clear hK K))
        refine mg_nil fun w5 hw5 => ?_
        have H5 := Lib.hid hw5
        clear hw5
        go_wp2_with fail
        go_meet
        exact ⟨by simp, H5.out⟩
    case rest =>
      obtain ⟨rfl, hw5⟩ := hcut
      have H5 := Lib.hid hw5
      clear hw5 LQ LU LM LZ hwq
      obtain ⟨full, hfull⟩ : ∃ full, full = ((B1 && B2) || (!K && B4)) := ⟨_, rfl⟩
      have hfull2 : full = ((decide (max 0 (at_ + (b.length : Int) - (((getF S.files path).getD file0).now.length : Nat)) > S.quota - S.used) && decide (max 0 (at_ + (b.length : Int) - (((getF S.files path).getD file0).now.length : Nat)) > 0)) || ((getF S.files path).isNone && decide (10000 ≤ S.files.length))) := by
        rw [hfull, HB.out.1, HB.out.2.1, HB.out.2.2, HM.out, HQU.out.1, HQU.out.2, HK.out, HH.out.2.2.2, H3.out.2.2.2.2.2.2.1, H3.out.2.2.2.2.1, H3.out.2.2.2.2.2.2.2.1]
        have e4 : decide ((10000 : Int) ≤ (S.files.length : Int)) = decide (10000 ≤ S.files.length) := by rw [Bool.eq_iff_iff, decide_eq_true_eq, decide_eq_true_eq]; omega
        rw [e4]
        cases getF S.files path <;> rfl
      have HFU := Lib.hid hfull2
      rw [← hfull]
      clear hfull hfull2
      cases full
      case true =>
        go_wp2_with fail
        go_ret
        unfold writeS
        rw [if_neg (by rw [← HD.out]; simp), if_neg (by rw [← HR.out, decide_eq_false (by omega)]; simp), if_neg (by rw [← HF.out]; simp), if_neg (by rw [← H3.out.2.2.2.2.1, ← H3.out.2.2.2.2.2.2.1]; omega), if_pos HFU.out.symm]
        exact ⟨rfl, own3, ⟨M, G, H3.out.1.below H5.out⟩, H3.out.2.2.1.trans (Turn.below H5.out H3.out.1.lt)⟩
      have hs5 := H3.out.1.below H5.out
      have hf5 := H3.out.2.1.turn (T := fun _ => False) (Turn.below H5.out H3.out.1.lt) H3.out.1.lt id id
      obtain ⟨w6, hrun, hs6, ht6⟩ := hs5.putMap HH.out.2.1.sorted (by have := HH.out.2.1.few; omega) (x := path) (by have := HZ.out.2; omega) hf5 H3.out.2.2.2.1
      obtain ⟨-, -, q2, -⟩ := hs5.cells
      have HT5 := Lib.hid (H3.out.2.2.1.trans (Turn.below (T := Any) H5.out H3.out.1.lt))
      have H6 := Lib.hid (And.intro hs6 ht6)
      clear hs5 hf5 hs6 ht6
      go_upto_region 16 with (fail)
      obtain ⟨-, q1, -⟩ := H6.out.1.cells
      have f1 := H6.out.1.free 1
      have hwu : IntKind.i64.wrap (us + mo) = us + mo := IntWalk.i64_in _ (by have := H3.out.2.2.2.2.2.2.2.2.2; rw [← HQU.out.2] at this; omega)
      change _ = some (Value.int .i64 S.used) at q1
      rw [← HQU.out.2] at q1
      obtain ⟨hs7, ht7⟩ := H6.out.1.setRoot (k := 1) (v := .int .i64 (us + mo)) (S' := { S with used := us + mo, files := putF S.files path f }) rfl rfl
      have H7 := Lib.hid (And.intro hs7 ((HT5.out.trans (turn_root H6.out.2)).trans (turn_root ht7)))
      clear hs7 ht7 q2
      go_upto_region 17 with (fail)
      clear q1 f1 hwu
      generalize w6.setCell ⟨p, 1, none⟩ (Value.int .i64 (us + mo)) = w7 at *
      have s7 := HH.out.2.2.1.foreign H7.out.2 (by simp) HBO.out
      have CC := clone_any s7 rfl (by have := HH.out.2.2.2; omega)
      rw [← HH.out.2.2.2] at CC
      clear s7
      go_wp2_with fail
      refine CC.mono ?_
      clear CC
      rintro e w8 ⟨v, rfl, h8⟩
      obtain ⟨av, nv, cv, rfl⟩ := h8.1.slice
      obtain ⟨hs8, ht8⟩ := H7.out.1.newBytes h8.2.1 (fun _ => .bytes)
      have sb8 := slO_buf own3 h8.1
      have hfit : Chg.fits ⟨at_.toNat, -1, b⟩ f.now := ⟨fun h => absurd (show (0 : Int) ≤ -1 from h) (by decide), fun _ => by show at_.toNat ≤ f.now.length; rw [← H3.out.2.2.2.2.2.2.1]; omega⟩
      have hf8 := hs8.file path f (by show getF (putF S.files path f) path = some f; rw [getF_put, if_pos rfl])
      have hG : updG G path bf path = bf := by simp [updG]
      rw [hG] at hf8
      have CD := do_any hf8 hs8.lt (ca := ⟨at_, -1, av, nv, cv⟩) (c := ⟨at_.toNat, -1, b⟩) ⟨by show at_ = (at_.toNat : Int); omega, rfl, sb8⟩ hfit (by have := H3.out.2.2.2.2.2.2.1; omega) (by show b.length ≤ _; have := HH.out.2.2.2; omega) (by have := H3.out.2.2.2.2.2.1.2.2; have := HZ.out.1; omega)
      rw [show recA encC (⟨at_, -1, av, nv, cv⟩ : ChgA) = #[Value.int .i64 at_, Value.int .i64 (-1), Value.slice av nv cv] from rfl] at CD
      have H8 := Lib.hid (And.intro hs8 (H7.out.2.trans (turn_no ht8)))
      have HG := Lib.hid hG
      clear h8 hs8 ht8 sb8 hfit hf8 hG
      go_wp2_with fail
      refine CD.mono ?_
      clear CD
      rintro e w9 ⟨rfl, own9, hf9, ht9⟩
      have hs9 := H8.out.1.filed (x := path) (f := doF f ⟨at_.toNat, -1, b⟩) (by show (getF (putF S.files path f) path).isSome = true; rw [getF_put, if_pos rfl]; rfl) (by rw [HG.out]; exact ht9) (by rw [HG.out]; exact hf9)
      rw [show (({ S with used := us + mo, files := putF S.files path f } : StP).files) = putF S.files path f from rfl, putF_put HH.out.2.1.sorted] at hs9
      have CE := done_any hs9 (fun _ => by have := HH.out.2.1.left; show -1000 ≤ S.left ∧ S.left ≤ _; omega)
      have H9 := Lib.hid (H8.out.2.trans (turn_file ht9))
      clear hs9 hf9 ht9
      go_wp2_with fail
      refine CE.mono ?_
      clear CE
      rintro e w10 ⟨rfl, hs10, ht10⟩
      have H10 := Lib.hid (And.intro hs10 (H9.out.trans (turn_root ht10)))
      clear hs10 ht10
      go_wp2_with fail
      go_ret
      unfold writeS
      rw [if_neg (by rw [← HD.out]; simp), if_neg (by rw [← HR.out, decide_eq_false (by omega)]; simp), if_neg (by rw [← HF.out]; simp), if_neg (by rw [← H3.out.2.2.2.2.1, ← H3.out.2.2.2.2.2.2.1]; omega), if_neg (by rw [← HFU.out]; simp)]
      refine ⟨rfl, _, ⟨M, updG G path bf, ?_⟩, H10.out.2⟩
      have e1 : S.used + max 0 (at_ + (b.length : Int) - (((getF S.files path).getD file0).now.length : Nat)) = us + mo := by
        rw [HM.out, HQU.out.2, HH.out.2.2.2, H3.out.2.2.2.2.2.2.1, H3.out.2.2.2.2.1]
      show StoreIn _ _ _ _ _ (doneS { S with used := S.used + max 0 (at_ + (b.length : Int) - (((getF S.files path).getD file0).now.length : Nat)), files := putF S.files path (doF ((getF S.files path).getD file0) ⟨at_.toNat, -1, b⟩) })
      rw [e1, ← H3.out.2.2.2.2.1]
      exact H10.out.1
end Go.Proofs.YtponfkfeflnilaaGreatDoor
namespace Go.Proofs.YtponfkfeflnilaaGreatDoor
open Go.RowKit Go.Mix Go.WideMaps Go.Maps

set_option maxRecDepth 100000 in
theorem read_nil (path : Bytes) (w : World) : Calls Tryz.prog 54 #[.pointer none, .string (strOf path)] w fun e w' => e = .returned (.tuple #[.slice none 0 0, .int .i64 6]) ∧ w = w' := by
  go_enter Tryz.func54, Tryz.ntmps54
  go_wp2_with fail
  go_ret2
  exact ⟨rfl, rfl⟩
/-- What Read answers. -/
def ReadIs (l : Files) (path : Bytes) (w : World) (e : Ending) (w' : World) : Prop :=
  (∀ f, getF l path = some f → ∃ v, e = .returned (.tuple #[v, .int .i64 0]) ∧ Buf w.heap.size w w' v f.now) ∧ (getF l path = none → e = .returned (.tuple #[.slice none 0 0, .int .i64 6])) ∧ Below w.heap.size w w'
set_option maxRecDepth 100000 in
set_option maxHeartbeats 2000000 in
theorem read_any {own : Owns} {w : World} {p M : Nat} {G : Bytes → Nat} {S : StP} (h : StoreIn own w p M G S) (path : Bytes) (hp : path.length ≤ 100000) (hbig : ∀ q ∈ S.files, q.2.now.length ≤ 1000000000000) :
    Calls Tryz.prog 54 #[ptr p, .string (strOf path)] w fun e w' => ReadIs S.files path w e w' := by
  obtain ⟨-, -, c2, -⟩ := h.cells
  have LK := h.map.look_ok path (by omega)
  have HH := Lib.hid h
  clear h
  cases hx : getF S.files path with
  | none =>
    rw [hx, placeV_none hx] at LK
    have HX := Lib.hid hx
    clear hx
    go_enter Tryz.func54, Tryz.ntmps54
    go_wp2_with fail
    go_ret2
    exact ⟨fun f hf => (by rw [HX.out] at hf; cases hf), fun _ => rfl, Below.refl _ _⟩
  | some f =>
    rw [hx, placeV_some hx] at LK
    obtain ⟨v1, v2, v3, L, p1, ⟨a1, c1, rfl, s1, -⟩, -⟩ := (HH.out.file path f hx).ex
    have k0 := cell_blk p1 0 _ rfl
    have CC := clone_any s1 rfl (by have := hbig _ (getF_mem hx); show f.now.length ≤ _; have h2 : f.now.length ≤ 1000000000000 := this; omega)
    generalize f.now.length = n at *
    have HX := Lib.hid hx
    clear hx p1 s1 hbig
    go_enter Tryz.func54, Tryz.ntmps54
    go_wp2_with fail
    refine CC.mono ?_
    clear CC
    rintro e w1 ⟨v, rfl, h1⟩
    have H1 := Lib.hid h1
    clear h1
    go_wp2_with fail
    go_ret2
    exact ⟨fun f' hf => (by rw [HX.out] at hf; injection hf with hf; subst hf; exact ⟨_, rfl, H1.out⟩), fun h => (by rw [HX.out] at h; cases h), H1.out.2.1⟩

theorem OkS.at {Z : Nat} {S : StP} (ok : OkS Z S) {x : Bytes} {f : FileP} (h : getF S.files x = some f) : f.ok ∧ x.length ≤ 255 ∧ f.now.length ≤ Z ∧ f.kept.length ≤ Z ∧ f.since.length ≤ Z := ok.ok _ (getF_mem h)
theorem OkS.usedB {Z : Nat} {S : StP} (ok : OkS Z S) (hZ : Z ≤ 100000000) : 0 ≤ S.used ∧ S.used ≤ 1000000000000 := by
  have hused := ok.used
  have hsum := sumF_le Z S.files (fun q hq => (ok.ok q hq).2.2.1)
  have hmul : Z * S.files.length ≤ 1000000000000 := Nat.le_trans (Nat.mul_le_mul hZ ok.few) (by decide)
  rw [hused]; omega
theorem OkS.leftB {Z : Nat} {S : StP} (ok : OkS Z S) : -1000 ≤ S.left ∧ S.left ≤ 9223372036854775807 := by have := ok.left; omega

set_option maxRecDepth 100000 in
set_option maxHeartbeats 4000000 in
theorem cut_any {own : Owns} {w : World} {p M Z : Nat} {G : Bytes → Nat} {S : StP} (h : StoreIn own w p M G S) (ok : OkS Z S) (hZ : Z ≤ 100000000) (path : Bytes) (hp : path.length ≤ 100000) (n : Int) (hnb : -9223372036854775808 ≤ n ∧ n ≤ 9223372036854775807) :
    Calls Tryz.prog 95 #[ptr p, .string (strOf path), .int .i64 n] w fun e w' => Left own w p (cutS S path n) e w' := by
  have C1 := off_any h
  obtain ⟨-, c1, c2, -⟩ := h.cells
  have f1 := h.free 1
  have LK := h.map.look_ok path (by omega)
  have HH := Lib.hid (And.intro h ok)
  have HZ := Lib.hid hZ
  clear h ok hZ hp
  obtain ⟨D, hD⟩ : ∃ D, D = S.down := ⟨_, rfl⟩
  rw [← hD] at C1
  have HD := Lib.hid hD
  clear hD
  go_enter Tryz.func95, Tryz.ntmps95
  go_wp2_with fail
  refine C1.mono ?_
  clear C1
  rintro e w' ⟨rfl, rfl⟩
  cases D
  case true =>
    go_wp2_with fail
    go_ret
    unfold cutS
    rw [if_pos HD.out.symm]
    exact Left.same HH.out.1 (Below.refl _ _) _
  have hdn : ¬ S.down = true := by rw [← HD.out]; simp
  have HDN := Lib.hid hdn
  clear hdn
  cases hx : getF S.files path with
  | none =>
    rw [hx, placeV_none hx] at LK
    have HX := Lib.hid hx
    clear hx
    go_wp2_with fail
    go_ret
    unfold cutS
    rw [if_neg HDN.out, HX.out]
    exact Left.same HH.out.1 (Below.refl _ _) _
  | some f =>
    rw [hx, placeV_some hx] at LK
    have hfo := HH.out.2.at hx
    have hub := HH.out.2.usedB HZ.out
    have hZ := HZ.out
    obtain ⟨v1, v2, v3, L, p1, ⟨a1, ca1, rfl, s1, -⟩, -⟩ := (HH.out.1.file path f hx).ex
    have k0 := cell_blk p1 0 _ rfl
    obtain ⟨nn, hnn⟩ : ∃ nn, nn = f.now.length := ⟨_, rfl⟩
    rw [← hnn] at k0
    have hnnb : nn ≤ 100000000 := by omega
    obtain ⟨us, hus⟩ : ∃ us, us = S.used := ⟨_, rfl⟩
    rw [← hus] at c1 hub
    have HX := Lib.hid (And.intro hx (And.intro hfo (And.intro hnn hus)))
    clear hx hfo hnn hus p1 s1 hZ
    by_cases h0 : n < 0
    · have t0 : decide (n < 0) = true := decide_eq_true h0
      go_wp2_with fail
      go_ret
      unfold cutS
      rw [if_neg HDN.out, HX.out.1]
      simp only []
      rw [if_pos (Or.inl (by omega))]
      exact Left.same HH.out.1 (Below.refl _ _) _
    have t0 : decide (n < 0) = false := decide_eq_false h0
    by_cases h1 : (nn : Int) < n
    · have t1 : decide ((nn : Int) < n) = true := decide_eq_true h1
      go_wp2_with fail
      go_ret
      unfold cutS
      rw [if_neg HDN.out, HX.out.1]
      simp only []
      rw [if_pos (Or.inr (by rw [← HX.out.2.2.1]; exact h1))]
      exact Left.same HH.out.1 (Below.refl _ _) _
    have t1 : decide ((nn : Int) < n) = false := decide_eq_false h1
    go_upto_region 8 with (fail)
    have LU : ∀ x : Later w, x.1.cell? ⟨p, 1, none⟩ = some (.int .i64 us) := fun x => load_later c1 x
    have LN : ∀ x : Later w, x.1.cell? ⟨G path, 0, none⟩ = some (.slice a1 nn ca1) := fun x => load_later k0 x
    have hw1 : IntKind.i64.wrap ((nn : Int) - n) = (nn : Int) - n := IntWalk.i64_in _ (by omega)
    have hw2 : IntKind.i64.wrap (us - ((nn : Int) - n)) = us - ((nn : Int) - n) := IntWalk.i64_in _ (by omega)
    clear c1 c2 k0 LK
    refine wp_region_mg [(0, 0), (1, 0), (2, 0), (3, 0), (4, 0), (5, 0), (6, 0), (7, 0), (8, 0), (9, 0), (10, 0), (11, 0), (12, 0), (13, 0), (14, 2)] (by kernel_rfl) (by kernel_rfl) ?_
    iterate 14 (refine mg_calm rfl (fun K hK => ?_); go_simp; (refine hK _ ?_; clear hK K))
    refine mg_sync rfl rfl (fun w2 hw2' K hK => ?_)
    have hs2 := HH.out.1.below hw2'
    have q1 := hs2.cells.2.1
    have g1 := hs2.free 1
    have HW2 := Lib.hid hw2'
    clear LU LN f1 hw2'
    go_wp2_with fail
    refine mg_nil fun w3 hw3 => ?_
    obtain ⟨hs3, ht3⟩ := hs2.setRoot (k := 1) (v := .int .i64 (us - ((nn : Int) - n))) (S' := { S with used := us - ((nn : Int) - n) }) rfl rfl
    have hs3' := hs3.below hw3
    have T3 := Lib.hid (((Turn.below (T := Any) HW2.out HH.out.1.lt).trans (turn_root ht3)).trans (Turn.below hw3 hs3.lt))
    have hfit : Chg.fits ⟨0, n, []⟩ f.now := ⟨fun _ => by show n.toNat ≤ f.now.length; rw [← HX.out.2.2.1]; omega, fun h => absurd (show n < 0 from h) (by omega)⟩
    have CD := do_any (hs3'.file path f HX.out.1) hs3'.lt (ca := ⟨0, n, none, 0, 0⟩) (c := ⟨0, n, []⟩) ⟨rfl, rfl, SlO.nil _ _⟩ hfit (by have := HX.out.2.1; have := HZ.out; omega) (by show (0 : Nat) ≤ _; omega) (by have := HX.out.2.1; have := HZ.out; omega)
    rw [show recA encC (⟨0, n, none, 0, 0⟩ : ChgA) = #[Value.int .i64 0, Value.int .i64 n, Value.slice none 0 0] from rfl] at CD
    have H3 := Lib.hid hs3'
    clear hs2 q1 g1 hs3 ht3 hs3' hw3 hfit hw1 hw2
    go_wp2_with fail
    refine CD.mono ?_
    clear CD
    rintro e w4 ⟨rfl, own4, hf4, ht4⟩
    have hs4 := H3.out.filed (x := path) (f := doF f ⟨0, n, []⟩) (by show (getF S.files path).isSome = true; rw [HX.out.1]; rfl) ht4 hf4
    have CE := done_any hs4 (fun _ => HH.out.2.leftB)
    have H4 := Lib.hid (T3.out.trans (turn_file ht4))
    clear hs4 hf4 ht4
    go_wp2_with fail
    refine CE.mono ?_
    clear CE
    rintro e w5 ⟨rfl, hs5, ht5⟩
    have H5 := Lib.hid (And.intro hs5 (H4.out.trans (turn_root ht5)))
    clear hs5 ht5
    go_wp2_with fail
    go_ret
    unfold cutS
    rw [if_neg HDN.out, HX.out.1]
    simp only []
    rw [if_neg (by rw [← HX.out.2.2.1]; omega)]
    refine ⟨rfl, _, ⟨M, G, ?_⟩, H5.out.2⟩
    show StoreIn _ _ _ _ _ (doneS { S with used := S.used - ((f.now.length : Int) - n), files := putF S.files path (doF f ⟨0, n, []⟩) })
    rw [← HX.out.2.2.1, ← HX.out.2.2.2]
    exact H5.out.1

/-- What stands is kept. -/
theorem FileAt.synced {own : Owns} {w : World} {b : Nat} {f : FileP} (hf : FileAt own w b f) (hlt : ∀ k, own k ≠ none → k < w.heap.size) {v1 v2 v3 : Value} (h1 : w.heap[b]? = some (.cells #[v1, v2, v3] 132 (0, 0))) :
    FileAt own ((w.setCell ⟨b, 1, none⟩ v1).setCell ⟨b, 2, none⟩ (.slice none 0 0)) b (syncF f) ∧ Turn (fun o => o = some (.file b)) own own w ((w.setCell ⟨b, 1, none⟩ v1).setCell ⟨b, 2, none⟩ (.slice none 0 0)) := by
  obtain ⟨u1, u2, u3, L, p1, p2, p3, p4, p5, p6⟩ := hf.ex
  rw [p1] at h1
  injection h1 with h1
  injection h1 with h1
  simp only [Array.mk.injEq, List.cons.injEq, and_true] at h1
  obtain ⟨rfl, rfl, rfl⟩ := h1
  have ht : Turn (fun o => o = some (.file b)) own own w ((w.setCell ⟨b, 1, none⟩ u1).setCell ⟨b, 2, none⟩ (.slice none 0 0)) := ((Turn.below (Below.refl _ w) hlt).set (fun _ => hf.tag) u1).set (fun _ => hf.tag) _
  refine ⟨⟨hf.tag, u1, u1, .slice none 0 0, [], ?_, p2.turn ht hlt (by simp), p2.turn ht hlt (by simp), World.ownsRow_nil _ _ _ _, fun g hg => by simp [Value.ownBlock] at hg, .nil⟩, ht⟩
  have e1 := heap_setCell_same w b 1 _ _ u1 p1
  have e2 := heap_setCell_same _ b 2 _ _ (.slice none 0 0) e1
  exact e2

set_option maxRecDepth 100000 in
set_option maxHeartbeats 4000000 in
theorem sync_any {own : Owns} {w : World} {p M Z : Nat} {G : Bytes → Nat} {S : StP} (h : StoreIn own w p M G S) (ok : OkS Z S) (path : Bytes) (hp : path.length ≤ 100000) :
    Calls Tryz.prog 97 #[ptr p, .string (strOf path)] w fun e w' => Left own w p (syncS S path) e w' := by
  have C1 := off_any h
  obtain ⟨-, -, c2, -⟩ := h.cells
  have LK := h.map.look_ok path (by omega)
  have HH := Lib.hid (And.intro h ok)
  clear h ok hp
  obtain ⟨D, hD⟩ : ∃ D, D = S.down := ⟨_, rfl⟩
  rw [← hD] at C1
  have HD := Lib.hid hD
  clear hD
  go_enter Tryz.func97, Tryz.ntmps97
  go_wp2_with fail
  refine C1.mono ?_
  clear C1
  rintro e w' ⟨rfl, rfl⟩
  cases D
  case true =>
    go_wp2_with fail
    go_ret
    unfold syncS
    rw [if_pos HD.out.symm]
    exact Left.same HH.out.1 (Below.refl _ _) _
  have hdn : ¬ S.down = true := by rw [← HD.out]; simp
  have HDN := Lib.hid hdn
  clear hdn
  cases hx : getF S.files path with
  | none =>
    rw [hx, placeV_none hx] at LK
    have HX := Lib.hid hx
    clear hx
    go_wp2_with fail
    go_ret
    unfold syncS
    rw [if_neg HDN.out, HX.out]
    exact Left.same HH.out.1 (Below.refl _ _) _
  | some f =>
    rw [hx, placeV_some hx] at LK
    obtain ⟨v1, v2, v3, L, p1, ⟨a1, ca1, rfl, s1, -⟩, -⟩ := (HH.out.1.file path f hx).ex
    obtain ⟨hf2, ht2⟩ := (HH.out.1.file path f hx).synced HH.out.1.lt p1
    have k0 := cell_blk p1 0 _ rfl
    have k1 := cell_blk p1 1 _ rfl
    have k2 := cell_blk p1 2 _ rfl
    have g1 := free_blk p1 1
    have g2 := free_blk p1 2
    have hs2 := HH.out.1.filed (x := path) (f := syncF f) (by rw [hx]; rfl) ht2 hf2
    generalize f.now.length = n at *
    have HX := Lib.hid (And.intro hx (And.intro hs2 ht2))
    clear hx p1 s1 hs2 ht2 hf2
    go_upto_region 7 with (fail)
    have CE := done_any HX.out.2.1 (fun _ => HH.out.2.leftB)
    have T2 := Lib.hid (turn_file HX.out.2.2)
    generalize (w.setCell ⟨G path, 1, none⟩ (Value.slice a1 n ca1)).setCell ⟨G path, 2, none⟩ (Value.slice none 0 0) = w2 at *
    clear k0 k1 k2 g1 g2 LK c2
    go_wp2_with fail
    refine CE.mono ?_
    clear CE
    rintro e w5 ⟨rfl, hs5, ht5⟩
    have H5 := Lib.hid (And.intro hs5 (T2.out.trans (turn_root ht5)))
    clear hs5 ht5
    go_wp2_with fail
    go_ret
    unfold syncS
    rw [if_neg HDN.out, HX.out.1]
    exact ⟨rfl, _, ⟨M, G, H5.out.1⟩, H5.out.2⟩
end Go.Proofs.YtponfkfeflnilaaGreatDoor
namespace Go.Proofs.YtponfkfeflnilaaGreatDoor
open Go.RowKit Go.Mix Go.WideMaps Go.Maps

/-- A file's place is taken out of the map. -/
theorem StoreIn.delMap {own : Owns} {w : World} {p M : Nat} {G : Bytes → Nat} {S : StP} (h : StoreIn own w p M G S) {x : Bytes} (hx : x.length ≤ 1000000) (ty : TypeId) :
    ∃ w', (Builtin.delete_ #[126, 9] ty #[.map (some M), .string (strOf x)]).run Tryz.prog w = .ok (.tuple #[]) w' ∧ StoreIn own w' p M G { S with files := delF S.files x } ∧ Turn (fun o => o = some .root) own own w w' := by
  obtain ⟨w', hrun, hm, hg, hsz⟩ := h.map.del x hx ty
  have hk : ∀ y, (getF (delF S.files x) y).isSome = true → (getF S.files y).isSome = true := fun y hy => by
    rw [getF_del] at hy
    split at hy
    · cases hy
    · exact hy
  obtain ⟨h1, h2⟩ := h.mapped hm hg hsz (fun y f' hy => by
    rw [getF_del] at hy
    split at hy
    · cases hy
    · exact h.file y f' hy) (fun y z hy hz => h.inj y z (hk y hy) (hk z hz))
  exact ⟨w', hrun, h1, h2⟩
/-- 'delete' at the operation, its run known. -/
theorem wpList_delete_run {P : Program} {w w' : World} {ops : Array Oper} {rest : List Oper} {o : Oper} {a : Act} {Q : Exit → Act → World → Prop} (hg : o.guard = none) (m x : Operand) (t k : TypeId) (hop : o.op = Op.call { callee := Callee.builtin Builtin.delete, args := #[m, x], argTypes := #[t, k] })
    (vm vx : Value) (hm : a.eval m = vm) (hx : a.eval x = vx) (hrun : (Builtin.delete_ #[t, k] o.type #[vm, vx]).run P w = .ok (.tuple #[]) w') (h : wpList P ops Q rest (a.put o.dst (.tuple #[])) w') : wpList P ops Q (o :: rest) a w := by
  refine wpList_plain hg fun K' hK' => ?_
  unfold Oper.wp
  simp [execOp, hop, resolve, invoke, builtin, hm, hx, hrun, Result.andThen]
  exact hK' _ _ h
/-- 'm[k] = v' at the operation, its run known. -/
theorem wpList_update_run {P : Program} {w w' : World} {ops : Array Oper} {rest : List Oper} {o : Oper} {a : Act} {Q : Exit → Act → World → Prop} (hg : o.guard = none) (m x v : Operand) (t : TypeId) (hop : o.op = Op.mapUpdate t m x v)
    (vm vx vv : Value) (hm : a.eval m = vm) (hx : a.eval x = vx) (hv : a.eval v = vv) (hrun : (Instr.mapUpdate t vm vx vv).run P w = .ok () w') (h : wpList P ops Q rest (a.put o.dst undef) w') : wpList P ops Q (o :: rest) a w := by
  refine wpList_plain hg fun K' hK' => ?_
  unfold Oper.wp
  simp [execOp, hop, hm, hx, hv, hrun, Result.andThen]
  exact hK' _ _ h

set_option maxRecDepth 100000 in
set_option maxHeartbeats 4000000 in
theorem remove_any {own : Owns} {w : World} {p M Z : Nat} {G : Bytes → Nat} {S : StP} (h : StoreIn own w p M G S) (ok : OkS Z S) (hZ : Z ≤ 100000000) (path : Bytes) (hp : path.length ≤ 100000) :
    Calls Tryz.prog 66 #[ptr p, .string (strOf path)] w fun e w' => Left own w p (removeS S path) e w' := by
  have C1 := off_any h
  obtain ⟨-, c1, c2, -⟩ := h.cells
  have f1 := h.free 1
  have LK := h.map.look_ok path (by omega)
  have HH := Lib.hid (And.intro h ok)
  have HZ := Lib.hid (And.intro hZ hp)
  clear h ok hZ hp
  obtain ⟨D, hD⟩ : ∃ D, D = S.down := ⟨_, rfl⟩
  rw [← hD] at C1
  have HD := Lib.hid hD
  clear hD
  go_enter Tryz.func66, Tryz.ntmps66
  go_wp2_with fail
  refine C1.mono ?_
  clear C1
  rintro e w' ⟨rfl, rfl⟩
  cases D
  case true =>
    go_wp2_with fail
    go_ret
    unfold removeS
    rw [if_pos HD.out.symm]
    exact Left.same HH.out.1 (Below.refl _ _) _
  have hdn : ¬ S.down = true := by rw [← HD.out]; simp
  have HDN := Lib.hid hdn
  clear hdn
  cases hx : getF S.files path with
  | none =>
    rw [hx, placeV_none hx] at LK
    have HX := Lib.hid hx
    clear hx
    go_wp2_with fail
    go_ret
    unfold removeS
    rw [if_neg HDN.out, HX.out]
    exact Left.same HH.out.1 (Below.refl _ _) _
  | some f =>
    rw [hx, placeV_some hx] at LK
    have hfo := HH.out.2.at hx
    have hub := HH.out.2.usedB HZ.out.1
    have hZ := HZ.out.1
    obtain ⟨v1, v2, v3, L, p1, ⟨a1, ca1, rfl, s1, -⟩, -⟩ := (HH.out.1.file path f hx).ex
    have k0 := cell_blk p1 0 _ rfl
    obtain ⟨nn, hnn⟩ : ∃ nn, nn = f.now.length := ⟨_, rfl⟩
    rw [← hnn] at k0
    have hnnb : nn ≤ 100000000 := by omega
    obtain ⟨us, hus⟩ : ∃ us, us = S.used := ⟨_, rfl⟩
    rw [← hus] at c1 hub
    have HX := Lib.hid (And.intro hx (And.intro hfo (And.intro hnn hus)))
    clear hx hfo hnn hus p1 s1 hZ
    go_upto_region 6 with (fail)
    have LU : ∀ x : Later w, x.1.cell? ⟨p, 1, none⟩ = some (.int .i64 us) := fun x => load_later c1 x
    have LN : ∀ x : Later w, x.1.cell? ⟨G path, 0, none⟩ = some (.slice a1 nn ca1) := fun x => load_later k0 x
    have hw2 : IntKind.i64.wrap (us - (nn : Int)) = us - (nn : Int) := IntWalk.i64_in _ (by omega)
    clear c1 c2 k0 LK
    refine wp_region_mg [(0, 0), (1, 0), (2, 0), (3, 0), (4, 0), (5, 0), (6, 0), (7, 0), (8, 0), (9, 0), (10, 0), (11, 0), (12, 2)] (by kernel_rfl) (by kernel_rfl) ?_
    iterate 12 (refine mg_calm rfl (fun K hK => ?_); go_simp; (refine hK _ ?_; clear hK K))
    refine mg_sync rfl rfl (fun w2 hw2' K hK => ?_)
    have hs2 := HH.out.1.below hw2'
    have q1 := hs2.cells.2.1
    have g1 := hs2.free 1
    have HW2 := Lib.hid hw2'
    clear LU LN f1 hw2'
    go_wp2_with fail
    refine mg_nil fun w3 hw3 => ?_
    obtain ⟨hs3, ht3⟩ := hs2.setRoot (k := 1) (v := .int .i64 (us - (nn : Int))) (S' := { S with used := us - (nn : Int) }) rfl rfl
    have hs3' := hs3.below hw3
    have T3 := Lib.hid (((Turn.below (T := Any) HW2.out HH.out.1.lt).trans (turn_root ht3)).trans (Turn.below hw3 hs3.lt))
    obtain ⟨-, -, c2, -⟩ := hs3'.cells
    obtain ⟨w4, hrun, hs4, ht4⟩ := hs3'.delMap (x := path) (by have := HZ.out.2; omega) 0
    have hrun : ∀ ty, (Builtin.delete_ #[126, 9] ty #[.map (some M), .string (strOf path)]).run Tryz.prog w3 = .ok (.tuple #[]) w4 := fun ty => hrun
    have CE := done_any hs4 (fun _ => HH.out.2.leftB)
    have H4 := Lib.hid (T3.out.trans (turn_root ht4))
    clear hs2 q1 g1 hs3 ht3 hs3' hw3 hw2 hs4 ht4
    go_wp2_with (first | (refine wpList_delete_run rfl _ _ _ _ rfl _ _ rfl rfl (hrun _) ?_))
    refine CE.mono ?_
    clear CE
    rintro e w5 ⟨rfl, hs5, ht5⟩
    have H5 := Lib.hid (And.intro hs5 (H4.out.trans (turn_root ht5)))
    clear hs5 ht5
    go_wp2_with fail
    go_ret
    unfold removeS
    rw [if_neg HDN.out, HX.out.1]
    refine ⟨rfl, _, ⟨M, G, ?_⟩, H5.out.2⟩
    show StoreIn _ _ _ _ _ (doneS { S with used := S.used - (f.now.length : Int), files := delF S.files path })
    rw [← HX.out.2.2.1, ← HX.out.2.2.2]
    exact H5.out.1

set_option maxRecDepth 100000 in
set_option maxHeartbeats 8000000 in
theorem rename_any {own : Owns} {w : World} {p M Z : Nat} {G : Bytes → Nat} {S : StP} (h : StoreIn own w p M G S) (ok : OkS Z S) (hZ : Z ≤ 100000000) (src dst : Bytes) (hp : src.length ≤ 100000) (hp2 : dst.length ≤ 100000) :
    Calls Tryz.prog 99 #[ptr p, .string (strOf src), .string (strOf dst)] w fun e w' => Left own w p (renameS S src dst) e w' := by
  have C1 := off_any h
  obtain ⟨-, -, c2, -⟩ := h.cells
  have LK := h.map.look_ok src (by omega)
  have HH := Lib.hid (And.intro h ok)
  have HZ := Lib.hid (And.intro hZ (And.intro hp hp2))
  clear h ok hZ hp hp2
  obtain ⟨D, hD⟩ : ∃ D, D = S.down := ⟨_, rfl⟩
  rw [← hD] at C1
  have HD := Lib.hid hD
  clear hD
  go_enter Tryz.func99, Tryz.ntmps99
  go_wp2_with fail
  refine C1.mono ?_
  clear C1
  rintro e w' ⟨rfl, rfl⟩
  cases D
  case true =>
    go_wp2_with fail
    go_ret
    unfold renameS
    rw [if_pos HD.out.symm]
    exact Left.same HH.out.1 (Below.refl _ _) _
  have hdn : ¬ S.down = true := by rw [← HD.out]; simp
  have HDN := Lib.hid hdn
  clear hdn
  cases hx : getF S.files src with
  | none =>
    rw [hx, placeV_none hx] at LK
    have HX := Lib.hid hx
    clear hx
    go_wp2_with fail
    go_ret
    unfold renameS
    rw [if_neg HDN.out, HX.out]
    exact Left.same HH.out.1 (Below.refl _ _) _
  | some f =>
    rw [hx, placeV_some hx] at LK
    have HX := Lib.hid hx
    clear hx
    have C2 := right_any dst HZ.out.2.2 w
    obtain ⟨R, hR⟩ : ∃ R, R = rightF dst := ⟨_, rfl⟩
    rw [← hR] at C2
    have HR := Lib.hid hR
    clear hR
    go_wp2_with fail
    refine C2.mono ?_
    clear C2
    rintro e w1 ⟨rfl, hw1⟩
    have H1 := Lib.hid hw1
    clear hw1
    cases R
    case false =>
      go_wp2_with fail
      go_ret
      unfold renameS
      rw [if_neg HDN.out, HX.out]
      simp only []
      rw [if_pos (by rw [← HR.out]; rfl)]
      exact Left.same HH.out.1 H1.out _
    have C3 := free_any (HH.out.1.below H1.out) (fun q hq => (HH.out.2.ok q hq).2.1) dst src HZ.out.2.2
    obtain ⟨F, hF⟩ : ∃ F, F = freeF S.files dst src := ⟨_, rfl⟩
    rw [← hF] at C3
    have HF := Lib.hid hF
    clear hF
    go_wp2_with fail
    refine C3.mono ?_
    clear C3
    rintro e w2 ⟨rfl, hw2⟩
    have H2 := Lib.hid (H1.out.trans (hw2.mono H1.out.size))
    clear hw2
    cases F
    case false =>
      go_wp2_with fail
      go_ret
      unfold renameS
      rw [if_neg HDN.out, HX.out]
      simp only []
      rw [if_neg (by rw [← HR.out]; simp), if_pos (by rw [← HF.out]; rfl)]
      exact Left.same HH.out.1 H2.out _
    have hs2 := HH.out.1.below H2.out
    obtain ⟨-, c1, c2, -⟩ := hs2.cells
    have g1 := hs2.free 1
    have LK2 := hs2.map.look_ok dst (by have := HZ.out.2.2; omega)
    have E := strOf_eq dst src
    have E' : ((strOf dst).toList == (strOf src).toList) = decide (dst = src) := by rw [strOf_list src]; exact E
    obtain ⟨B, hB⟩ : ∃ B, B = decide (dst = src) := ⟨_, rfl⟩
    rw [← hB] at E'
    have HB := Lib.hid hB
    have hub := HH.out.2.usedB HZ.out.1
    obtain ⟨us, hus⟩ : ∃ us, us = S.used := ⟨_, rfl⟩
    rw [← hus] at c1 hub
    have HS2 := Lib.hid (And.intro hs2 hus)
    obtain ⟨K, hK⟩ : ∃ K, K = (getF S.files dst).isSome := ⟨_, rfl⟩
    obtain ⟨V, hV⟩ : ∃ V, V = placeV G S.files dst := ⟨_, rfl⟩
    rw [← hK, ← hV] at LK2
    have HK := Lib.hid (And.intro hK hV)
    clear hs2 hus E hB LK hK hV
    go_upto_region 11 with (fail)
    go_cut [49] from 44 to 49 (fun s49 wx => s49 = .bool (K && !B) ∧ w2 = wx)
    case first =>
      cases K
      · go_wp2_with fail
        go_meet
        exact ⟨rfl, rfl⟩
      · cases B
        · go_wp2_with fail
          go_meet
          exact ⟨rfl, rfl⟩
        · go_wp2_with fail
          go_meet
          exact ⟨rfl, rfl⟩
    case rest =>
      obtain ⟨rfl, rfl⟩ := hcut
      obtain ⟨T, hT⟩ : ∃ T, T = (K && !B) := ⟨_, rfl⟩
      rw [← hT]
      have HT := Lib.hid hT
      clear hT E' LK2 c2
      obtain ⟨us2, hus2⟩ : ∃ us2, us2 = us - (if dst = src then 0 else ((((getF S.files dst).getD file0).now.length : Nat) : Int)) := ⟨_, rfl⟩
      have HU2 := Lib.hid hus2
      clear hus2
      go_upto_if 49 with (fail)
      go_cut [] (fun wx => StoreIn own wx p M G { S with used := us2 } ∧ Turn Any own own w wx)
      case first =>
        cases T
        · have e2 : us2 = S.used := by
            rw [HU2.out, HS2.out.2]
            have h1 := HT.out
            rw [HK.out.1, HB.out] at h1
            by_cases e : dst = src
            · rw [if_pos e]; omega
            · rw [if_neg e]
              rw [decide_eq_false e] at h1
              cases hg : getF S.files dst with
              | none => simp [file0]
              | some g => rw [hg] at h1; simp at h1
          have E2 := Lib.hid e2
          clear e2
          go_wp2_with fail
          go_meet
          rw [E2.out]
          exact ⟨HS2.out.1, Turn.below H2.out HH.out.1.lt⟩
        · have h1 := HT.out
          rw [HK.out.1, HB.out] at h1
          have hne : ¬ dst = src := fun e => by rw [decide_eq_true e] at h1; simp at h1
          obtain ⟨g, hg⟩ : ∃ g, getF S.files dst = some g := by
            cases hg : getF S.files dst with
            | none => rw [hg] at h1; simp at h1
            | some g => exact ⟨g, rfl⟩
          have hv := HK.out.2
          rw [placeV_some hg] at hv
          subst hv
          have hgo := HH.out.2.at hg
          have hZ := HZ.out.1
          obtain ⟨v1, v2, v3, L, p1, ⟨a1, ca1, rfl, s1, -⟩, -⟩ := (HS2.out.1.file dst g hg).ex
          have k0 := cell_blk p1 0 _ rfl
          obtain ⟨nn, hnn⟩ : ∃ nn, nn = g.now.length := ⟨_, rfl⟩
          rw [← hnn] at k0
          have hnnb : nn ≤ 100000000 := by omega
          have e2 : us2 = us - (nn : Int) := by rw [HU2.out, if_neg hne, hg, hnn]; rfl
          have E2 := Lib.hid e2
          have LU : ∀ x : Later w2, x.1.cell? ⟨p, 1, none⟩ = some (.int .i64 us) := fun x => load_later c1 x
          have LN : ∀ x : Later w2, x.1.cell? ⟨G dst, 0, none⟩ = some (.slice a1 nn ca1) := fun x => load_later k0 x
          have hw2 : IntKind.i64.wrap (us - (nn : Int)) = us - (nn : Int) := IntWalk.i64_in _ (by omega)
          clear c1 k0 h1 hne hg hgo hnn p1 s1 hZ e2
          go_upto_region 12 with (fail)
          refine wp_region_mg [(0, 0), (1, 0), (2, 0), (3, 0), (4, 0), (5, 0), (6, 0), (7, 0), (8, 0), (9, 0), (10, 0), (11, 0), (12, 2)] (by kernel_rfl) (by kernel_rfl) ?_
          iterate 12 (refine mg_calm rfl (fun K hK => ?_); go_simp; (refine hK _ ?_; clear hK K))
          refine mg_sync rfl rfl (fun w3 hw3' K hK => ?_)
          have hs3 := HS2.out.1.below hw3'
          have q1 := hs3.cells.2.1
          have f1 := hs3.free 1
          have HW3 := Lib.hid hw3'
          clear LU LN g1 hw3'
          go_wp2_with fail
          refine mg_nil fun w4 hw4 => ?_
          obtain ⟨hs4, ht4⟩ := hs3.setRoot (k := 1) (v := .int .i64 (us - (nn : Int))) (S' := { S with used := us - (nn : Int) }) rfl rfl
          have T4 := Lib.hid (And.intro (hs4.below hw4) ((((Turn.below (T := Any) H2.out HH.out.1.lt).trans (Turn.below HW3.out HS2.out.1.lt)).trans (turn_root ht4)).trans (Turn.below hw4 hs4.lt)))
          clear hs3 q1 f1 hs4 ht4 hw4 hw2
          go_wp2_with fail
          go_meet
          rw [E2.out]
          exact T4.out
      case rest =>
        obtain ⟨hs3, ht3⟩ := hcut
        obtain ⟨-, -, c2, -⟩ := hs3.cells
        obtain ⟨w4, hrun, hs4, ht4⟩ := hs3.delMap (x := src) (by have := HZ.out.2.1; omega) 0
        have hfl : (delF S.files src).length ≤ 1000000 := by have := HH.out.2.few; have := length_del_le S.files src; omega
        have hf4 : FileAt own w4 (G src) f := ((hs3.file src f HX.out).turn ht4 hs3.lt (by simp) (by simp))
        obtain ⟨w5, hrun5, hs5, ht5⟩ := hs4.putMap (sorted_del HH.out.2.sorted src) hfl (x := dst) (by have := HZ.out.2.2; omega) hf4 (fun y _ hy e => by
          change (getF (delF S.files src) y).isSome = true at hy
          rw [getF_del] at hy
          split at hy
          · cases hy
          · rename_i hne
            exact hne (hs3.inj y src hy (by show (getF S.files src).isSome = true; rw [HX.out]; rfl) e))
        have hrun : ∀ ty, (Builtin.delete_ #[126, 9] ty #[.map (some M), .string (strOf src)]).run Tryz.prog wc = .ok (.tuple #[]) w4 := fun ty => hrun
        have q2 := hs4.cells.2.2.1
        have CE := done_any hs5 (fun _ => HH.out.2.leftB)
        have H5 := Lib.hid ((ht3.trans (turn_root ht4)).trans (turn_root ht5))
        clear hs3 ht3 hs4 ht4 hfl hf4 hs5 ht5 c1 g1
        go_wp2_with (first | (refine wpList_delete_run rfl _ _ _ _ rfl _ _ rfl rfl (hrun _) ?_) | (refine wpList_update_run rfl _ _ _ _ rfl _ _ _ rfl rfl rfl hrun5 ?_))
        refine CE.mono ?_
        clear CE
        rintro e w6 ⟨rfl, hs6, ht6⟩
        have H6 := Lib.hid (And.intro hs6 (H5.out.trans (turn_root ht6)))
        clear hs6 ht6
        go_wp2_with fail
        go_ret
        unfold renameS
        rw [if_neg HDN.out, HX.out]
        simp only []
        rw [if_neg (by rw [← HR.out]; simp), if_neg (by rw [← HF.out]; simp)]
        refine ⟨rfl, _, ⟨M, updG G dst (G src), ?_⟩, H6.out.2⟩
        show StoreIn _ _ _ _ _ (doneS { S with used := S.used - (if dst = src then 0 else ((((getF S.files dst).getD file0).now.length : Nat) : Int)), files := putF (delF S.files src) dst f })
        rw [← HS2.out.2, ← HU2.out]
        exact H6.out.1
end Go.Proofs.YtponfkfeflnilaaGreatDoor
