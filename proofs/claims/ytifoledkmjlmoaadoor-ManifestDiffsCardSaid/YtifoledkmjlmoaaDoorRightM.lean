/-
  manifest.right: the walk. (Printed by gen/gen_rightm.py.)
-/
import Derived.Test.YtifoledkmjlmoaaDoorMFile
import Derived.Test.YtifoledkmjlmoaaDoorStrSet
import Derived.Test.YtifoledkmjlmoaaDoorBox
namespace Go.Proofs.YtifoledkmjlmoaaDoor
open Go.RowKit Go.Mix Go.Maps Go.WideMaps

set_option maxRecDepth 100000 in
set_option maxHeartbeats 4000000 in
theorem right_any {w : World} {l : List MFile} {a : Option Addr} {cap : Nat} (hg : RsAt encM 22 w a cap l) (hlen : l.length ≤ 1000000) (hnm : ∀ p ∈ l, p.path.length ≤ 100000 ∧ p.flag.length ≤ 100000) :
    Calls Tryd.prog 20 #[.slice a l.length cap] w fun e w' => ∃ r : Bool, e = .returned (.bool r) ∧ (r = true ↔ RightM l) ∧ Below w.heap.size w w' := by
  have hmm := @run_makeMap Tryd.prog
  obtain ⟨n, hn⟩ : ∃ n, n = l.length := ⟨_, rfl⟩
  have HN := Lib.hid (And.intro hn hnm)
  have HG := Lib.hid hg
  rw [← hn] at hlen ⊢
  clear hn hg hnm
  obtain ⟨Z, hZ⟩ : ∃ Z, Z = recA encM mf0 := ⟨_, rfl⟩
  have z : ∀ w, (zeroValue 46).run Tryd.prog w = .ok (.agg Z) w := fun w => by rw [hZ]; kernel_rfl
  have HZ := Lib.hid hZ
  clear hZ
  have hm1 : (w.alloc (.map #[] 0)).ownsMap Tryd.prog 9 (plainElem (H := Unit) Tryd.prog 4) w.heap.size 0 (.map []) := World.ownsMap_made _ _ _ _
  have hb0 : Below w.heap.size w (w.alloc (.map #[] 0)) := (Below.refl _ _).alloc (Nat.le_refl _) _
  have HM := Lib.hid (And.intro hm1 hb0)
  clear hm1 hb0
  go_enter Tryd.func20, Tryd.ntmps20
  go_wp2_with fail
  go_loopw [12] (fun s9 wr => ∃ (i : Nat) (D1 : DataW Unit), s9 = .int .i64 (i : Int) ∧ i ≤ n ∧ wr.ownsMap Tryd.prog 9 (plainElem Tryd.prog 4) w.heap.size i D1 ∧ StrsAre D1 (pathsM (l.take i)) ∧ (∀ j, j < i → stepM l j = true) ∧ Below w.heap.size w wr) (fun s9 _ => n - (intOf s9).toNat)
  case atStart => exact ⟨0, .map [], rfl, Nat.zero_le _, HM.out.1, strs_start, fun _ h => absurd h (Nat.not_lt_zero _), HM.out.2⟩
  case round =>
    obtain ⟨i, D1, rfl, hi, hm1, hD1, hpre, hb⟩ := hrel
    have HP := Lib.hid hpre
    have HB := Lib.hid hb
    clear hpre
    by_cases hin : i < n
    · have t1 : decide ((i : Int) < (n : Int)) = true := decide_eq_true (by omega)
      have t1' : decide (i < n) = true := decide_eq_true (by omega)
      have hil : i < l.length := by rw [← HN.out.1]; exact hin
      obtain ⟨b, q, IX, -, L⟩ := (HG.out.below hb).at tyM (i : Int) i rfl hil
      rw [← HN.out.1] at IX
      have L' := L _ (Below.refl _ _)
      have hP1 := strs_put hD1 l[i]!.path
      rw [← pathsM_succ hil] at hP1
      have hpn : l[i]!.path.length ≤ 100000 ∧ l[i]!.flag.length ≤ 100000 := HN.out.2 _ (by rw [getElem!_pos l i hil]; exact List.getElem_mem hil)
      have hso : stepM l i = (pathL l[i]!.path && (decide (l[i]!.flag = []) || decide (l[i]!.flag = [120]) || decide (l[i]!.flag = [108])) && (!decide (0 < i) || Op.bytesLess l[i - 1]!.path l[i]!.path)) := rfl
      have HSO := Lib.hid (And.intro hso hil)
      have HPUT := Lib.hid hP1
      have HD := Lib.hid hD1
      have HMM := Lib.hid hm1
      obtain ⟨p, hp⟩ : ∃ p, p = l[i]! := ⟨_, rfl⟩
      rw [← hp] at L'
      rw [← hp] at hpn
      have HPP := Lib.hid hp.symm
      have HPN := Lib.hid hpn
      have hzb : (wr.alloc (.cells Z 46)).heap[wr.heap.size]? = some (.cells Z 46 (0, 0)) := heap_alloc_last _ _ _ rfl
      have zs : Z.size = (recA encM p).size := by rw [HZ.out]; simp [recA, encM_len]
      have zi : (Tryd.prog.info? 46).map (·.size) = some (recA encM p).size := by rw [show (recA encM p).size = 22 by simp [recA, encM_len]]; exact tyM.ie
      have z1 : (recA encM p).all (·.oneCell') = true := all_oneCell_toArray (encM_one _)
      have gA : Below wr.heap.size wr ((wr.alloc (.cells Z 46)).setRow wr.heap.size (recA encM p)) := below_setRow ((Below.refl _ _).alloc (Nat.le_refl _) _) (Nat.le_refl _) _
      have hbox : ((wr.alloc (.cells Z 46)).setRow wr.heap.size (recA encM p)).heap[wr.heap.size]? = some (.cells (recA encM p) 46 (0, 0)) := setRow_heap _ _ _ _ _ _ hzb
      have HA := Lib.hid (And.intro gA hbox)
      clear L hP1 hD1 hm1 hp hb hil gA hbox hso hpn
      go_upto_region 5 with (first | (refine wpList_load_at rfl _ _ rfl _ _ rfl L' ?_) | (refine wpList_store_row rfl 46 _ _ rfl wr.heap.size (recA encM p) rfl rfl 46 Z hzb zi zs z1 ?_))
      have gA := HA.out.1
      have hbox := HA.out.2
      obtain ⟨B, hB⟩ : ∃ B, B = wr.heap.size := ⟨_, rfl⟩
      have hBlt : w.heap.size < B := by rw [hB]; exact HMM.out.lt
      clear HA L' IX zs zi z1 hzb
      generalize (wr.alloc (.cells Z 46)).setRow wr.heap.size (recA encM p) = w5 at *
      rw [← hB] at hbox ⊢
      clear hB
      have gk : wr.grownBy w5 none := ⟨gA.os, gA.tape, gA.output, gA.size, fun k hk _ => gA.block k hk⟩
      have m1 := HMM.out.kept gk (by simp)
      have hb5 := HB.out.trans (gA.mono HB.out.size)
      obtain ⟨f0, -, f2⟩ := mf_fields (recBox hbox)
      rw [Nat.zero_add] at f2
      have L1 : ∀ y : Later w5, (Instr.loadAt 9 (.pointer (some ⟨B, 0, none⟩))).run Tryd.prog y.1 = .ok (.string (strOf p.path)) y.1 := fun y => by
        have c : y.1.cell? ⟨B, 0, none⟩ = some (.string (strOf p.path)) := (y.2.cell (p := ⟨B, 0, none⟩) (lt_of_cell f0)).trans f0
        go_simp
      have L2 : ∀ y : Later w5, (Instr.loadAt 9 (.pointer (some ⟨B, 21, none⟩))).run Tryd.prog y.1 = .ok (.string (strOf p.flag)) y.1 := fun y => by
        have c : y.1.cell? ⟨B, 21, none⟩ = some (.string (strOf p.flag)) := (y.2.cell (p := ⟨B, 21, none⟩) (lt_of_cell f2)).trans f2
        go_simp
      have H5 := Lib.hid (And.intro m1 (And.intro hb5 hbox))
      have HB5 := Lib.hid hb5
      have CN := fun W => path_any p.path HPN.out.1 W
      have E0 := empty_text p.flag
      have E1 := eq_text p.flag [120]
      have E2 := eq_text p.flag [108]
      have HSO2 := HSO.out.1
      rw [HPP.out] at HSO2
      generalize pathL p.path = d1 at *
      generalize decide (p.flag = []) = b0 at *
      generalize decide (p.flag = [120]) = b1 at *
      generalize decide (p.flag = [108]) = b2 at *
      have HKN := Lib.hid (key_str p.path (Nat.le_trans HPN.out.1 (by decide)))
      obtain ⟨NS, hNS⟩ : ∃ NS, NS = strOf p.path := ⟨_, rfl⟩
      rw [← hNS] at L1 CN
      have HNS := Lib.hid hNS
      have HKN' := HKN.out
      rw [← hNS] at HKN'
      clear HKN
      have HKN := Lib.hid HKN'
      generalize strOf p.flag = FS at *
      have HSO3 := Lib.hid HSO2
      clear HSO2 m1 hb5 hbox gA gk f0 f2 hNS HKN'
      cases d1
      · refine wp_region_mg [(0, 0), (1, 0), (2, 0), (3, 0), (4, 0), (5, 0), (6, 0), (7, 0), (8, 0), (9, 0), (10, 0), (11, 0), (12, 0), (13, 0), (14, 0), (15, 0), (16, 0), (17, 0), (18, 0), (19, 0), (20, 0), (21, 0), (22, 0), (23, 0), (24, 0), (25, 0), (26, 0), (27, 0), (28, 0), (29, 0), (30, 0), (31, 0), (32, 0), (33, 0)] (by kernel_rfl) (by kernel_rfl) ?_
        iterate 1 (refine mg_calm rfl (fun K hK => ?_); go_simp; (refine hK _ ?_; clear hK K))
        refine mg_load rfl rfl _ _ rfl _ _ rfl L1 ?_
        (refine mg_calm rfl (fun K hK => ?_); go_simp; apply Exists.intro; refine ⟨fun z => CN z.1, hK _ ?_⟩; clear hK K)
        iterate 31 (refine mg_calm rfl (fun K hK => ?_); go_simp; (refine hK _ ?_; clear hK K))
        refine mg_nil fun w7 hw7 => ?_
        have HB7 := Lib.hid (H5.out.2.1.trans (hw7.mono H5.out.2.1.size))
        clear hw7 L1 L2 CN E0 E1 E2 
        go_wp2_with fail
        go_ret
        exact ⟨_, rfl, ⟨fun h => (by cases h), fun h => absurd (h.1 i HSO.out.2) (by rw [HSO3.out]; simp)⟩, HB7.out⟩
      cases b0
      case true =>
        by_cases hi0 : i = 0
        · have hgt : decide (0 < i) = false := decide_eq_false (by omega)
          have hgt' : decide ((0 : Int) < (i : Int)) = false := decide_eq_false (by omega)
          have HI0 := Lib.hid hi0
          clear hi0
          refine wp_region_mg [(0, 0), (1, 0), (2, 0), (3, 0), (4, 0), (5, 0), (6, 0), (7, 0), (8, 0), (9, 0), (10, 0), (11, 0), (12, 0), (13, 0), (14, 0), (15, 0), (16, 0), (17, 0), (18, 0), (19, 0), (20, 0), (21, 0), (22, 0), (23, 0), (24, 0), (25, 0), (26, 0), (27, 0), (28, 0), (29, 0), (30, 0), (31, 0), (32, 0), (33, 0)] (by kernel_rfl) (by kernel_rfl) ?_
          iterate 1 (refine mg_calm rfl (fun K hK => ?_); go_simp; (refine hK _ ?_; clear hK K))
          refine mg_load rfl rfl _ _ rfl _ _ rfl L1 ?_
          (refine mg_calm rfl (fun K hK => ?_); go_simp; apply Exists.intro; refine ⟨fun z => CN z.1, hK _ ?_⟩; clear hK K)
          iterate 3 (refine mg_calm rfl (fun K hK => ?_); go_simp; (refine hK _ ?_; clear hK K))
          refine mg_load rfl rfl _ _ rfl _ _ rfl L2 ?_
          iterate 27 (refine mg_calm rfl (fun K hK => ?_); go_simp; (refine hK _ ?_; clear hK K))
          refine mg_nil fun w7 hw7 => ?_
          have gk7 : w5.grownBy w7 none := ⟨hw7.os, hw7.tape, hw7.output, hw7.size, fun k hk _ => hw7.block k hk⟩
          have m7 := H5.out.1.kept gk7 (by simp)
          have hb7 := H5.out.2.1.trans (hw7.mono H5.out.2.1.size)
          have L7 := L1 ⟨w7, hw7⟩
          simp only at L7
          have H7 := Lib.hid (And.intro m7 hb7)
          clear hw7 L1 L2 CN E0 E1 E2 gk7 m7 hb7 hgt hgt'
          go_wp2_with (first | (refine wpList_load_at rfl _ _ rfl _ _ rfl L7 ?_) | (refine wpList_mapUpdate_own _ rfl _ _ _ 76 rfl 9 4 strKeyed Tryd.underlying76 (plainElem Tryd.prog 4) w.heap.size i D1 rfl H7.out.1 (by unfold maxLen; omega) _ _ _ rfl rfl HKN.out _ [] (plainElem_bool Tryd.underlying4 true) ?_; intro w9 hm9 hg9; have HX9 := Lib.hid (And.intro hm9 (H7.out.2.grown hg9 H7.out.2.size (fun k hk => by injection hk with hk; omega))); clear hm9 hg9 L7))
          go_roundw
          case rel =>
            refine ⟨i + 1, _, by go_num, by omega, HX9.out.1, HPP.out ▸ HPUT.out, fun j hj => ?_, HX9.out.2⟩
            rcases Nat.lt_or_ge j i with h | h
            · exact HP.out j h
            · obtain rfl : j = i := by omega
              rw [HSO3.out]
              rw [decide_eq_false (show ¬ 0 < j by have := HI0.out; omega)]; rfl
          case measure => simp [intOf]; omega
        have hi1 : 0 < i := by omega
        obtain ⟨b2, q2, IX2, R2, -⟩ := (HG.out.below HB5.out).at tyM ((i : Int) - 1) (i - 1) (by omega) (by rw [← HN.out.1]; omega)
        rw [← HN.out.1] at IX2
        obtain ⟨f2, -, -⟩ := mf_fields R2
        have LP : ∀ y : Later w5, (Instr.loadAt 9 (.pointer (some ⟨b2, q2, none⟩))).run Tryd.prog y.1 = .ok (.string (strOf l[i - 1]!.path)) y.1 := fun y => by
          have c := load_later f2 y
          clear IX2
          go_simp
        have hwp : IntKind.i64.wrap ((i : Int) - 1) = (i : Int) - 1 := by rw [IntKind.wrap_i64]; omega
        have hgt : decide (0 < i) = true := decide_eq_true (by omega)
        have hgt' : decide ((0 : Int) < (i : Int)) = true := decide_eq_true (by omega)
        have EG : Op.bytesLess (strOf l[i - 1]!.path).toList NS.toList = Op.bytesLess l[i - 1]!.path p.path := by rw [HNS.out, strOf_list, strOf_list]
        have HSO4 := Lib.hid HSO3.out
        clear HSO3 R2 f2 hi0
        generalize Op.bytesLess l[i - 1]!.path p.path = cv at *
        generalize strOf l[i - 1]!.path = PS at *
        have HSO3 := Lib.hid HSO4.out
        clear HSO4
        cases cv
        · refine wp_region_mg [(0, 0), (1, 0), (2, 0), (3, 0), (4, 0), (5, 0), (6, 0), (7, 0), (8, 0), (9, 0), (10, 0), (11, 0), (12, 0), (13, 0), (14, 0), (15, 0), (16, 0), (17, 0), (18, 0), (19, 0), (20, 0), (21, 0), (22, 0), (23, 0), (24, 0), (25, 0), (26, 0), (27, 0), (28, 0), (29, 0), (30, 0), (31, 0), (32, 0), (33, 0)] (by kernel_rfl) (by kernel_rfl) ?_
          iterate 1 (refine mg_calm rfl (fun K hK => ?_); go_simp; (refine hK _ ?_; clear hK K))
          refine mg_load rfl rfl _ _ rfl _ _ rfl L1 ?_
          (refine mg_calm rfl (fun K hK => ?_); go_simp; apply Exists.intro; refine ⟨fun z => CN z.1, hK _ ?_⟩; clear hK K)
          iterate 3 (refine mg_calm rfl (fun K hK => ?_); go_simp; (refine hK _ ?_; clear hK K))
          refine mg_load rfl rfl _ _ rfl _ _ rfl L2 ?_
          iterate 21 (refine mg_calm rfl (fun K hK => ?_); go_simp; (refine hK _ ?_; clear hK K))
          refine mg_load rfl rfl _ _ rfl _ _ rfl LP ?_
          iterate 1 (refine mg_calm rfl (fun K hK => ?_); go_simp; (refine hK _ ?_; clear hK K))
          refine mg_load rfl rfl _ _ rfl _ _ rfl L1 ?_
          iterate 3 (refine mg_calm rfl (fun K hK => ?_); go_simp; (refine hK _ ?_; clear hK K))
          refine mg_nil fun w7 hw7 => ?_
          have HB7 := Lib.hid (H5.out.2.1.trans (hw7.mono H5.out.2.1.size))
          clear hw7 L1 L2 CN E0 E1 E2 IX2 LP hwp hgt hgt' EG
          go_wp2_with fail
          go_ret
          exact ⟨_, rfl, ⟨fun h => (by cases h), fun h => absurd (h.1 i HSO.out.2) (by rw [HSO3.out]; rw [decide_eq_true hi1]; simp)⟩, HB7.out⟩
        · refine wp_region_mg [(0, 0), (1, 0), (2, 0), (3, 0), (4, 0), (5, 0), (6, 0), (7, 0), (8, 0), (9, 0), (10, 0), (11, 0), (12, 0), (13, 0), (14, 0), (15, 0), (16, 0), (17, 0), (18, 0), (19, 0), (20, 0), (21, 0), (22, 0), (23, 0), (24, 0), (25, 0), (26, 0), (27, 0), (28, 0), (29, 0), (30, 0), (31, 0), (32, 0), (33, 0)] (by kernel_rfl) (by kernel_rfl) ?_
          iterate 1 (refine mg_calm rfl (fun K hK => ?_); go_simp; (refine hK _ ?_; clear hK K))
          refine mg_load rfl rfl _ _ rfl _ _ rfl L1 ?_
          (refine mg_calm rfl (fun K hK => ?_); go_simp; apply Exists.intro; refine ⟨fun z => CN z.1, hK _ ?_⟩; clear hK K)
          iterate 3 (refine mg_calm rfl (fun K hK => ?_); go_simp; (refine hK _ ?_; clear hK K))
          refine mg_load rfl rfl _ _ rfl _ _ rfl L2 ?_
          iterate 21 (refine mg_calm rfl (fun K hK => ?_); go_simp; (refine hK _ ?_; clear hK K))
          refine mg_load rfl rfl _ _ rfl _ _ rfl LP ?_
          iterate 1 (refine mg_calm rfl (fun K hK => ?_); go_simp; (refine hK _ ?_; clear hK K))
          refine mg_load rfl rfl _ _ rfl _ _ rfl L1 ?_
          iterate 3 (refine mg_calm rfl (fun K hK => ?_); go_simp; (refine hK _ ?_; clear hK K))
          refine mg_nil fun w7 hw7 => ?_
          have gk7 : w5.grownBy w7 none := ⟨hw7.os, hw7.tape, hw7.output, hw7.size, fun k hk _ => hw7.block k hk⟩
          have m7 := H5.out.1.kept gk7 (by simp)
          have hb7 := H5.out.2.1.trans (hw7.mono H5.out.2.1.size)
          have L7 := L1 ⟨w7, hw7⟩
          simp only at L7
          have H7 := Lib.hid (And.intro m7 hb7)
          clear hw7 L1 L2 CN E0 E1 E2 gk7 m7 hb7 IX2 LP hwp hgt hgt' EG
          go_wp2_with (first | (refine wpList_load_at rfl _ _ rfl _ _ rfl L7 ?_) | (refine wpList_mapUpdate_own _ rfl _ _ _ 76 rfl 9 4 strKeyed Tryd.underlying76 (plainElem Tryd.prog 4) w.heap.size i D1 rfl H7.out.1 (by unfold maxLen; omega) _ _ _ rfl rfl HKN.out _ [] (plainElem_bool Tryd.underlying4 true) ?_; intro w9 hm9 hg9; have HX9 := Lib.hid (And.intro hm9 (H7.out.2.grown hg9 H7.out.2.size (fun k hk => by injection hk with hk; omega))); clear hm9 hg9 L7))
          go_roundw
          case rel =>
            refine ⟨i + 1, _, by go_num, by omega, HX9.out.1, HPP.out ▸ HPUT.out, fun j hj => ?_, HX9.out.2⟩
            rcases Nat.lt_or_ge j i with h | h
            · exact HP.out j h
            · obtain rfl : j = i := by omega
              rw [HSO3.out]
              simp
          case measure => simp [intOf]; omega
      cases b1
      case true =>
        by_cases hi0 : i = 0
        · have hgt : decide (0 < i) = false := decide_eq_false (by omega)
          have hgt' : decide ((0 : Int) < (i : Int)) = false := decide_eq_false (by omega)
          have HI0 := Lib.hid hi0
          clear hi0
          refine wp_region_mg [(0, 0), (1, 0), (2, 0), (3, 0), (4, 0), (5, 0), (6, 0), (7, 0), (8, 0), (9, 0), (10, 0), (11, 0), (12, 0), (13, 0), (14, 0), (15, 0), (16, 0), (17, 0), (18, 0), (19, 0), (20, 0), (21, 0), (22, 0), (23, 0), (24, 0), (25, 0), (26, 0), (27, 0), (28, 0), (29, 0), (30, 0), (31, 0), (32, 0), (33, 0)] (by kernel_rfl) (by kernel_rfl) ?_
          iterate 1 (refine mg_calm rfl (fun K hK => ?_); go_simp; (refine hK _ ?_; clear hK K))
          refine mg_load rfl rfl _ _ rfl _ _ rfl L1 ?_
          (refine mg_calm rfl (fun K hK => ?_); go_simp; apply Exists.intro; refine ⟨fun z => CN z.1, hK _ ?_⟩; clear hK K)
          iterate 3 (refine mg_calm rfl (fun K hK => ?_); go_simp; (refine hK _ ?_; clear hK K))
          refine mg_load rfl rfl _ _ rfl _ _ rfl L2 ?_
          iterate 3 (refine mg_calm rfl (fun K hK => ?_); go_simp; (refine hK _ ?_; clear hK K))
          refine mg_load rfl rfl _ _ rfl _ _ rfl L2 ?_
          iterate 23 (refine mg_calm rfl (fun K hK => ?_); go_simp; (refine hK _ ?_; clear hK K))
          refine mg_nil fun w7 hw7 => ?_
          have gk7 : w5.grownBy w7 none := ⟨hw7.os, hw7.tape, hw7.output, hw7.size, fun k hk _ => hw7.block k hk⟩
          have m7 := H5.out.1.kept gk7 (by simp)
          have hb7 := H5.out.2.1.trans (hw7.mono H5.out.2.1.size)
          have L7 := L1 ⟨w7, hw7⟩
          simp only at L7
          have H7 := Lib.hid (And.intro m7 hb7)
          clear hw7 L1 L2 CN E0 E1 E2 gk7 m7 hb7 hgt hgt'
          go_wp2_with (first | (refine wpList_load_at rfl _ _ rfl _ _ rfl L7 ?_) | (refine wpList_mapUpdate_own _ rfl _ _ _ 76 rfl 9 4 strKeyed Tryd.underlying76 (plainElem Tryd.prog 4) w.heap.size i D1 rfl H7.out.1 (by unfold maxLen; omega) _ _ _ rfl rfl HKN.out _ [] (plainElem_bool Tryd.underlying4 true) ?_; intro w9 hm9 hg9; have HX9 := Lib.hid (And.intro hm9 (H7.out.2.grown hg9 H7.out.2.size (fun k hk => by injection hk with hk; omega))); clear hm9 hg9 L7))
          go_roundw
          case rel =>
            refine ⟨i + 1, _, by go_num, by omega, HX9.out.1, HPP.out ▸ HPUT.out, fun j hj => ?_, HX9.out.2⟩
            rcases Nat.lt_or_ge j i with h | h
            · exact HP.out j h
            · obtain rfl : j = i := by omega
              rw [HSO3.out]
              rw [decide_eq_false (show ¬ 0 < j by have := HI0.out; omega)]; rfl
          case measure => simp [intOf]; omega
        have hi1 : 0 < i := by omega
        obtain ⟨b2, q2, IX2, R2, -⟩ := (HG.out.below HB5.out).at tyM ((i : Int) - 1) (i - 1) (by omega) (by rw [← HN.out.1]; omega)
        rw [← HN.out.1] at IX2
        obtain ⟨f2, -, -⟩ := mf_fields R2
        have LP : ∀ y : Later w5, (Instr.loadAt 9 (.pointer (some ⟨b2, q2, none⟩))).run Tryd.prog y.1 = .ok (.string (strOf l[i - 1]!.path)) y.1 := fun y => by
          have c := load_later f2 y
          clear IX2
          go_simp
        have hwp : IntKind.i64.wrap ((i : Int) - 1) = (i : Int) - 1 := by rw [IntKind.wrap_i64]; omega
        have hgt : decide (0 < i) = true := decide_eq_true (by omega)
        have hgt' : decide ((0 : Int) < (i : Int)) = true := decide_eq_true (by omega)
        have EG : Op.bytesLess (strOf l[i - 1]!.path).toList NS.toList = Op.bytesLess l[i - 1]!.path p.path := by rw [HNS.out, strOf_list, strOf_list]
        have HSO4 := Lib.hid HSO3.out
        clear HSO3 R2 f2 hi0
        generalize Op.bytesLess l[i - 1]!.path p.path = cv at *
        generalize strOf l[i - 1]!.path = PS at *
        have HSO3 := Lib.hid HSO4.out
        clear HSO4
        cases cv
        · refine wp_region_mg [(0, 0), (1, 0), (2, 0), (3, 0), (4, 0), (5, 0), (6, 0), (7, 0), (8, 0), (9, 0), (10, 0), (11, 0), (12, 0), (13, 0), (14, 0), (15, 0), (16, 0), (17, 0), (18, 0), (19, 0), (20, 0), (21, 0), (22, 0), (23, 0), (24, 0), (25, 0), (26, 0), (27, 0), (28, 0), (29, 0), (30, 0), (31, 0), (32, 0), (33, 0)] (by kernel_rfl) (by kernel_rfl) ?_
          iterate 1 (refine mg_calm rfl (fun K hK => ?_); go_simp; (refine hK _ ?_; clear hK K))
          refine mg_load rfl rfl _ _ rfl _ _ rfl L1 ?_
          (refine mg_calm rfl (fun K hK => ?_); go_simp; apply Exists.intro; refine ⟨fun z => CN z.1, hK _ ?_⟩; clear hK K)
          iterate 3 (refine mg_calm rfl (fun K hK => ?_); go_simp; (refine hK _ ?_; clear hK K))
          refine mg_load rfl rfl _ _ rfl _ _ rfl L2 ?_
          iterate 3 (refine mg_calm rfl (fun K hK => ?_); go_simp; (refine hK _ ?_; clear hK K))
          refine mg_load rfl rfl _ _ rfl _ _ rfl L2 ?_
          iterate 17 (refine mg_calm rfl (fun K hK => ?_); go_simp; (refine hK _ ?_; clear hK K))
          refine mg_load rfl rfl _ _ rfl _ _ rfl LP ?_
          iterate 1 (refine mg_calm rfl (fun K hK => ?_); go_simp; (refine hK _ ?_; clear hK K))
          refine mg_load rfl rfl _ _ rfl _ _ rfl L1 ?_
          iterate 3 (refine mg_calm rfl (fun K hK => ?_); go_simp; (refine hK _ ?_; clear hK K))
          refine mg_nil fun w7 hw7 => ?_
          have HB7 := Lib.hid (H5.out.2.1.trans (hw7.mono H5.out.2.1.size))
          clear hw7 L1 L2 CN E0 E1 E2 IX2 LP hwp hgt hgt' EG
          go_wp2_with fail
          go_ret
          exact ⟨_, rfl, ⟨fun h => (by cases h), fun h => absurd (h.1 i HSO.out.2) (by rw [HSO3.out]; rw [decide_eq_true hi1]; simp)⟩, HB7.out⟩
        · refine wp_region_mg [(0, 0), (1, 0), (2, 0), (3, 0), (4, 0), (5, 0), (6, 0), (7, 0), (8, 0), (9, 0), (10, 0), (11, 0), (12, 0), (13, 0), (14, 0), (15, 0), (16, 0), (17, 0), (18, 0), (19, 0), (20, 0), (21, 0), (22, 0), (23, 0), (24, 0), (25, 0), (26, 0), (27, 0), (28, 0), (29, 0), (30, 0), (31, 0), (32, 0), (33, 0)] (by kernel_rfl) (by kernel_rfl) ?_
          iterate 1 (refine mg_calm rfl (fun K hK => ?_); go_simp; (refine hK _ ?_; clear hK K))
          refine mg_load rfl rfl _ _ rfl _ _ rfl L1 ?_
          (refine mg_calm rfl (fun K hK => ?_); go_simp; apply Exists.intro; refine ⟨fun z => CN z.1, hK _ ?_⟩; clear hK K)
          iterate 3 (refine mg_calm rfl (fun K hK => ?_); go_simp; (refine hK _ ?_; clear hK K))
          refine mg_load rfl rfl _ _ rfl _ _ rfl L2 ?_
          iterate 3 (refine mg_calm rfl (fun K hK => ?_); go_simp; (refine hK _ ?_; clear hK K))
          refine mg_load rfl rfl _ _ rfl _ _ rfl L2 ?_
          iterate 17 (refine mg_calm rfl (fun K hK => ?_); go_simp; (refine hK _ ?_; clear hK K))
          refine mg_load rfl rfl _ _ rfl _ _ rfl LP ?_
          iterate 1 (refine mg_calm rfl (fun K hK => ?_); go_simp; (refine hK _ ?_; clear hK K))
          refine mg_load rfl rfl _ _ rfl _ _ rfl L1 ?_
          iterate 3 (refine mg_calm rfl (fun K hK => ?_); go_simp; (refine hK _ ?_; clear hK K))
          refine mg_nil fun w7 hw7 => ?_
          have gk7 : w5.grownBy w7 none := ⟨hw7.os, hw7.tape, hw7.output, hw7.size, fun k hk _ => hw7.block k hk⟩
          have m7 := H5.out.1.kept gk7 (by simp)
          have hb7 := H5.out.2.1.trans (hw7.mono H5.out.2.1.size)
          have L7 := L1 ⟨w7, hw7⟩
          simp only at L7
          have H7 := Lib.hid (And.intro m7 hb7)
          clear hw7 L1 L2 CN E0 E1 E2 gk7 m7 hb7 IX2 LP hwp hgt hgt' EG
          go_wp2_with (first | (refine wpList_load_at rfl _ _ rfl _ _ rfl L7 ?_) | (refine wpList_mapUpdate_own _ rfl _ _ _ 76 rfl 9 4 strKeyed Tryd.underlying76 (plainElem Tryd.prog 4) w.heap.size i D1 rfl H7.out.1 (by unfold maxLen; omega) _ _ _ rfl rfl HKN.out _ [] (plainElem_bool Tryd.underlying4 true) ?_; intro w9 hm9 hg9; have HX9 := Lib.hid (And.intro hm9 (H7.out.2.grown hg9 H7.out.2.size (fun k hk => by injection hk with hk; omega))); clear hm9 hg9 L7))
          go_roundw
          case rel =>
            refine ⟨i + 1, _, by go_num, by omega, HX9.out.1, HPP.out ▸ HPUT.out, fun j hj => ?_, HX9.out.2⟩
            rcases Nat.lt_or_ge j i with h | h
            · exact HP.out j h
            · obtain rfl : j = i := by omega
              rw [HSO3.out]
              simp
          case measure => simp [intOf]; omega
      cases b2
      case true =>
        by_cases hi0 : i = 0
        · have hgt : decide (0 < i) = false := decide_eq_false (by omega)
          have hgt' : decide ((0 : Int) < (i : Int)) = false := decide_eq_false (by omega)
          have HI0 := Lib.hid hi0
          clear hi0
          refine wp_region_mg [(0, 0), (1, 0), (2, 0), (3, 0), (4, 0), (5, 0), (6, 0), (7, 0), (8, 0), (9, 0), (10, 0), (11, 0), (12, 0), (13, 0), (14, 0), (15, 0), (16, 0), (17, 0), (18, 0), (19, 0), (20, 0), (21, 0), (22, 0), (23, 0), (24, 0), (25, 0), (26, 0), (27, 0), (28, 0), (29, 0), (30, 0), (31, 0), (32, 0), (33, 0)] (by kernel_rfl) (by kernel_rfl) ?_
          iterate 1 (refine mg_calm rfl (fun K hK => ?_); go_simp; (refine hK _ ?_; clear hK K))
          refine mg_load rfl rfl _ _ rfl _ _ rfl L1 ?_
          (refine mg_calm rfl (fun K hK => ?_); go_simp; apply Exists.intro; refine ⟨fun z => CN z.1, hK _ ?_⟩; clear hK K)
          iterate 3 (refine mg_calm rfl (fun K hK => ?_); go_simp; (refine hK _ ?_; clear hK K))
          refine mg_load rfl rfl _ _ rfl _ _ rfl L2 ?_
          iterate 3 (refine mg_calm rfl (fun K hK => ?_); go_simp; (refine hK _ ?_; clear hK K))
          refine mg_load rfl rfl _ _ rfl _ _ rfl L2 ?_
          iterate 4 (refine mg_calm rfl (fun K hK => ?_); go_simp; (refine hK _ ?_; clear hK K))
          refine mg_load rfl rfl _ _ rfl _ _ rfl L2 ?_
          iterate 18 (refine mg_calm rfl (fun K hK => ?_); go_simp; (refine hK _ ?_; clear hK K))
          refine mg_nil fun w7 hw7 => ?_
          have gk7 : w5.grownBy w7 none := ⟨hw7.os, hw7.tape, hw7.output, hw7.size, fun k hk _ => hw7.block k hk⟩
          have m7 := H5.out.1.kept gk7 (by simp)
          have hb7 := H5.out.2.1.trans (hw7.mono H5.out.2.1.size)
          have L7 := L1 ⟨w7, hw7⟩
          simp only at L7
          have H7 := Lib.hid (And.intro m7 hb7)
          clear hw7 L1 L2 CN E0 E1 E2 gk7 m7 hb7 hgt hgt'
          go_wp2_with (first | (refine wpList_load_at rfl _ _ rfl _ _ rfl L7 ?_) | (refine wpList_mapUpdate_own _ rfl _ _ _ 76 rfl 9 4 strKeyed Tryd.underlying76 (plainElem Tryd.prog 4) w.heap.size i D1 rfl H7.out.1 (by unfold maxLen; omega) _ _ _ rfl rfl HKN.out _ [] (plainElem_bool Tryd.underlying4 true) ?_; intro w9 hm9 hg9; have HX9 := Lib.hid (And.intro hm9 (H7.out.2.grown hg9 H7.out.2.size (fun k hk => by injection hk with hk; omega))); clear hm9 hg9 L7))
          go_roundw
          case rel =>
            refine ⟨i + 1, _, by go_num, by omega, HX9.out.1, HPP.out ▸ HPUT.out, fun j hj => ?_, HX9.out.2⟩
            rcases Nat.lt_or_ge j i with h | h
            · exact HP.out j h
            · obtain rfl : j = i := by omega
              rw [HSO3.out]
              rw [decide_eq_false (show ¬ 0 < j by have := HI0.out; omega)]; rfl
          case measure => simp [intOf]; omega
        have hi1 : 0 < i := by omega
        obtain ⟨b2, q2, IX2, R2, -⟩ := (HG.out.below HB5.out).at tyM ((i : Int) - 1) (i - 1) (by omega) (by rw [← HN.out.1]; omega)
        rw [← HN.out.1] at IX2
        obtain ⟨f2, -, -⟩ := mf_fields R2
        have LP : ∀ y : Later w5, (Instr.loadAt 9 (.pointer (some ⟨b2, q2, none⟩))).run Tryd.prog y.1 = .ok (.string (strOf l[i - 1]!.path)) y.1 := fun y => by
          have c := load_later f2 y
          clear IX2
          go_simp
        have hwp : IntKind.i64.wrap ((i : Int) - 1) = (i : Int) - 1 := by rw [IntKind.wrap_i64]; omega
        have hgt : decide (0 < i) = true := decide_eq_true (by omega)
        have hgt' : decide ((0 : Int) < (i : Int)) = true := decide_eq_true (by omega)
        have EG : Op.bytesLess (strOf l[i - 1]!.path).toList NS.toList = Op.bytesLess l[i - 1]!.path p.path := by rw [HNS.out, strOf_list, strOf_list]
        have HSO4 := Lib.hid HSO3.out
        clear HSO3 R2 f2 hi0
        generalize Op.bytesLess l[i - 1]!.path p.path = cv at *
        generalize strOf l[i - 1]!.path = PS at *
        have HSO3 := Lib.hid HSO4.out
        clear HSO4
        cases cv
        · refine wp_region_mg [(0, 0), (1, 0), (2, 0), (3, 0), (4, 0), (5, 0), (6, 0), (7, 0), (8, 0), (9, 0), (10, 0), (11, 0), (12, 0), (13, 0), (14, 0), (15, 0), (16, 0), (17, 0), (18, 0), (19, 0), (20, 0), (21, 0), (22, 0), (23, 0), (24, 0), (25, 0), (26, 0), (27, 0), (28, 0), (29, 0), (30, 0), (31, 0), (32, 0), (33, 0)] (by kernel_rfl) (by kernel_rfl) ?_
          iterate 1 (refine mg_calm rfl (fun K hK => ?_); go_simp; (refine hK _ ?_; clear hK K))
          refine mg_load rfl rfl _ _ rfl _ _ rfl L1 ?_
          (refine mg_calm rfl (fun K hK => ?_); go_simp; apply Exists.intro; refine ⟨fun z => CN z.1, hK _ ?_⟩; clear hK K)
          iterate 3 (refine mg_calm rfl (fun K hK => ?_); go_simp; (refine hK _ ?_; clear hK K))
          refine mg_load rfl rfl _ _ rfl _ _ rfl L2 ?_
          iterate 3 (refine mg_calm rfl (fun K hK => ?_); go_simp; (refine hK _ ?_; clear hK K))
          refine mg_load rfl rfl _ _ rfl _ _ rfl L2 ?_
          iterate 4 (refine mg_calm rfl (fun K hK => ?_); go_simp; (refine hK _ ?_; clear hK K))
          refine mg_load rfl rfl _ _ rfl _ _ rfl L2 ?_
          iterate 12 (refine mg_calm rfl (fun K hK => ?_); go_simp; (refine hK _ ?_; clear hK K))
          refine mg_load rfl rfl _ _ rfl _ _ rfl LP ?_
          iterate 1 (refine mg_calm rfl (fun K hK => ?_); go_simp; (refine hK _ ?_; clear hK K))
          refine mg_load rfl rfl _ _ rfl _ _ rfl L1 ?_
          iterate 3 (refine mg_calm rfl (fun K hK => ?_); go_simp; (refine hK _ ?_; clear hK K))
          refine mg_nil fun w7 hw7 => ?_
          have HB7 := Lib.hid (H5.out.2.1.trans (hw7.mono H5.out.2.1.size))
          clear hw7 L1 L2 CN E0 E1 E2 IX2 LP hwp hgt hgt' EG
          go_wp2_with fail
          go_ret
          exact ⟨_, rfl, ⟨fun h => (by cases h), fun h => absurd (h.1 i HSO.out.2) (by rw [HSO3.out]; rw [decide_eq_true hi1]; simp)⟩, HB7.out⟩
        · refine wp_region_mg [(0, 0), (1, 0), (2, 0), (3, 0), (4, 0), (5, 0), (6, 0), (7, 0), (8, 0), (9, 0), (10, 0), (11, 0), (12, 0), (13, 0), (14, 0), (15, 0), (16, 0), (17, 0), (18, 0), (19, 0), (20, 0), (21, 0), (22, 0), (23, 0), (24, 0), (25, 0), (26, 0), (27, 0), (28, 0), (29, 0), (30, 0), (31, 0), (32, 0), (33, 0)] (by kernel_rfl) (by kernel_rfl) ?_
          iterate 1 (refine mg_calm rfl (fun K hK => ?_); go_simp; (refine hK _ ?_; clear hK K))
          refine mg_load rfl rfl _ _ rfl _ _ rfl L1 ?_
          (refine mg_calm rfl (fun K hK => ?_); go_simp; apply Exists.intro; refine ⟨fun z => CN z.1, hK _ ?_⟩; clear hK K)
          iterate 3 (refine mg_calm rfl (fun K hK => ?_); go_simp; (refine hK _ ?_; clear hK K))
          refine mg_load rfl rfl _ _ rfl _ _ rfl L2 ?_
          iterate 3 (refine mg_calm rfl (fun K hK => ?_); go_simp; (refine hK _ ?_; clear hK K))
          refine mg_load rfl rfl _ _ rfl _ _ rfl L2 ?_
          iterate 4 (refine mg_calm rfl (fun K hK => ?_); go_simp; (refine hK _ ?_; clear hK K))
          refine mg_load rfl rfl _ _ rfl _ _ rfl L2 ?_
          iterate 12 (refine mg_calm rfl (fun K hK => ?_); go_simp; (refine hK _ ?_; clear hK K))
          refine mg_load rfl rfl _ _ rfl _ _ rfl LP ?_
          iterate 1 (refine mg_calm rfl (fun K hK => ?_); go_simp; (refine hK _ ?_; clear hK K))
          refine mg_load rfl rfl _ _ rfl _ _ rfl L1 ?_
          iterate 3 (refine mg_calm rfl (fun K hK => ?_); go_simp; (refine hK _ ?_; clear hK K))
          refine mg_nil fun w7 hw7 => ?_
          have gk7 : w5.grownBy w7 none := ⟨hw7.os, hw7.tape, hw7.output, hw7.size, fun k hk _ => hw7.block k hk⟩
          have m7 := H5.out.1.kept gk7 (by simp)
          have hb7 := H5.out.2.1.trans (hw7.mono H5.out.2.1.size)
          have L7 := L1 ⟨w7, hw7⟩
          simp only at L7
          have H7 := Lib.hid (And.intro m7 hb7)
          clear hw7 L1 L2 CN E0 E1 E2 gk7 m7 hb7 IX2 LP hwp hgt hgt' EG
          go_wp2_with (first | (refine wpList_load_at rfl _ _ rfl _ _ rfl L7 ?_) | (refine wpList_mapUpdate_own _ rfl _ _ _ 76 rfl 9 4 strKeyed Tryd.underlying76 (plainElem Tryd.prog 4) w.heap.size i D1 rfl H7.out.1 (by unfold maxLen; omega) _ _ _ rfl rfl HKN.out _ [] (plainElem_bool Tryd.underlying4 true) ?_; intro w9 hm9 hg9; have HX9 := Lib.hid (And.intro hm9 (H7.out.2.grown hg9 H7.out.2.size (fun k hk => by injection hk with hk; omega))); clear hm9 hg9 L7))
          go_roundw
          case rel =>
            refine ⟨i + 1, _, by go_num, by omega, HX9.out.1, HPP.out ▸ HPUT.out, fun j hj => ?_, HX9.out.2⟩
            rcases Nat.lt_or_ge j i with h | h
            · exact HP.out j h
            · obtain rfl : j = i := by omega
              rw [HSO3.out]
              simp
          case measure => simp [intOf]; omega
      refine wp_region_mg [(0, 0), (1, 0), (2, 0), (3, 0), (4, 0), (5, 0), (6, 0), (7, 0), (8, 0), (9, 0), (10, 0), (11, 0), (12, 0), (13, 0), (14, 0), (15, 0), (16, 0), (17, 0), (18, 0), (19, 0), (20, 0), (21, 0), (22, 0), (23, 0), (24, 0), (25, 0), (26, 0), (27, 0), (28, 0), (29, 0), (30, 0), (31, 0), (32, 0), (33, 0)] (by kernel_rfl) (by kernel_rfl) ?_
      iterate 1 (refine mg_calm rfl (fun K hK => ?_); go_simp; (refine hK _ ?_; clear hK K))
      refine mg_load rfl rfl _ _ rfl _ _ rfl L1 ?_
      (refine mg_calm rfl (fun K hK => ?_); go_simp; apply Exists.intro; refine ⟨fun z => CN z.1, hK _ ?_⟩; clear hK K)
      iterate 3 (refine mg_calm rfl (fun K hK => ?_); go_simp; (refine hK _ ?_; clear hK K))
      refine mg_load rfl rfl _ _ rfl _ _ rfl L2 ?_
      iterate 3 (refine mg_calm rfl (fun K hK => ?_); go_simp; (refine hK _ ?_; clear hK K))
      refine mg_load rfl rfl _ _ rfl _ _ rfl L2 ?_
      iterate 4 (refine mg_calm rfl (fun K hK => ?_); go_simp; (refine hK _ ?_; clear hK K))
      refine mg_load rfl rfl _ _ rfl _ _ rfl L2 ?_
      iterate 18 (refine mg_calm rfl (fun K hK => ?_); go_simp; (refine hK _ ?_; clear hK K))
      refine mg_nil fun w7 hw7 => ?_
      have HB7 := Lib.hid (H5.out.2.1.trans (hw7.mono H5.out.2.1.size))
      clear hw7 L1 L2 CN E0 E1 E2 
      go_wp2_with fail
      go_ret
      exact ⟨_, rfl, ⟨fun h => (by cases h), fun h => absurd (h.1 i HSO.out.2) (by rw [HSO3.out]; simp)⟩, HB7.out⟩
    · obtain rfl : i = n := by omega
      have t1 : decide ((i : Int) < (i : Int)) = false := decide_eq_false (by omega)
      have t1' : decide (i < i) = false := decide_eq_false (by omega)
      have HM2 := Lib.hid (And.intro hm1 (And.intro (show StrsAre D1 (pathsM l) by rw [HN.out.1, List.take_of_length_le (Nat.le_refl _)] at hD1; exact hD1) hb))
      clear hm1 hD1 hb
      go_wp2_with fail
      clear t1 t1'
      go_loopw [57] (fun s9 wr => ∃ k : Nat, s9 = .int .i64 (k : Int) ∧ k ≤ i ∧ wr.ownsMap Tryd.prog 9 (plainElem Tryd.prog 4) w.heap.size i D1 ∧ (∀ j, j < k → noDir l l[j]!.path) ∧ Below w.heap.size w wr) (fun s9 _ => i - (intOf s9).toNat)
      case atStart => exact ⟨0, rfl, Nat.zero_le _, HM2.out.1, fun _ h => absurd h (Nat.not_lt_zero _), HM2.out.2.2⟩
      case round =>
        obtain ⟨k, rfl, hk, hm1, hpre, hb⟩ := hrel
        have HPR := Lib.hid hpre
        have HB := Lib.hid hb
        have HMM := Lib.hid hm1
        clear hpre
        by_cases hkn : k < i
        · have t1 : decide ((k : Int) < (i : Int)) = true := decide_eq_true (by omega)
          have t1' : decide (k < i) = true := decide_eq_true (by omega)
          have hil : k < l.length := by rw [← HN.out.1]; exact hkn
          obtain ⟨b, q, IX, -, L⟩ := (HG.out.below hb).at tyM (k : Int) k rfl hil
          rw [← HN.out.1] at IX
          have L' := L _ (Below.refl _ _)
          have hpn : l[k]!.path.length ≤ 100000 ∧ l[k]!.flag.length ≤ 100000 := HN.out.2 _ (by rw [getElem!_pos l k hil]; exact List.getElem_mem hil)
          obtain ⟨p, hp⟩ : ∃ p, p = l[k]! := ⟨_, rfl⟩
          rw [← hp] at L' hpn
          have HPP := Lib.hid hp.symm
          have HPN := Lib.hid hpn
          have hzb : (wr.alloc (.cells Z 46)).heap[wr.heap.size]? = some (.cells Z 46 (0, 0)) := heap_alloc_last _ _ _ rfl
          have zs : Z.size = (recA encM p).size := by rw [HZ.out]; simp [recA, encM_len]
          have zi : (Tryd.prog.info? 46).map (·.size) = some (recA encM p).size := by rw [show (recA encM p).size = 22 by simp [recA, encM_len]]; exact tyM.ie
          have z1 : (recA encM p).all (·.oneCell') = true := all_oneCell_toArray (encM_one _)
          have gA : Below wr.heap.size wr ((wr.alloc (.cells Z 46)).setRow wr.heap.size (recA encM p)) := below_setRow ((Below.refl _ _).alloc (Nat.le_refl _) _) (Nat.le_refl _) _
          have hbox : ((wr.alloc (.cells Z 46)).setRow wr.heap.size (recA encM p)).heap[wr.heap.size]? = some (.cells (recA encM p) 46 (0, 0)) := setRow_heap _ _ _ _ _ _ hzb
          have HA := Lib.hid (And.intro gA hbox)
          clear L hm1 hp hb hil gA hbox hpn
          go_upto_region 12 with (first | (refine wpList_load_at rfl _ _ rfl _ _ rfl L' ?_) | (refine wpList_store_row rfl 46 _ _ rfl wr.heap.size (recA encM p) rfl rfl 46 Z hzb zi zs z1 ?_))
          have gA := HA.out.1
          have hbox := HA.out.2
          obtain ⟨B, hB⟩ : ∃ B, B = wr.heap.size := ⟨_, rfl⟩
          clear HA L' IX zs zi z1 hzb
          generalize (wr.alloc (.cells Z 46)).setRow wr.heap.size (recA encM p) = w5 at *
          rw [← hB] at hbox ⊢
          clear hB
          have gk : wr.grownBy w5 none := ⟨gA.os, gA.tape, gA.output, gA.size, fun k hk _ => gA.block k hk⟩
          have m1 := HMM.out.kept gk (by simp)
          have hb5 := HB.out.trans (gA.mono HB.out.size)
          obtain ⟨f0, -, -⟩ := mf_fields (recBox hbox)
          obtain ⟨NS, hNS⟩ : ∃ NS, NS = strOf p.path := ⟨_, rfl⟩
          rw [← hNS] at f0
          obtain ⟨m, hm⟩ : ∃ m, m = p.path.length := ⟨_, rfl⟩
          have hsz : NS.size = m := by rw [hNS, strOf_size, hm]
          have hm6 : m ≤ 100000 := by rw [hm]; exact HPN.out.1
          have H5 := Lib.hid (And.intro m1 (And.intro hb5 (And.intro hNS hm)))
          have LK : ∀ x : List UInt8, x.length ≤ 1000000 → (Instr.lookup 76 (.map (some w.heap.size)) (.string (strOf x)) false).run Tryd.prog w5 = .ok (.bool (pathsM l x)) w5 := fun x hx => strs_look m1 HM2.out.2.1 x hx
          have HLK := Lib.hid LK
          clear m1 hb5 hbox gA gk hNS hm LK t1 t1'
          go_wp2_with fail
          go_loopw [64] (fun s9 wr => ∃ j : Nat, s9 = .int .i64 (j : Int) ∧ j ≤ m ∧ (∀ t, t < j → p.path[t]? = some 47 → pathsM l (p.path.take t) = false) ∧ w5 = wr) (fun s9 _ => m - (intOf s9).toNat)
          case atStart => exact ⟨0, rfl, Nat.zero_le _, fun _ h => absurd h (Nat.not_lt_zero _), rfl⟩
          case round =>
            obtain ⟨j, rfl, hj, hdir, rfl⟩ := hrel
            have HDIR := Lib.hid hdir
            clear hdir
            by_cases hjm : j < m
            · have t1 : decide ((j : Int) < (m : Int)) = true := decide_eq_true (by omega)
              have t1' : decide (j < m) = true := decide_eq_true (by omega)
              have hjl : j < p.path.length := by rw [← H5.out.2.2.2]; exact hjm
              have IX := fun W : World => str_at Tryd.underlying9 p.path (i := j) (j : Int) rfl (c := p.path[j]) (List.getElem?_eq_getElem hjl) W
              have SL := fun W : World => str_to Tryd.underlying9 p.path (i := j) (by omega) W
              have LK := HLK.out (p.path.take j) (by rw [List.length_take]; have := HPN.out.1; omega)
              have hno : p.path[j]? = some p.path[j] := List.getElem?_eq_getElem hjl
              rw [← H5.out.2.2.1] at IX SL
              obtain ⟨x, hx⟩ : ∃ x, x = p.path[j] := ⟨_, rfl⟩
              rw [← hx] at IX hno
              have q0 : ((x.toNat : Int) == 47) = decide (x = 47) := by
                rw [Bool.eq_iff_iff, beq_iff_eq, decide_eq_true_eq]
                constructor
                · intro h; exact UInt8.toNat_inj.1 (by show x.toNat = 47; omega)
                · rintro rfl; rfl
              obtain ⟨d, hd⟩ : ∃ d, d = pathsM l (p.path.take j) := ⟨_, rfl⟩
              rw [← hd] at LK
              have HX := Lib.hid (And.intro hno hd)
              generalize strOf (p.path.take j) = TS at *
              clear hx hno hd hjl
              by_cases h47 : x = 47
              · rw [decide_eq_true h47] at q0
                cases d
                · have HNX : Hid (∀ t, t < j + 1 → p.path[t]? = some 47 → pathsM l (p.path.take t) = false) := Lib.hid fun t ht h => by
                    rcases Nat.lt_or_ge t j with h1 | h1
                    · exact HDIR.out t h1 h
                    · obtain rfl : t = j := by omega
                      exact HX.out.2.symm
                  clear h47
                  go_wp2_with (first | (refine wpList_index_at rfl _ _ _ rfl _ _ _ rfl rfl IX ?_))
                  go_roundw
                  case rel => exact ⟨j + 1, by go_num, by omega, HNX.out, by first | rfl | trivial⟩
                  case measure => simp [intOf]; omega
                · have HBAD : Hid (¬ RightM l) := Lib.hid fun h => by
                    have h2 := h.2 k (by rw [← HN.out.1]; exact hkn)
                    rw [HPP.out] at h2
                    have := h2 j (by rw [← H5.out.2.2.2]; exact hjm) (by rw [HX.out.1, h47])
                    rw [← HX.out.2] at this
                    cases this
                  clear h47
                  go_wp2_with (first | (refine wpList_index_at rfl _ _ _ rfl _ _ _ rfl rfl IX ?_))
                  go_ret
                  exact ⟨_, rfl, ⟨fun h => (by cases h), fun h => absurd h HBAD.out⟩, H5.out.2.1⟩
              · rw [decide_eq_false h47] at q0
                have HNX : Hid (∀ t, t < j + 1 → p.path[t]? = some 47 → pathsM l (p.path.take t) = false) := Lib.hid fun t ht h => by
                  rcases Nat.lt_or_ge t j with h1 | h1
                  · exact HDIR.out t h1 h
                  · obtain rfl : t = j := by omega
                    rw [HX.out.1] at h
                    injection h with h
                    exact absurd h h47
                clear h47
                go_wp2_with (first | (refine wpList_index_at rfl _ _ _ rfl _ _ _ rfl rfl IX ?_))
                go_roundw
                case rel => exact ⟨j + 1, by go_num, by omega, HNX.out, by first | rfl | trivial⟩
                case measure => simp [intOf]; omega
            · obtain rfl : j = m := by omega
              have t1 : decide ((j : Int) < (j : Int)) = false := decide_eq_false (by omega)
              have t1' : decide (j < j) = false := decide_eq_false (by omega)
              have HNX : Hid (∀ t, t < k + 1 → noDir l l[t]!.path) := Lib.hid fun t ht => by
                rcases Nat.lt_or_ge t k with h1 | h1
                · exact HPR.out t h1
                · obtain rfl : t = k := by omega
                  rw [HPP.out]
                  exact fun u hu h => HDIR.out u (by rw [H5.out.2.2.2]; exact hu) h
              go_wp2_with fail
              go_roundw
              case rel => exact ⟨k + 1, by go_num, by omega, H5.out.1, HNX.out, H5.out.2.1⟩
              case measure => simp [intOf]; omega
        · obtain rfl : k = i := by omega
          have t1 : decide ((k : Int) < (k : Int)) = false := decide_eq_false (by omega)
          have t1' : decide (k < k) = false := decide_eq_false (by omega)
          clear hm1 hb
          go_wp2_with fail
          go_ret
          exact ⟨_, rfl, ⟨fun _ => ⟨fun j hj => HP.out j (by rw [HN.out.1]; exact hj), fun j hj => HPR.out j (by rw [HN.out.1]; exact hj)⟩, fun _ => rfl⟩, HB.out⟩
end Go.Proofs.YtifoledkmjlmoaaDoor
