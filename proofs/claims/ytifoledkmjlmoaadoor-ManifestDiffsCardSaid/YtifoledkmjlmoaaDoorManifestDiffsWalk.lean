/-
  The law ManifestDiffs, walked.
-/
import Derived.Test.YtifoledkmjlmoaaDoorFind18
import Derived.Test.YtifoledkmjlmoaaDoorRefDiff
import Derived.Test.YtifoledkmjlmoaaDoorManifestBackWalk
namespace Go.Proofs.YtifoledkmjlmoaaDoor
open Go.RowKit Go.Mix Go.WideMaps

set_option maxRecDepth 100000 in
set_option maxHeartbeats 4000000 in
theorem manifestDiffs_walk (a0 : Option Addr) (len0 cap0 : Nat) (l : List MFile) (a1 : Option Addr) (len1 cap1 : Nat) (m : List MFile) (a2 : ByteArray) (w : World)
    (hl0 : l.length = len0) (h0 : RsAt encM 22 w a0 cap0 l) (hx0 : ∀ p ∈ l, p.path.length ≤ 9223372036854775807 ∧ p.flag.length ≤ 9223372036854775807)
    (hl1 : m.length = len1) (h1 : RsAt encM 22 w a1 cap1 m) (hx1 : ∀ p ∈ m, p.path.length ≤ 9223372036854775807 ∧ p.flag.length ≤ 9223372036854775807)
    (h2 : a2.size ≤ maxLen) :
    Calls Tryd.prog 7 #[.slice a0 len0 cap0, .slice a1 len1 cap1, .string a2] w fun e w' => e = .returned (.bool true) ∧ Below w.heap.size w w' := by
  obtain ⟨U0, rfl⟩ : ∃ U, a2 = strOf U := ⟨a2.data.toList, by unfold strOf; rw [Array.toArray_toList]⟩
  rw [strOf_size] at h2
  obtain ⟨q, hq⟩ : ∃ q, q = min U0.length 300 := ⟨_, rfl⟩
  obtain ⟨nu, hnu⟩ : ∃ nu, nu = U0.length := ⟨_, rfl⟩
  have MR := min_run (nu : Int) 300 q (by split <;> omega)
  have SU := str_to Tryd.underlying9 U0 (i := q) (by omega)
  obtain ⟨U, hU⟩ : ∃ U, U = U0.take q := ⟨_, rfl⟩
  have hsz0 : (strOf U0).size = nu := by rw [strOf_size, hnu]
  rw [← hU] at SU
  clear hU hq hnu h2
  generalize strOf U0 = XU0 at *
  have C1 := few_any h0 hx0
  rw [hl0] at C1
  have HF := Lib.hid (And.intro (few_ok l) (few_wf l))
  have HG := Lib.hid (And.intro (few_ok m) (few_wf m))
  have H0 := Lib.hid (And.intro hl1 (And.intro h1 hx1))
  clear hl0 h0 hx0 hl1 h1 hx1
  generalize fewL l = X at *
  go_enter Tryd.func7, Tryd.ntmps7
  go_wp2_with fail
  refine C1.mono ?_
  clear C1
  rintro e w1 ⟨v, rfl, hown⟩
  obtain ⟨v1, c1, rfl, hrs, -⟩ := hown.rs tyM
  have C2 := few_any (H0.out.2.1.below hown.frame) H0.out.2.2
  rw [H0.out.1] at C2
  have H1 := Lib.hid (And.intro hown.frame hrs)
  clear hown hrs
  generalize fewL m = Y at *
  obtain ⟨nx, hnx⟩ : ∃ n, n = X.length := ⟨_, rfl⟩
  have HNX := Lib.hid hnx
  have hnx6 : nx ≤ 40 := by rw [hnx]; exact HF.out.1.1
  rw [← hnx]
  clear hnx
  go_wp2_with fail
  refine C2.mono ?_
  clear C2
  rintro e w2 ⟨v, rfl, hown⟩
  obtain ⟨v2, c2, rfl, hrs, -⟩ := hown.rs tyM
  obtain ⟨ny, hny⟩ : ∃ n, n = Y.length := ⟨_, rfl⟩
  have hx2 := H1.out.2.below hown.frame
  have C3 := diff_any hx2 hrs (by have := HF.out.1.1; omega) (by have := HG.out.1.1; omega) HF.out.2 HG.out.2
  rw [← HNX.out, ← hny] at C3
  have H2 := Lib.hid (And.intro (H1.out.1.trans (hown.frame.mono H1.out.1.size)) (And.intro hx2 (And.intro hrs hny)))
  rw [← hny]
  clear hown hrs hx2 hny
  go_wp2_with fail
  refine C3.mono ?_
  clear C3
  rintro e w3 ⟨v, rfl, hd3⟩
  obtain ⟨v3, c3, rfl, hr3, -⟩ := hd3.rs1 tyS
  obtain ⟨DL, hDL⟩ : ∃ DL, DL = diffL X Y := ⟨_, rfl⟩
  rw [← hDL] at hr3 ⊢
  obtain ⟨nd, hnd⟩ : ∃ n, n = DL.length := ⟨_, rfl⟩
  have hnd6 : nd ≤ 80 := by have := diffL_len X Y; have := HF.out.1.1; have := HG.out.1.1; rw [hnd, hDL]; omega
  have H3 := Lib.hid (And.intro (H2.out.1.trans (hd3.frame.mono H2.out.1.size)) (And.intro (H2.out.2.1.below hd3.frame) (And.intro (H2.out.2.2.1.below hd3.frame) (And.intro hr3 (And.intro hnd hDL)))))
  have C4 := as_any (H2.out.2.1.below hd3.frame) (by have := HF.out.1.1; omega)
  rw [← HNX.out] at C4
  rw [← hnd]
  clear hd3 hr3 hnd hDL
  go_wp2_with fail
  refine C4.mono ?_
  clear C4
  rintro e w4 ⟨v, rfl, hd4⟩
  obtain ⟨v4, c4, rfl, hr4, -⟩ := hd4.rs tyN
  have C5 := as_any (H3.out.2.2.1.below hd4.frame) (by have := HG.out.1.1; omega)
  rw [← H2.out.2.2.2] at C5
  rw [← HNX.out]
  have H4 := Lib.hid (And.intro hd4.frame hr4)
  clear hd4 hr4
  go_wp2_with fail
  refine C5.mono ?_
  clear C5
  rintro e w5 ⟨v, rfl, hd5⟩
  obtain ⟨v5, c5, rfl, hr5, -⟩ := hd5.rs tyN
  have C6 := refDiff_any (H4.out.2.below hd5.frame) hr5 (by have := HF.out.1.1; omega) (by have := HG.out.1.1; omega) HF.out.2 HG.out.2
  rw [← HNX.out, ← H2.out.2.2.2, ← H3.out.2.2.2.2.2] at C6
  rw [← H2.out.2.2.2]
  have H5 := Lib.hid (H4.out.1.trans (hd5.frame.mono H4.out.1.size))
  clear hd5 hr5
  go_wp2_with fail
  refine C6.mono ?_
  clear C6
  rintro e w6 ⟨v, rfl, hd6⟩
  obtain ⟨v6, c6, rfl, hr6, -⟩ := hd6.rs1 tyS
  rw [← H3.out.2.2.2.2.1]
  have hb6 := H5.out.trans (hd6.frame.mono H5.out.size)
  have H6 := Lib.hid (And.intro (H3.out.1.trans (hb6.mono H3.out.1.size)) (And.intro (H3.out.2.1.below hb6) (And.intro (H3.out.2.2.2.1.below hb6) hr6)))
  have HDL := Lib.hid H3.out.2.2.2.2.1
  clear hd6 hr6 hb6
  go_wp2_with fail
  go_loopw [11] (fun s11 wr => ∃ i : Nat, s11 = .int .i64 (i : Int) ∧ i ≤ nd ∧ Below w6.heap.size w6 wr) (fun s11 _ => nd - (intOf s11).toNat)
  case atStart => exact ⟨0, rfl, Nat.zero_le _, Below.refl _ _⟩
  case round =>
    obtain ⟨i, rfl, hi, hbr⟩ := hrel
    have HBR := Lib.hid hbr
    by_cases hin : i < nd
    · have t1 : decide ((i : Int) < (nd : Int)) = true := decide_eq_true (by omega)
      have t1' : decide (i < nd) = true := decide_eq_true hin
      have hil : i < DL.length := by rw [← HDL.out]; exact hin
      obtain ⟨b1, q1, I1, R1, -⟩ := (H6.out.2.2.1.below hbr).at1 tyS (i : Int) i rfl hil
      obtain ⟨b2, q2, I2, R2, -⟩ := (H6.out.2.2.2.below hbr).at1 tyS (i : Int) i rfl hil
      rw [← HDL.out] at I1 I2
      have k1 : wr.cell? ⟨b1, q1, none⟩ = some (.string (strOf DL[i]!)) := R1 0 _ rfl
      have k2 : wr.cell? ⟨b2, q2, none⟩ = some (.string (strOf DL[i]!)) := R2 0 _ rfl
      generalize strOf DL[i]! = T at *
      have L1 : ∀ y : Later wr, y.1.cell? ⟨b1, q1, none⟩ = some (.string T) := fun y => load_later k1 y
      have L2 : ∀ y : Later wr, y.1.cell? ⟨b2, q2, none⟩ = some (.string T) := fun y => load_later k2 y
      have ET : (T.toList != T.toList) = false := by simp
      clear R1 R2 k1 k2 hil hbr
      go_upto_region 9 with (fail)
      refine wp_region_mg [(0, 0), (1, 0), (2, 0), (3, 0), (4, 0), (5, 0), (6, 0), (7, 0), (8, 0)] (by kernel_rfl) (by kernel_rfl) ?_
      iterate 9 (refine mg_calm rfl (fun K hK => ?_); go_simp; (refine hK _ ?_; clear hK K))
      refine mg_nil fun w7 hw7 => ?_
      have H7 := Lib.hid (HBR.out.trans (hw7.mono HBR.out.size))
      clear hw7 L1 L2 I1 I2
      go_wp2_with fail
      go_roundw
      case rel => exact ⟨i + 1, by go_num, by omega, H7.out⟩
      case measure => simp [intOf]; omega
    · obtain rfl : i = nd := by omega
      have t1 : decide ((i : Int) < (i : Int)) = false := decide_eq_false (by omega)
      have t1' : decide (i < i) = false := decide_eq_false (by omega)
      have C7 := find_any (H6.out.2.1.below hbr) HNX.out (by omega) U
      have H7 := Lib.hid (And.intro (H6.out.1.trans (hbr.mono H6.out.1.size)) (H6.out.2.1.below hbr))
      obtain ⟨Z, hZ⟩ : ∃ Z, Z = recA encM mf0 := ⟨_, rfl⟩
      have z : ∀ w, (zeroValue 46).run Tryd.prog w = .ok (.agg Z) w := fun w => by rw [hZ]; kernel_rfl
      have hzs : Z.size = 22 := by rw [hZ]; simp [recA, encM_len]
      clear hbr hZ
      go_wp2_with fail
      refine C7.mono ?_
      clear C7
      rintro e w8 ⟨o, rfl, hfo, hb8⟩
      have H8 := Lib.hid (And.intro (H7.out.1.trans (hb8.mono H7.out.1.size)) (And.intro (H7.out.2.below hb8) hfo))
      obtain ⟨F, hF⟩ : ∃ F, F = fileO X o := ⟨_, rfl⟩
      obtain ⟨ok, hok⟩ : ∃ ok, ok = okO o := ⟨_, rfl⟩
      have HFO := Lib.hid (And.intro hF hok)
      rw [← hF, ← hok]
      clear hb8 hfo hF hok
      go_upto_region 12 with (refine wpList_store_bxm rfl _ _ rfl w8 ((Below.refl _ _).alloc (Nat.le_refl _) _) w8.heap.size F rfl rfl (Nat.le_refl _) _ (heap_alloc_last _ _ _ rfl) hzs ?_; intro w9 hb9; have H9 := Lib.hid hb9; clear hb9)
      have E9 : wrap64 ((nx : Int) - 1) = (nx : Int) - 1 := IntWalk.wrap64_in _ ⟨by omega, by omega⟩
      go_wp2_with fail
      go_loopw [14, 15] (fun s14 s15 wr => ∃ (k : Nat) (o2 : Option Nat), s14 = .int .i64 (atI o2) ∧ s15 = .int .i64 ((k : Int) - 1) ∧ k ≤ nx ∧ FirstP X U k o2 ∧ w9 = wr) (fun _ s15 _ => (intOf s15 + 1).toNat)
      case atStart => exact ⟨nx, none, rfl, rfl, Nat.le_refl _, (fun j h1 h2 => by have := HNX.out; omega), rfl⟩
      case round =>
        obtain ⟨k, o2, rfl, rfl, hk, hf2, rfl⟩ := hrel
        have HF2 := Lib.hid hf2
        clear hf2
        by_cases hk0 : 0 < k
        · obtain ⟨j, rfl⟩ : ∃ j, k = j + 1 := ⟨k - 1, by omega⟩
          have ej : ((j + 1 : Nat) : Int) - 1 = (j : Int) := by omega
          rw [ej]
          have t1 : decide ((0 : Int) ≤ (j : Int)) = true := decide_eq_true (by omega)
          have t1' : decide ((j : Int) ≥ 0) = true := decide_eq_true (by omega)
          have hjl : j < X.length := by rw [← HNX.out]; omega
          have E8 : wrap64 ((j : Int) - 1) = (j : Int) - 1 := IntWalk.wrap64_in _ ⟨by omega, by omega⟩
          obtain ⟨b, q3, IX, R, -⟩ := (H8.out.2.1.below H9.out.frame).at tyM (j : Int) j rfl hjl
          rw [← HNX.out] at IX
          obtain ⟨f0, -, -⟩ := mf_fields R
          have EQ : ((strOf X[j]!.path).toList == (strOf U).toList) = decide (X[j]!.path = U) := by rw [strOf_eq, strOf_list]
          obtain ⟨d, hd⟩ : ∃ d, d = decide (X[j]!.path = U) := ⟨_, rfl⟩
          rw [← hd] at EQ
          have HD := Lib.hid (And.intro hd hjl)
          clear hd R hjl ej hk0
          generalize strOf X[j]!.path = T1 at *
          generalize strOf U = T2 at *
          cases d
          · go_wp2_with fail
            go_roundw
            case rel =>
              refine ⟨j, o2, rfl, by go_num, by omega, ?_, trivial⟩
              have hne : X[j]!.path ≠ U := of_decide_eq_false HD.out.1.symm
              cases o2 with
              | none =>
                intro i h1 h2
                by_cases hij : i = j
                · subst hij; exact hne
                · exact HF2.out i (by omega) h2
              | some r =>
                refine ⟨by have := HF2.out.1; omega, HF2.out.2.1, HF2.out.2.2.1, fun i h1 h2 => ?_⟩
                by_cases hij : i = j
                · subst hij; exact hne
                · exact HF2.out.2.2.2 i (by omega) h2
            case measure => simp [intOf]
          · go_wp2_with fail
            go_roundw
            case rel => exact ⟨j, some j, rfl, by go_num, by omega, ⟨Nat.le_refl _, HD.out.2, of_decide_eq_true HD.out.1.symm, fun i h1 h2 => by omega⟩, trivial⟩
            case measure => simp [intOf]
        · obtain rfl : k = 0 := by omega
          obtain rfl := H8.out.2.2.uniq HF2.out
          have t1 : decide ((0 : Int) ≤ ((0 : Nat) : Int) - 1) = false := decide_eq_false (by omega)
          have LF := fun (y : Later w9) => tyM.load F w8.heap.size 0 y.1 (rangeR_below (fun i v hi => by
            rw [cell_of_row _ _ _ _ _ _ H9.out.blk, Nat.zero_add]
            simpa [recA] using hi) y.2)
          have G := fun op x y w => run_eqGuard_agg (P := Tryd.prog) w op 46 x y (recA encM F) (recA encM F) etM.ge
          have hwf : WfM F := by
            rw [HFO.out.1]
            cases o with
            | none => exact ⟨Nat.zero_le _, Nat.zero_le _⟩
            | some i =>
              have hi : i < X.length := H8.out.2.2.2.1
              have := HF.out.2 X[i]! (by rw [getElem!_pos X i hi]; exact List.getElem_mem _)
              exact this
          have E := etM.eq_run F F hwf hwf
          rw [decide_eq_true rfl] at E
          have B0 := fun W : World => buildM0 W
          go_upto_region 18 with (fail)
          cases o with
          | none =>
            have hok : ok = false := HFO.out.2
            have hF0 : F = mf0 := HFO.out.1
            subst hok
            rw [← hF0] at B0
            clear hF0 z
            have ea : atI none = -1 := rfl
            rw [ea]
            have t5 : decide ((0 : Int) ≤ -1) = false := by decide
            refine wp_region_mg [(0, 0), (1, 0), (2, 0), (3, 0), (4, 0), (5, 0), (6, 0), (7, 0), (8, 0), (9, 0), (10, 0), (11, 0), (12, 0), (13, 0), (14, 0), (15, 0), (16, 0), (17, 0), (18, 0), (19, 0), (20, 0), (21, 0), (22, 0), (23, 0)] (by kernel_rfl) (by kernel_rfl) ?_
            iterate 19 (refine mg_calm rfl (fun K hK => ?_); go_simp; (refine hK _ ?_; clear hK K))
            refine mg_load rfl rfl _ _ rfl _ _ rfl LF ?_
            refine mg_build rfl rfl _ _ rfl [] _ rfl B0 ?_
            iterate 3 (refine mg_calm rfl (fun K hK => ?_); go_simp; (refine hK _ ?_; clear hK K))
            refine mg_nil fun w10 hw10 => ?_
            have H10 := Lib.hid (And.intro (H8.out.1.trans ((H9.out.frame.trans (hw10.mono H9.out.frame.size)).mono H8.out.1.size)) (H8.out.2.1.below (H9.out.frame.trans (hw10.mono H9.out.frame.size))))
            clear hw10 LF G E B0
            go_wp2_with fail
            refine (known_any _).mono ?_
            rintro e w11 ⟨rfl, hw11⟩
            have H11 := Lib.hid (And.intro (H10.out.1.trans (hw11.mono H10.out.1.size)) (H10.out.2.below hw11))
            clear hw11
            go_wp2_with (first | (refine wpList_unguardR rfl ?_; refine wpList_buildSlice_at rfl _ _ _ rfl [] _ rfl (tyM.slice0 w11) ?_) | (refine wpList_append_empty_r tyM rfl (.tmp 101) (.tmp 102) rfl w11.heap.size rfl (OwnR.made 22 encM w11 46) v1 nx c1 X rfl HNX.out (H11.out.2.below (OwnR.made 22 encM w11 46).frame) (by have := HNX.out; omega) ?_; intro v12 w12 hb12 hg12; obtain ⟨v12, c12, rfl, hr12, -⟩ := hb12.rs tyM; have CX := diff_any (H11.out.2.below hb12.frame) hr12 (by have := HF.out.1.1; omega) (by have := HF.out.1.1; omega) HF.out.2 HF.out.2; rw [diffL_self, ← HNX.out] at CX; rw [← HNX.out]; have H12 := Lib.hid hb12.frame; clear hb12 hg12 hr12))
            refine CX.mono ?_
            clear CX
            rintro e w13 ⟨v, rfl, hd13⟩
            obtain ⟨v13, c13, rfl, -, -⟩ := hd13.rs1 tyS
            have H13 := Lib.hid (H11.out.1.trans ((H12.out.trans (hd13.frame.mono H12.out.size)).mono H11.out.1.size))
            clear hd13
            go_wp2_with fail
            go_ret
            exact ⟨rfl, H13.out⟩
          | some i =>
            have hok : ok = true := HFO.out.2
            have hil : i < X.length := H8.out.2.2.2.1
            have hF0 : X[i]! = F := HFO.out.1.symm
            subst hok
            have ea : atI (some i) = (i : Int) := rfl
            rw [ea]
            have t5 : decide ((0 : Int) ≤ (i : Int)) = true := decide_eq_true (by omega)
            obtain ⟨b, q3, IX, -, L3⟩ := (H8.out.2.1.below H9.out.frame).at tyM (i : Int) i rfl hil
            rw [← HNX.out] at IX
            rw [hF0] at L3
            have LX : ∀ y : Later w9, (Instr.loadAt 46 (.pointer (some ⟨b, q3, none⟩))).run Tryd.prog y.1 = .ok (.agg (recA encM F)) y.1 := fun y => L3 y.1 y.2
            clear L3 hF0 hil
            refine wp_region_mg [(0, 0), (1, 0), (2, 0), (3, 0), (4, 0), (5, 0), (6, 0), (7, 0), (8, 0), (9, 0), (10, 0), (11, 0), (12, 0), (13, 0), (14, 0), (15, 0), (16, 0), (17, 0), (18, 0), (19, 0), (20, 0), (21, 0), (22, 0), (23, 0)] (by kernel_rfl) (by kernel_rfl) ?_
            iterate 7 (refine mg_calm rfl (fun K hK => ?_); go_simp; (refine hK _ ?_; clear hK K))
            refine mg_load rfl rfl _ _ rfl _ _ rfl LF ?_
            iterate 3 (refine mg_calm rfl (fun K hK => ?_); go_simp; (refine hK _ ?_; clear hK K))
            refine mg_load rfl rfl _ _ rfl _ _ rfl LX ?_
            iterate 12 (refine mg_calm rfl (fun K hK => ?_); go_simp; (refine hK _ ?_; clear hK K))
            clear LX IX
            refine mg_nil fun w10 hw10 => ?_
            have H10 := Lib.hid (And.intro (H8.out.1.trans ((H9.out.frame.trans (hw10.mono H9.out.frame.size)).mono H8.out.1.size)) (H8.out.2.1.below (H9.out.frame.trans (hw10.mono H9.out.frame.size))))
            clear hw10 LF G E B0
            go_wp2_with fail
            refine (known_any _).mono ?_
            rintro e w11 ⟨rfl, hw11⟩
            have H11 := Lib.hid (And.intro (H10.out.1.trans (hw11.mono H10.out.1.size)) (H10.out.2.below hw11))
            clear hw11
            go_wp2_with (first | (refine wpList_unguardR rfl ?_; refine wpList_buildSlice_at rfl _ _ _ rfl [] _ rfl (tyM.slice0 w11) ?_) | (refine wpList_append_empty_r tyM rfl (.tmp 101) (.tmp 102) rfl w11.heap.size rfl (OwnR.made 22 encM w11 46) v1 nx c1 X rfl HNX.out (H11.out.2.below (OwnR.made 22 encM w11 46).frame) (by have := HNX.out; omega) ?_; intro v12 w12 hb12 hg12; obtain ⟨v12, c12, rfl, hr12, -⟩ := hb12.rs tyM; have CX := diff_any (H11.out.2.below hb12.frame) hr12 (by have := HF.out.1.1; omega) (by have := HF.out.1.1; omega) HF.out.2 HF.out.2; rw [diffL_self, ← HNX.out] at CX; rw [← HNX.out]; have H12 := Lib.hid hb12.frame; clear hb12 hg12 hr12))
            refine CX.mono ?_
            clear CX
            rintro e w13 ⟨v, rfl, hd13⟩
            obtain ⟨v13, c13, rfl, -, -⟩ := hd13.rs1 tyS
            have H13 := Lib.hid (H11.out.1.trans ((H12.out.trans (hd13.frame.mono H12.out.size)).mono H11.out.1.size))
            clear hd13
            go_wp2_with fail
            go_ret
            exact ⟨rfl, H13.out⟩
end Go.Proofs.YtifoledkmjlmoaaDoor
