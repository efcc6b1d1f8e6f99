/-
  The document's put: the walk.
  The document's List: the walk.
-/
import Derived.Test.YtponfkfeflnilaaGreatDoorMaDoc
import Derived.Test.YtponfkfeflnilaaGreatDoorMaNamR
namespace Go.Proofs.YtponfkfeflnilaaGreatDoor
open Go.RowKit Go.Mix Go.WideMaps Go.Maps

set_option maxRecDepth 100000 in
set_option maxHeartbeats 4000000 in
theorem refPut_any {w : World} {a : Option Addr} {cap : Nat} {l : List RefP} (r : RefP) (h : RsAt encP 21 w a cap l) (hl : l.length ≤ 100000) :
    Calls Tryz.prog 56 #[.slice a l.length cap, .agg (recA encP r)] w fun e w' => ∃ v, e = .returned v ∧ OwnR encP 21 62 w w' v (putD l r) := by
  obtain ⟨n, hn⟩ : ∃ n, n = l.length := ⟨_, rfl⟩
  obtain ⟨RA, hRA⟩ : ∃ R, R = recA encP r := ⟨_, rfl⟩
  have hbox : (w.alloc (.cells RA 62)).heap[w.heap.size]? = some (.cells RA 62 (0, 0)) := heap_alloc_last _ _ _ rfl
  have g1 : Below w.heap.size w (w.alloc (.cells RA 62)) := (Below.refl _ _).alloc (Nat.le_refl _) _
  obtain ⟨w1, hw1⟩ : ∃ w1, w1 = w.alloc (.cells RA 62) := ⟨_, rfl⟩
  rw [← hw1] at g1 hbox
  have hlt : w.heap.size < w1.heap.size := by rw [hw1]; simp
  have HH := Lib.hid (And.intro (h.below g1) hn)
  obtain ⟨B, hB⟩ : ∃ B, B = w.heap.size := ⟨_, rfl⟩
  have HR0 := Lib.hid (And.intro g1 (show w1.heap[B]? = some (.cells (recA encP r) 62 (0, 0)) by rw [hB, hbox, hRA]))
  have HW := Lib.hid hw1
  rw [← hn] at hl ⊢
  rw [← hRA]
  clear h hn hRA hbox g1 hlt
  go_enter Tryz.func56, Tryz.ntmps56
  go_upto_region 1 with (fail)
  rw [← HW.out, ← hB]
  clear hB hw1 HW
  go_wp2_with fail
  go_loopw [5] (fun s5 wr => ∃ k : Nat, s5 = .int .i64 (k : Int) ∧ k ≤ n ∧ (∀ i, i < k → l[i]!.name < r.name) ∧ Below w1.heap.size w1 wr) (fun s5 _ => n - (intOf s5).toNat)
  case atStart => exact ⟨0, rfl, Nat.zero_le _, fun i hi => absurd hi (Nat.not_lt_zero _), Below.refl _ _⟩
  case round =>
    obtain ⟨k, rfl, hk, hno, hbr⟩ := hrel
    have HN := Lib.hid (And.intro hno hbr)
    have hbox := blockR_below HR0.out.2 hbr
    have LBH : Hid (∀ y : Later w1, (Instr.loadAt 9 (.pointer (some ⟨B, 0, none⟩))).run Tryz.prog y.1 = .ok (.string (strOf r.name)) y.1) := Lib.hid (load_name (recBoxP HR0.out.2))
    have LB := load_name (recBoxP hbox)
    change ∀ y : Later wr, (Instr.loadAt 9 (.pointer (some ⟨B, 0, none⟩))).run Tryz.prog y.1 = .ok (.string (strOf r.name)) y.1 at LB
    obtain ⟨RN, hRN⟩ : ∃ R, R = strOf r.name := ⟨_, rfl⟩
    rw [← hRN] at LB LBH
    clear hno hbr hbox
    by_cases hkn : k < n
    · have t1 : decide ((k : Int) < (n : Int)) = true := decide_eq_true (by omega)
      have t1' : decide (k < n) = true := decide_eq_true hkn
      have hkl0 : k < l.length := by rw [← HH.out.2]; exact hkn
      obtain ⟨b, q, IX, R, -⟩ := HH.out.1.at tyD (k : Int) k rfl hkl0
      rw [← HH.out.2] at IX
      have LK0 := Lib.hid (load_name R)
      change Hid (∀ y : Later w1, (Instr.loadAt 9 (.pointer (some ⟨b, q, none⟩))).run Tryz.prog y.1 = .ok (.string (strOf l[k]!.name)) y.1) at LK0
      have EG : Op.bytesLess (strOf l[k]!.name).toList RN.toList = decide (l[k]!.name < r.name) := by rw [hRN, strOf_list, strOf_list, bytesLess_eq]
      have EQ : ((strOf l[k]!.name).toList == RN.toList) = decide (l[k]!.name = r.name) := by rw [hRN, strOf_list r.name]; exact strOf_eq l[k]!.name r.name
      obtain ⟨X, hX⟩ : ∃ X, X = strOf l[k]!.name := ⟨_, rfl⟩
      rw [← hX] at LK0 EG EQ
      have LK : ∀ y : Later wr, (Instr.loadAt 9 (.pointer (some ⟨b, q, none⟩))).run Tryz.prog y.1 = .ok (.string X) y.1 := fun y => LK0.out ⟨y.1, HN.out.2.trans (y.2.mono HN.out.2.size)⟩
      clear R hX hRN
      obtain ⟨D, hD⟩ : ∃ D, D = decide (l[k]!.name < r.name) := ⟨_, rfl⟩
      obtain ⟨E, hE⟩ : ∃ E, E = decide (l[k]!.name = r.name) := ⟨_, rfl⟩
      rw [← hD] at EG
      rw [← hE] at EQ
      have HDE := Lib.hid (And.intro hD (And.intro hE hkl0))
      clear hD hE hkl0
      go_upto_region 2 with (fail)
      refine wp_region_mg [(0, 0), (1, 0), (2, 0), (3, 0), (4, 0), (5, 0), (6, 0), (7, 0), (8, 0), (9, 0), (10, 0), (11, 0), (12, 0), (13, 0)] (by kernel_rfl) (by kernel_rfl) ?_
      iterate 9 (refine mg_calm rfl (fun K hK => ?_); go_simp; (refine hK _ ?_; clear hK K))
      refine mg_load rfl rfl _ _ rfl _ _ rfl LK ?_
      iterate 1 (refine mg_calm rfl (fun K hK => ?_); go_simp; (refine hK _ ?_; clear hK K))
      refine mg_load rfl rfl _ _ rfl _ _ rfl LB ?_
      iterate 2 (refine mg_calm rfl (fun K hK => ?_); go_simp; (refine hK _ ?_; clear hK K))
      refine mg_nil fun w5 hw5 => ?_
      have HB5 := Lib.hid (HN.out.2.trans (Below.mono hw5 HN.out.2.size))
      clear hw5 LK EG
      cases D
      · have hnl : ¬ l[k]!.name < r.name := of_decide_eq_false HDE.out.1.symm
        have LB0 : Hid (∀ y : Later w1, (Instr.loadAt 9 (.pointer (some ⟨B, 0, none⟩))).run Tryz.prog y.1 = .ok (.string RN) y.1) := Lib.hid (fun y => LBH.out y)
        clear LB
        cases E
        · have HF := Lib.hid (putD_at l r k (by have := HDE.out.2.2; omega) HN.out.1 (fun _ => hnl))
          have hne : ¬ (k < l.length ∧ l[k]!.name = r.name) := fun h => of_decide_eq_false HDE.out.2.1.symm h.2
          rw [if_neg hne] at HF
          clear hne hnl
          have hkl : k ≤ l.length := by rw [← HH.out.2]; exact hk
          have hml : k ≤ l.length := by rw [← HH.out.2]; omega
          have SLT := HH.out.1.to tyD hkl (k : Int) rfl
          obtain ⟨a6, c6, SLF, hd6⟩ := HH.out.1.from tyD hml (k : Int) (by omega)
          obtain ⟨m, hm⟩ : ∃ m, m = l.length - k := ⟨_, rfl⟩
          rw [← hm] at SLF
          rw [← HH.out.2] at SLT SLF
          have HD6 := Lib.hid (And.intro hd6 (And.intro hm hkl))
          have HM := Lib.hid (OwnR.made 21 encP w5 62)
          clear hd6 hm hkl hml
          go_upto_region 5 with (refine wpList_append_empty_r tyD rfl (.tmp 23) (.tmp 26) rfl w5.heap.size rfl HM.out a k cap (l.take k) rfl (by have := HD6.out.2.2; rw [List.length_take]; omega) ((HH.out.1.take k).below (HB5.out.trans (HM.out.frame.mono HB5.out.size))) (by rw [List.length_take]; omega) (fun v7 w7 hv7 hw7 => ?_); have HV7 := Lib.hid hv7; clear hv7 hw7)
          have HB7 := Lib.hid (HB5.out.trans (HV7.out.frame.mono HB5.out.size))
          have L6 : (Instr.loadAt 62 (.pointer (some ⟨B, 0, none⟩))).run Tryz.prog w7 = .ok (.agg (recA encP r)) w7 := tyD.load r B 0 w7 (rangeR_below (recBoxP HR0.out.2) HB7.out)
          have S1 := tyD.slice1 r w7
          have HP8 := Lib.hid (RsAt.one (enc := encP) (L := 21) w7 62 r)
          have HV8 := Lib.hid (HV7.out.later ((Below.refl _ _).alloc (Nat.le_refl _) (.cells (recA encP r) 62)))
          clear SLT
          go_upto_region 6 with (first | (refine wpList_load_at rfl _ _ rfl _ _ rfl L6 ?_) | (refine wpList_buildSlice_at rfl _ _ _ rfl [(0, .agg (recA encP r))] _ rfl S1 ?_) | (refine wpList_append_r tyD rfl (.tmp 28) (.tmp 30) rfl _ (l.take k) rfl HV8.out (some ⟨w7.heap.size, 0, none⟩) 1 1 [r] rfl rfl HP8.out (by simp; omega) ?_; intro v9 w9 hv9 hg9 hn9; have HV9 := Lib.hid hv9; clear hv9 hg9 hn9 L6 S1))
          have HB9 := Lib.hid (HB5.out.trans (HV9.out.frame.mono HB5.out.size))
          have LK9 : ∀ y : Later w9, (Instr.loadAt 9 (.pointer (some ⟨b, q, none⟩))).run Tryz.prog y.1 = .ok (.string X) y.1 := fun y => LK0.out ⟨y.1, HB9.out.trans (y.2.mono HB9.out.size)⟩
          have LB9 : ∀ y : Later w9, (Instr.loadAt 9 (.pointer (some ⟨B, 0, none⟩))).run Tryz.prog y.1 = .ok (.string RN) y.1 := fun y => LB0.out ⟨y.1, HB9.out.trans (y.2.mono HB9.out.size)⟩
          refine wp_region_mg [(0, 0), (1, 0), (2, 0), (3, 0), (4, 0), (5, 0), (6, 0), (7, 0), (8, 0), (9, 0), (10, 0), (11, 0), (12, 0), (13, 0)] (by kernel_rfl) (by kernel_rfl) ?_
          iterate 9 (refine mg_calm rfl (fun K hK => ?_); go_simp; (refine hK _ ?_; clear hK K))
          refine mg_load rfl rfl _ _ rfl _ _ rfl LK9 ?_
          iterate 1 (refine mg_calm rfl (fun K hK => ?_); go_simp; (refine hK _ ?_; clear hK K))
          refine mg_load rfl rfl _ _ rfl _ _ rfl LB9 ?_
          iterate 2 (refine mg_calm rfl (fun K hK => ?_); go_simp; (refine hK _ ?_; clear hK K))
          refine mg_nil fun w9b hw9b => ?_
          clear LK9 LB9
          have HV9b := Lib.hid (HV9.out.later hw9b)
          have HB9b := Lib.hid (HB9.out.trans (Below.mono hw9b HB9.out.size))
          clear hw9b
          go_wp2_with (refine wpList_append_r tyD rfl (.tmp 48) (.tmp 51) rfl _ (l.take k ++ [r]) rfl HV9b.out a6 m c6 (l.drop k) rfl (by rw [List.length_drop]; exact HD6.out.2.1) (HD6.out.1.below HB9b.out) (by have := HH.out.2; simp; omega) ?_; intro v10 w10 hv10 hg10 hn10; have HV10 := Lib.hid hv10; clear hv10 hg10 hn10)
          go_ret
          refine ⟨_, rfl, ?_⟩
          rw [HF.out, List.append_cons]
          exact HV10.out.rebase (HR0.out.1.trans (HB5.out.mono HR0.out.1.size))
        · have HF := Lib.hid (putD_at l r k (by have := HDE.out.2.2; omega) HN.out.1 (fun _ => hnl))
          rw [if_pos ⟨HDE.out.2.2, of_decide_eq_true HDE.out.2.1.symm⟩] at HF
          clear hnl
          have hkl : k ≤ l.length := by rw [← HH.out.2]; exact hk
          have hml : (k + 1) ≤ l.length := by rw [← HH.out.2]; omega
          have SLT := HH.out.1.to tyD hkl (k : Int) rfl
          obtain ⟨a6, c6, SLF, hd6⟩ := HH.out.1.from tyD hml ((k : Int) + 1) (by omega)
          obtain ⟨m, hm⟩ : ∃ m, m = l.length - (k + 1) := ⟨_, rfl⟩
          rw [← hm] at SLF
          rw [← HH.out.2] at SLT SLF
          have HD6 := Lib.hid (And.intro hd6 (And.intro hm hkl))
          have HM := Lib.hid (OwnR.made 21 encP w5 62)
          clear hd6 hm hkl hml
          go_upto_region 5 with (refine wpList_append_empty_r tyD rfl (.tmp 23) (.tmp 26) rfl w5.heap.size rfl HM.out a k cap (l.take k) rfl (by have := HD6.out.2.2; rw [List.length_take]; omega) ((HH.out.1.take k).below (HB5.out.trans (HM.out.frame.mono HB5.out.size))) (by rw [List.length_take]; omega) (fun v7 w7 hv7 hw7 => ?_); have HV7 := Lib.hid hv7; clear hv7 hw7)
          have HB7 := Lib.hid (HB5.out.trans (HV7.out.frame.mono HB5.out.size))
          have L6 : (Instr.loadAt 62 (.pointer (some ⟨B, 0, none⟩))).run Tryz.prog w7 = .ok (.agg (recA encP r)) w7 := tyD.load r B 0 w7 (rangeR_below (recBoxP HR0.out.2) HB7.out)
          have S1 := tyD.slice1 r w7
          have HP8 := Lib.hid (RsAt.one (enc := encP) (L := 21) w7 62 r)
          have HV8 := Lib.hid (HV7.out.later ((Below.refl _ _).alloc (Nat.le_refl _) (.cells (recA encP r) 62)))
          clear SLT
          go_upto_region 6 with (first | (refine wpList_load_at rfl _ _ rfl _ _ rfl L6 ?_) | (refine wpList_buildSlice_at rfl _ _ _ rfl [(0, .agg (recA encP r))] _ rfl S1 ?_) | (refine wpList_append_r tyD rfl (.tmp 28) (.tmp 30) rfl _ (l.take k) rfl HV8.out (some ⟨w7.heap.size, 0, none⟩) 1 1 [r] rfl rfl HP8.out (by simp; omega) ?_; intro v9 w9 hv9 hg9 hn9; have HV9 := Lib.hid hv9; clear hv9 hg9 hn9 L6 S1))
          have HB9 := Lib.hid (HB5.out.trans (HV9.out.frame.mono HB5.out.size))
          have LK9 : ∀ y : Later w9, (Instr.loadAt 9 (.pointer (some ⟨b, q, none⟩))).run Tryz.prog y.1 = .ok (.string X) y.1 := fun y => LK0.out ⟨y.1, HB9.out.trans (y.2.mono HB9.out.size)⟩
          have LB9 : ∀ y : Later w9, (Instr.loadAt 9 (.pointer (some ⟨B, 0, none⟩))).run Tryz.prog y.1 = .ok (.string RN) y.1 := fun y => LB0.out ⟨y.1, HB9.out.trans (y.2.mono HB9.out.size)⟩
          refine wp_region_mg [(0, 0), (1, 0), (2, 0), (3, 0), (4, 0), (5, 0), (6, 0), (7, 0), (8, 0), (9, 0), (10, 0), (11, 0), (12, 0), (13, 0)] (by kernel_rfl) (by kernel_rfl) ?_
          iterate 9 (refine mg_calm rfl (fun K hK => ?_); go_simp; (refine hK _ ?_; clear hK K))
          refine mg_load rfl rfl _ _ rfl _ _ rfl LK9 ?_
          iterate 1 (refine mg_calm rfl (fun K hK => ?_); go_simp; (refine hK _ ?_; clear hK K))
          refine mg_load rfl rfl _ _ rfl _ _ rfl LB9 ?_
          iterate 2 (refine mg_calm rfl (fun K hK => ?_); go_simp; (refine hK _ ?_; clear hK K))
          refine mg_nil fun w9b hw9b => ?_
          clear LK9 LB9
          have HV9b := Lib.hid (HV9.out.later hw9b)
          have HB9b := Lib.hid (HB9.out.trans (Below.mono hw9b HB9.out.size))
          clear hw9b
          go_wp2_with (refine wpList_append_r tyD rfl (.tmp 48) (.tmp 51) rfl _ (l.take k ++ [r]) rfl HV9b.out a6 m c6 (l.drop (k + 1)) rfl (by rw [List.length_drop]; exact HD6.out.2.1) (HD6.out.1.below HB9b.out) (by have := HH.out.2; simp; omega) ?_; intro v10 w10 hv10 hg10 hn10; have HV10 := Lib.hid hv10; clear hv10 hg10 hn10)
          go_ret
          refine ⟨_, rfl, ?_⟩
          rw [HF.out, List.append_cons]
          exact HV10.out.rebase (HR0.out.1.trans (HB5.out.mono HR0.out.1.size))
      · clear EQ IX LB
        have HS := Lib.hid (fun i (hi : i < k + 1) => show l[i]!.name < r.name by
          by_cases hik : i < k
          · exact HN.out.1 i hik
          · obtain rfl : i = k := by omega
            exact of_decide_eq_true HDE.out.1.symm)
        go_wp2_with fail
        go_roundw
        case rel => exact ⟨k + 1, by go_num, by omega, HS.out, HB5.out⟩
        case measure => simp [intOf]; omega
    · obtain rfl : k = n := by omega
      have t1 : decide ((k : Int) < (k : Int)) = false := decide_eq_false (by omega)
      have t1' : decide (k < k) = false := decide_eq_false (by omega)
      have HF := Lib.hid (putD_at l r k (by have := HH.out.2; omega) HN.out.1 (fun h => absurd h (by have := HH.out.2; omega)))
      rw [if_neg fun h => absurd h.1 (by have := HH.out.2; omega)] at HF
      clear LB hRN
      go_upto_region 2 with (fail)
      refine wp_region_mg [(0, 0), (1, 0), (2, 0), (3, 0), (4, 0), (5, 0), (6, 0), (7, 0), (8, 0), (9, 0), (10, 0), (11, 0), (12, 0), (13, 0)] (by kernel_rfl) (by kernel_rfl) ?_
      iterate 14 (refine mg_calm rfl (fun K hK => ?_); go_simp; (refine hK _ ?_; clear hK K))
      refine mg_nil fun w5 hw5 => ?_
      have HB5 := Lib.hid (HN.out.2.trans (Below.mono hw5 HN.out.2.size))
      clear hw5
      have hkl : k ≤ l.length := by rw [← HH.out.2]; exact hk
      have hml : k ≤ l.length := by rw [← HH.out.2]; omega
      have SLT := HH.out.1.to tyD hkl (k : Int) rfl
      obtain ⟨a6, c6, SLF, hd6⟩ := HH.out.1.from tyD hml (k : Int) (by omega)
      obtain ⟨m, hm⟩ : ∃ m, m = l.length - k := ⟨_, rfl⟩
      rw [← hm] at SLF
      rw [← HH.out.2] at SLT SLF
      have HD6 := Lib.hid (And.intro hd6 (And.intro hm hkl))
      have HM := Lib.hid (OwnR.made 21 encP w5 62)
      clear hd6 hm hkl hml
      go_upto_region 5 with (refine wpList_append_empty_r tyD rfl (.tmp 23) (.tmp 26) rfl w5.heap.size rfl HM.out a k cap (l.take k) rfl (by have := HD6.out.2.2; rw [List.length_take]; omega) ((HH.out.1.take k).below (HB5.out.trans (HM.out.frame.mono HB5.out.size))) (by rw [List.length_take]; omega) (fun v7 w7 hv7 hw7 => ?_); have HV7 := Lib.hid hv7; clear hv7 hw7)
      have HB7 := Lib.hid (HB5.out.trans (HV7.out.frame.mono HB5.out.size))
      have L6 : (Instr.loadAt 62 (.pointer (some ⟨B, 0, none⟩))).run Tryz.prog w7 = .ok (.agg (recA encP r)) w7 := tyD.load r B 0 w7 (rangeR_below (recBoxP HR0.out.2) HB7.out)
      have S1 := tyD.slice1 r w7
      have HP8 := Lib.hid (RsAt.one (enc := encP) (L := 21) w7 62 r)
      have HV8 := Lib.hid (HV7.out.later ((Below.refl _ _).alloc (Nat.le_refl _) (.cells (recA encP r) 62)))
      clear SLT
      go_upto_region 6 with (first | (refine wpList_load_at rfl _ _ rfl _ _ rfl L6 ?_) | (refine wpList_buildSlice_at rfl _ _ _ rfl [(0, .agg (recA encP r))] _ rfl S1 ?_) | (refine wpList_append_r tyD rfl (.tmp 28) (.tmp 30) rfl _ (l.take k) rfl HV8.out (some ⟨w7.heap.size, 0, none⟩) 1 1 [r] rfl rfl HP8.out (by simp; omega) ?_; intro v9 w9 hv9 hg9 hn9; have HV9 := Lib.hid hv9; clear hv9 hg9 hn9 L6 S1))
      have HB9 := Lib.hid (HB5.out.trans (HV9.out.frame.mono HB5.out.size))
      refine wp_region_mg [(0, 0), (1, 0), (2, 0), (3, 0), (4, 0), (5, 0), (6, 0), (7, 0), (8, 0), (9, 0), (10, 0), (11, 0), (12, 0), (13, 0)] (by kernel_rfl) (by kernel_rfl) ?_
      iterate 14 (refine mg_calm rfl (fun K hK => ?_); go_simp; (refine hK _ ?_; clear hK K))
      refine mg_nil fun w9b hw9b => ?_
      have HV9b := Lib.hid (HV9.out.later hw9b)
      have HB9b := Lib.hid (HB9.out.trans (Below.mono hw9b HB9.out.size))
      clear hw9b
      go_wp2_with (refine wpList_append_r tyD rfl (.tmp 48) (.tmp 51) rfl _ (l.take k ++ [r]) rfl HV9b.out a6 m c6 (l.drop k) rfl (by rw [List.length_drop]; exact HD6.out.2.1) (HD6.out.1.below HB9b.out) (by have := HH.out.2; simp; omega) ?_; intro v10 w10 hv10 hg10 hn10; have HV10 := Lib.hid hv10; clear hv10 hg10 hn10)
      go_ret
      refine ⟨_, rfl, ?_⟩
      rw [HF.out, List.append_cons]
      exact HV10.out.rebase (HR0.out.1.trans (HB5.out.mono HR0.out.1.size))
end Go.Proofs.YtponfkfeflnilaaGreatDoor
namespace Go.Proofs.YtponfkfeflnilaaGreatDoor
open Go.RowKit Go.Mix Go.WideMaps Go.Maps

def LstPost (w : World) (o : Option (List RefP)) (e : Ending) (w' : World) : Prop :=
  (∃ l, o = some l ∧ l.length ≤ 20000 ∧ ∃ v, e = .returned (.tuple #[v, .bool true]) ∧ OwnR encP 21 62 w w' v l) ∨ (o = none ∧ e = .returned (.tuple #[.slice none 0 0, .bool false]) ∧ Below w.heap.size w w')
theorem take_succF {l : List FlP} {i : Nat} (h : i < l.length) : l.take (i + 1) = l.take i ++ [l[i]!] := by
  rw [List.take_succ_eq_append_getElem h, getElem!_pos l i h]
theorem docK_pk {t : List FlP} {i : Nat} (h : docPk (t.take i) [] = none) : docK t = none := by
  have e := docPk_none (l := t.drop i) h
  rw [List.take_append_drop] at e
  unfold docK; rw [e]
theorem docK_ls {t : List FlP} {i : Nat} {m : List RefP} (hm : docPk t [] = some m) (h : docLs (t.take i) m = none) : docK t = none := by
  have e := docLs_none (l := t.drop i) h
  rw [List.take_append_drop] at e
  unfold docK; rw [hm]; exact e
theorem docK_end {t : List FlP} {m l : List RefP} (hm : docPk t [] = some m) (h : docLs t m = some l) : docK t = some l := by
  unfold docK; rw [hm]; exact h

set_option maxRecDepth 100000 in
set_option maxHeartbeats 8000000 in
theorem refList_any {w : World} {a : Option Addr} {cap : Nat} {t : List FlP} (h : FlsAt w a cap t) (hl : t.length ≤ 10000) (hb : ∀ x ∈ t, x.path.length ≤ 100000 ∧ x.bytes.length ≤ 100000) :
    Calls Tryz.prog 22 #[.slice a t.length cap] w (LstPost w (docK t)) := by
  obtain ⟨n, hn⟩ : ∃ n, n = t.length := ⟨_, rfl⟩
  have HH := Lib.hid (And.intro h (And.intro hn hb))
  rw [← hn] at hl ⊢
  clear h hn hb
  obtain ⟨Z, hZ⟩ : ∃ Z, Z = idA id0 := ⟨_, rfl⟩
  have z : ∀ w, (zeroValue 41).run Tryz.prog w = .ok (.agg Z) w := fun w => by rw [hZ]; kernel_rfl
  have HZ := Lib.hid hZ
  clear hZ
  go_enter Tryz.func22, Tryz.ntmps22
  go_wp2_with fail
  go_loopw [4, 5, 6, 7] (fun s4 s5 _ _ wr => ∃ (i : Nat) (acc : List RefP), s5 = .int .i64 (i : Int) ∧ i ≤ n ∧ docPk (t.take i) [] = some acc ∧ acc.length ≤ 3000 ∧ OwnR encP 21 62 w wr s4 acc) (fun _ s5 _ _ _ => n - (intOf s5).toNat)
  case atStart => exact ⟨0, [], rfl, Nat.zero_le _, rfl, Nat.zero_le _, OwnR.nil (Below.refl _ _)⟩
  case round =>
    obtain ⟨i, acc, rfl, hi, hpk, hal, hrow⟩ := hrel
    have HR := Lib.hid (And.intro hpk (And.intro hal hrow))
    clear hpk hal hrow
    by_cases hin : i < n
    · have t1 : decide ((i : Int) < (n : Int)) = true := decide_eq_true (by omega)
      have t1' : decide (i < n) = true := decide_eq_true hin
      have hil : i < t.length := by rw [← HH.out.2.1]; exact hin
      obtain ⟨b, q, aa, cc, IX, c0, c1, hsl⟩ := (HH.out.1.below HR.out.2.2.frame).at (i : Int) i rfl hil
      rw [← HH.out.2.1] at IX
      have hbd := HH.out.2.2 t[i]! (by rw [getElem!_pos t i hil]; exact List.getElem_mem hil)
      have hsn := take_succF hil
      have hst : docPk (t.take (i + 1)) [] = docPk [t[i]!] acc := by rw [hsn, docPk_snoc, HR.out.1]
      obtain ⟨d, hd⟩ : ∃ d, d = t[i]! := ⟨_, rfl⟩
      rw [← hd] at c0 c1 hsl hbd hst
      have EQ : ((strOf d.path).toList == [112, 97, 99, 107, 101, 100, 45, 114, 101, 102, 115]) = decide (d.path = packedT) := strOf_eq d.path packedT
      obtain ⟨D, hD⟩ : ∃ D, D = decide (d.path = packedT) := ⟨_, rfl⟩
      rw [← hD] at EQ
      have HS := Lib.hid (And.intro hst (And.intro hbd (And.intro hD hd)))
      have hp3 : docPk [d] acc = if d.path = packedT then (match parsePk d.bytes with | some m => some m | none => none) else some acc := rfl
      generalize strOf d.path = PT at *
      cases D
      · have hne : ¬ d.path = packedT := of_decide_eq_false HS.out.2.2.1.symm
        rw [if_neg hne] at hp3
        have HP := Lib.hid (HS.out.1.trans hp3)
        clear hst hbd hD hd hp3 hne hsl c1 hsn hil
        go_wp2_with fail
        go_roundw
        case rel => exact ⟨i + 1, acc, by go_num, by omega, HP.out, HR.out.2.1, HR.out.2.2⟩
        case measure => simp [intOf]; omega
      · have heq : d.path = packedT := of_decide_eq_true HS.out.2.2.1.symm
        rw [if_pos heq] at hp3
        have ST := hsl.str
        change (convert 24 9 (.slice aa d.bytes.length cc)).run Tryz.prog wr = .ok (.string (strOf d.bytes)) wr at ST
        have C := refParsePk_any d.bytes hbd.2 wr
        obtain ⟨BT, hBT⟩ : ∃ B, B = strOf d.bytes := ⟨_, rfl⟩
        obtain ⟨nb, hnb⟩ : ∃ n, n = d.bytes.length := ⟨_, rfl⟩
        rw [← hBT] at ST C
        rw [← hnb] at ST c1
        have HP := Lib.hid (HS.out.1.trans hp3)
        clear hst hbd hD hd hp3 heq hsl hsn hil hBT hnb
        go_wp2_with fail
        refine C.mono ?_
        clear C ST c0 c1
        rintro e w2 hpost
        rcases hpost with ⟨l, hl2, v, rfl, ho⟩ | ⟨hl2, rfl, hb2⟩
        · have hlen := parsePk_len hl2
          have H2 := Lib.hid (And.intro (show docPk (t.take (i + 1)) [] = some l by rw [HP.out, hl2]) (And.intro (show l.length ≤ 3000 by have := HS.out.2.1.2; omega) (ho.rebase HR.out.2.2.frame)))
          clear hl2 ho hlen IX EQ
          go_wp2_with fail
          go_roundw
          case rel => exact ⟨i + 1, l, by go_num, by omega, H2.out.1, H2.out.2.1, H2.out.2.2⟩
          case measure => simp [intOf]; omega
        · have H2 := Lib.hid (And.intro (docK_pk (i := i + 1) (by rw [HP.out, hl2])) (HR.out.2.2.frame.trans (hb2.mono HR.out.2.2.frame.size)))
          clear hl2 hb2 IX EQ
          go_wp2_with fail
          go_ret2
          exact .inr ⟨H2.out.1, rfl, H2.out.2⟩
    · obtain rfl : i = n := by omega
      have t1 : decide ((i : Int) < (i : Int)) = false := decide_eq_false (by omega)
      have t1' : decide (i < i) = false := decide_eq_false (by omega)
      have e : t.take i = t := List.take_of_length_le (by rw [HH.out.2.1]; exact Nat.le_refl _)
      have hpk := HR.out.1
      rw [e] at hpk
      obtain ⟨m0, hm0⟩ : ∃ m, m = acc := ⟨_, rfl⟩
      have HM := Lib.hid (And.intro hpk (And.intro HR.out.2.1 HR.out.2.2))
      rw [← hm0] at HM
      clear hpk e hm0
      go_wp2_with fail
      go_loopw [4, 8, 9, 10, 11] (fun s4 s8 _ _ _ wr => ∃ (j : Nat) (acc : List RefP), s8 = .int .i64 (j : Int) ∧ j ≤ i ∧ docLs (t.take j) m0 = some acc ∧ acc.length ≤ 3000 + j ∧ OwnR encP 21 62 w wr s4 acc) (fun _ s8 _ _ _ _ => i - (intOf s8).toNat)
      case atStart => exact ⟨0, m0, rfl, Nat.zero_le _, rfl, HM.out.2.1, HM.out.2.2⟩
      case round =>
        obtain ⟨j, acc, rfl, hj, hls, hal, hrow⟩ := hrel
        have HJ := Lib.hid (And.intro hls (And.intro hal hrow))
        clear hls hal hrow t1 t1'
        by_cases hjn : j < i
        · have t1 : decide ((j : Int) < (i : Int)) = true := decide_eq_true (by omega)
          have t1' : decide (j < i) = true := decide_eq_true hjn
          have hjl : j < t.length := by rw [← HH.out.2.1]; exact hjn
          obtain ⟨b, q, aa, cc, IX, c0, c1, hsl⟩ := (HH.out.1.below HJ.out.2.2.frame).at (j : Int) j rfl hjl
          rw [← HH.out.2.1] at IX
          have hbd := HH.out.2.2 t[j]! (by rw [getElem!_pos t j hjl]; exact List.getElem_mem hjl)
          have hsn := take_succF hjl
          have hst : docLs (t.take (j + 1)) m0 = docOne t[j]! acc := by rw [hsn, docLs_snoc, HJ.out.1]
          obtain ⟨d, hd⟩ : ∃ d, d = t[j]! := ⟨_, rfl⟩
          rw [← hd] at c0 c1 hsl hbd hst
          obtain ⟨pl, hpl⟩ : ∃ p, p = d.path.length := ⟨_, rfl⟩
          have hsz : (strOf d.path).size = pl := by rw [strOf_size, hpl]
          have hp3 : docOne d acc = if refsT.isPrefixOf d.path then (match fileK d.bytes with | some n => if rightN d.path then some (putD acc ⟨d.path, n⟩) else none | none => none) else some acc := rfl
          have HS := Lib.hid (And.intro hst (And.intro hbd (And.intro hpl hd)))
          by_cases hp : refsT.isPrefixOf d.path = true
          case neg =>
            rw [if_neg hp] at hp3
            have HP := Lib.hid (HS.out.1.trans hp3)
            have hp5 : ¬ d.path.take 5 = refsT := fun h => hp (by rw [pre_refs, h]; rfl)
            by_cases h5 : 5 ≤ pl
            · have t5 : decide ((5 : Int) ≤ (pl : Int)) = true := decide_eq_true (by omega)
              have t5' : decide (5 ≤ pl) = true := decide_eq_true h5
              have SL := fun W => str_to Tryz.underlying9 d.path (i := 5) (by omega) W
              have E5 : ((strOf (d.path.take 5)).toList == [114, 101, 102, 115, 47]) = false := (strOf_eq (d.path.take 5) refsT).trans (decide_eq_false hp5)
              generalize strOf (d.path.take 5) = T5 at *
              generalize strOf d.path = PT at *
              clear hst hbd hpl hd hp3 hsl c1 hsn hjl hp hp5
              go_wp2_with (first | (refine wpList_unguard rfl (wpList_slice_at rfl _ _ _ _ _ rfl _ _ _ _ _ rfl rfl rfl rfl (SL _) ?_)))
              go_roundw
              case rel => exact ⟨j + 1, acc, by go_num, by omega, HP.out, by have := HJ.out.2.1; omega, HJ.out.2.2⟩
              case measure => simp [intOf]; omega
            · have t5 : decide ((5 : Int) ≤ (pl : Int)) = false := decide_eq_false (by omega)
              have t5' : decide (5 ≤ pl) = false := decide_eq_false h5
              have t5a : decide ((pl : Int) < 5) = true := decide_eq_true (by omega)
              have t5b : decide (pl < 5) = true := decide_eq_true (by omega)
              generalize strOf d.path = PT at *
              clear hst hbd hpl hd hp3 hsl c1 hsn hjl hp hp5 h5
              go_wp2_with fail
              go_roundw
              case rel => exact ⟨j + 1, acc, by go_num, by omega, HP.out, by have := HJ.out.2.1; omega, HJ.out.2.2⟩
              case measure => simp [intOf]; omega
          rw [if_pos hp] at hp3
          have HP := Lib.hid (HS.out.1.trans hp3)
          have hp5 : d.path.take 5 = refsT := of_decide_eq_true ((pre_refs d.path).symm.trans hp)
          have h5 : 5 ≤ pl := by have := congrArg List.length hp5; rw [List.length_take] at this; simp [refsT] at this; omega
          have t5 : decide ((5 : Int) ≤ (pl : Int)) = true := decide_eq_true (by omega)
          have t5' : decide (5 ≤ pl) = true := decide_eq_true h5
          have SL := fun W => str_to Tryz.underlying9 d.path (i := 5) (by omega) W
          have E5 : ((strOf (d.path.take 5)).toList == [114, 101, 102, 115, 47]) = true := (strOf_eq (d.path.take 5) refsT).trans (decide_eq_true hp5)
          have C := refId_any hsl
          have CR := fun W => refRightN_any d.path (by have := hbd.1; omega) W
          have BD := fun (x : Id20) (W : World) => buildD d.path x W
          generalize strOf (d.path.take 5) = T5 at *
          obtain ⟨PT, hPT⟩ : ∃ P, P = strOf d.path := ⟨_, rfl⟩
          rw [← hPT] at c0 hsz SL CR BD
          obtain ⟨nb, hnb⟩ : ∃ n, n = d.bytes.length := ⟨_, rfl⟩
          rw [← hnb] at C c1
          obtain ⟨K, hK⟩ : ∃ K, K = fileK d.bytes := ⟨_, rfl⟩
          rw [← hK] at HP C
          obtain ⟨ok, hok⟩ : ∃ ok, ok = K.isSome := ⟨_, rfl⟩
          obtain ⟨y, hy⟩ : ∃ y, y = K.getD id0 := ⟨_, rfl⟩
          rw [← hok, ← hy] at C
          have HK := Lib.hid (And.intro hok hy)
          clear hst hbd hpl hd hp3 hsl hsn hjl hp hp5 hPT hnb hK hok hy
          go_upto_region 15 with (first | (refine wpList_unguard rfl (wpList_slice_at rfl _ _ _ _ _ rfl _ _ _ _ _ rfl rfl rfl rfl (SL _) ?_)))
          clear SL E5 t5 t5' c0 hsz
          go_wp2_with fail
          refine C.mono ?_
          clear C
          rintro e w2 ⟨rfl, hb2⟩
          have hzb : (w2.alloc (.cells Z 41)).heap[w2.heap.size]? = some (.cells Z 41 (0, 0)) := heap_alloc_last _ _ _ rfl
          have zs : Z.size = (idA y).size := by rw [HZ.out, idA_size, idA_size]
          have zi : (Tryz.prog.info? 41).map (·.size) = some (idA y).size := by rw [idA_size]; kernel_rfl
          have z1 := idA_one y
          have hbx : ((w2.alloc (.cells Z 41)).setRow w2.heap.size (idA y)).heap[w2.heap.size]? = some (.cells (idA y) 41 (0, 0)) := setRow_heap _ _ _ _ _ _ hzb
          have gA : Below w2.heap.size w2 ((w2.alloc (.cells Z 41)).setRow w2.heap.size (idA y)) := below_setRow ((Below.refl _ _).alloc (Nat.le_refl _) _) (Nat.le_refl _) _
          have hbA := HJ.out.2.2.frame.trans ((hb2.trans (gA.mono hb2.size)).mono HJ.out.2.2.frame.size)
          have HA := Lib.hid (And.intro hbx (And.intro (hb2.trans (gA.mono hb2.size)) hbA))
          obtain ⟨IY, hIY⟩ : ∃ V, V = idA y := ⟨_, rfl⟩
          rw [← hIY] at HA zs zi z1 ⊢
          have HIY := Lib.hid hIY
          clear hb2 hbx gA hbA c1 hIY
          go_upto_region 16 with (refine wpList_store_row rfl 41 _ _ rfl w2.heap.size IY rfl rfl 41 Z hzb zi zs z1 ?_)
          clear hzb zs zi z1
          obtain ⟨X2, hX2⟩ : ∃ X, X = w2.heap.size := ⟨_, rfl⟩
          rw [← hX2] at HA ⊢
          clear hX2
          generalize (w2.alloc (.cells Z 41)).setRow X2 IY = w3 at *
          cases ok
          · have hKn : K = none := by have := HK.out.1; cases K with | none => rfl | some _ => cases this
            have HN := Lib.hid (docK_ls (i := j + 1) HM.out.1 (by rw [HP.out, hKn]))
            clear hKn CR BD IX
            go_wp2_with fail
            go_ret2
            exact .inr ⟨HN.out, rfl, HA.out.2.2⟩
          · have hKs : K = some y := by have h1 := HK.out.1; have h2 := HK.out.2; cases K with | none => cases h1 | some k => rw [h2]; rfl
            have HP2 := HP.out
            rw [hKs] at HP2
            obtain ⟨rr, hrr⟩ : ∃ r, r = rightN d.path := ⟨_, rfl⟩
            rw [← hrr] at CR
            have HQ := Lib.hid (And.intro HP2 hrr)
            clear hKs HP2 hrr
            go_wp2_with fail
            refine (CR _).mono ?_
            clear CR
            rintro e w4 ⟨rfl, rfl⟩
            cases rr
            · have HN := Lib.hid (docK_ls (i := j + 1) HM.out.1 (by rw [HQ.out.1]; show (if rightN d.path = true then _ else none) = none; rw [← HQ.out.2]; rfl))
              clear BD IX
              go_wp2_with fail
              go_ret2
              exact .inr ⟨HN.out, rfl, HA.out.2.2⟩
            · have hs9 : docLs (t.take (j + 1)) m0 = some (putD acc ⟨d.path, y⟩) := by
                rw [HQ.out.1]; show (if rightN d.path = true then some (putD acc ⟨d.path, y⟩) else none) = _; rw [← HQ.out.2]; rfl
              have hlen := putD_len acc ⟨d.path, y⟩
              obtain ⟨a4, c4, rfl, hrs, -⟩ := HJ.out.2.2.rs tyD
              have CP := refPut_any ⟨d.path, y⟩ (hrs.below HA.out.2.1) (by have := HJ.out.2.1; have := HH.out.2.1; omega)
              have LI := load_id arrR (by kernel_rfl) y X2 0 w4 (idBox (by rw [← HIY.out]; exact HA.out.1))
              rw [← HIY.out] at LI
              have BY := BD y
              rw [← HIY.out] at BY
              obtain ⟨RV, hRV⟩ : ∃ R, R = recA encP ⟨d.path, y⟩ := ⟨_, rfl⟩
              rw [← hRV] at CP BY
              have H9 := Lib.hid (And.intro hs9 (show (putD acc ⟨d.path, y⟩).length ≤ 3000 + (j + 1) by have := HJ.out.2.1; omega))
              obtain ⟨na, hna⟩ : ∃ n, n = acc.length := ⟨_, rfl⟩
              rw [← hna] at CP ⊢
              clear hs9 hlen hrs hRV BD hna
              go_wp2_with (first | (refine wpList_load_at rfl _ _ rfl _ _ rfl LI ?_) | (refine wpList_build_at rfl _ _ rfl [(0, .string PT), (1, .agg IY)] _ rfl (BY _) ?_))
              refine CP.mono ?_
              clear CP LI BY
              rintro e w5 ⟨v5, rfl, ho5⟩
              have H5 := Lib.hid (ho5.rebase HA.out.2.2)
              clear ho5
              go_wp2_with fail
              go_roundw
              case rel => exact ⟨j + 1, _, by go_num, by omega, H9.out.1, H9.out.2, H5.out⟩
              case measure => simp [intOf]; omega
        · obtain rfl : j = i := by omega
          have t1 : decide ((j : Int) < (j : Int)) = false := decide_eq_false (by omega)
          have t1' : decide (j < j) = false := decide_eq_false (by omega)
          have e : t.take j = t := List.take_of_length_le (by rw [HH.out.2.1]; exact Nat.le_refl _)
          have hls := HJ.out.1
          rw [e] at hls
          have HF := Lib.hid (And.intro (docK_end HM.out.1 hls) (And.intro (show acc.length ≤ 20000 by have := HJ.out.2.1; have := HH.out.2.1; omega) HJ.out.2.2))
          clear hls e
          go_wp2_with fail
          go_ret2
          exact .inl ⟨acc, HF.out.1, HF.out.2.1, _, rfl, HF.out.2.2⟩
end Go.Proofs.YtponfkfeflnilaaGreatDoor
