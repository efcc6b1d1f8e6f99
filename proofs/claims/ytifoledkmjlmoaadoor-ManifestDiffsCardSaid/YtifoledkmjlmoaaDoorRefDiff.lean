/-
  The document's Diff: the walk.
-/
import Derived.Test.YtifoledkmjlmoaaDoorRefDiffP
namespace Go.Proofs.YtifoledkmjlmoaaDoor
open Go.RowKit Go.Mix Go.WideMaps

set_option maxRecDepth 100000 in
set_option maxHeartbeats 2000000 in
theorem refOf_any {w : World} {l : List MFile} {a : Option Addr} {cap : Nat} (hg : RsAt encM 22 w a cap l) (hlen : l.length ≤ 1000000) (x : List UInt8) :
    Calls Tryd.prog 35 #[.slice a l.length cap, .string (strOf x)] w fun e w' => ∃ v, e = .returned v ∧ OwnR encM 22 54 w w' v (ofL l x) := by
  obtain ⟨n, hn⟩ : ∃ n, n = l.length := ⟨_, rfl⟩
  have HN := Lib.hid hn
  have HG := Lib.hid hg
  have HLEN := Lib.hid hlen
  rw [← hn]
  clear hn hg hlen
  have hF0 : Below w.heap.size w w := Below.refl _ _
  go_enter Tryd.func35, Tryd.ntmps35
  go_wp2_with fail
  go_loopw [5, 6] (fun s5 s6 wr => ∃ i : Nat, s6 = .int .i64 (i : Int) ∧ i ≤ n ∧ OwnR encM 22 54 w wr s5 (ofL (l.take i) x)) (fun _ s6 _ => n - (intOf s6).toNat)
  case atStart => exact ⟨0, rfl, Nat.zero_le _, OwnR.nil hF0⟩
  case round =>
    obtain ⟨i, rfl, hi, hrow⟩ := hrel
    by_cases him : i < n
    · have t1 : decide ((i : Int) < (n : Int)) = true := decide_eq_true (by omega)
      have t1' : decide (i < n) = true := decide_eq_true (by omega)
      have hil : i < l.length := by rw [← HN.out]; omega
      obtain ⟨b, q, IX, R, LD⟩ := (HG.out.below hrow.frame).at tyN (i : Int) i rfl hil
      rw [← HN.out] at IX
      obtain ⟨f0, -, -⟩ := mf_fields R
      have hstep := ofL_add (l.take i) l[i]! x
      rw [← take_succM hil] at hstep
      have hfl : (ofL (l.take i) x).length ≤ 1000000 := by
        have h1 := List.length_filter_le (fun p : MFile => decide (p.path = x)) (l.take i)
        have := HLEN.out
        rw [List.length_take] at h1
        unfold ofL
        omega
      have HS := Lib.hid (And.intro hstep hfl)
      have hi6 : i ≤ 1000000 := by have := HLEN.out; omega
      have L6 := LD wr (Below.refl _ _)
      generalize l[i]! = p at *
      have EQ : ((strOf p.path).toList == (strOf x).toList) = decide (p.path = x) := by rw [strOf_eq, strOf_list]
      have hp9 := RsAt.one (enc := encM) (L := 22) wr 54 p
      have hrow9 := hrow.later ((Below.refl _ _).alloc (Nat.le_refl _) (.cells (recA encM p) 54))
      have H9 := Lib.hid (And.intro hp9 (And.intro hrow9 hrow))
      have S1 := tyN.slice1 p wr
      obtain ⟨d, hd⟩ : ∃ d, d = decide (p.path = x) := ⟨_, rfl⟩
      have HD := Lib.hid hd
      rw [← hd] at EQ
      clear hstep hfl LD R hil hp9 hrow9 hrow hd
      generalize strOf p.path = T1 at *
      generalize strOf x = T2 at *
      generalize ofL (l.take i) x = Z at *
      cases d
      · go_wp2_with (first | (refine wpList_load_at rfl _ _ rfl _ _ rfl L6 ?_))
        go_roundw
        case rel => exact ⟨i + 1, by go_num, by omega, by rw [HS.out.1, if_neg (of_decide_eq_false HD.out.symm)]; exact H9.out.2.2⟩
        case measure => simp [intOf]; omega
      · go_wp2_with (first | (refine wpList_load_at rfl _ _ rfl _ _ rfl L6 ?_) | (refine wpList_buildSlice_at rfl _ _ _ rfl [(0, .agg (recA encM p))] _ rfl S1 ?_) | (refine wpList_append_r tyN rfl (.tmp 20) (.tmp 25) rfl _ Z rfl H9.out.2.1 (some ⟨wr.heap.size, 0, none⟩) 1 1 [p] rfl rfl H9.out.1 (by have := HS.out.2; simp; omega) ?_; intro v8 w8 hb8 hg8 hn8; have H8 := Lib.hid hb8; clear hb8 hg8 hn8 L6 S1))
        go_roundw
        case rel => exact ⟨i + 1, by go_num, by omega, by rw [HS.out.1, if_pos (of_decide_eq_true HD.out.symm)]; exact H8.out⟩
        case measure => simp [intOf]; omega
    · obtain rfl : i = n := by omega
      have e : l.take i = l := by rw [HN.out]; exact List.take_of_length_le (Nat.le_refl _)
      rw [e] at hrow
      have HRES := Lib.hid hrow
      clear hrow
      have t1 : decide ((i : Int) < (i : Int)) = false := decide_eq_false (by omega)
      have t1' : decide (i < i) = false := decide_eq_false (by omega)
      go_wp2_with fail
      go_ret
      exact ⟨_, rfl, HRES.out⟩

set_option maxRecDepth 100000 in
set_option maxHeartbeats 8000000 in
theorem refDiff_any {w : World} {l m : List MFile} {a b : Option Addr} {ca cb : Nat} (hl : RsAt encM 22 w a ca l) (hm : RsAt encM 22 w b cb m) (hll : l.length ≤ 500) (hml : m.length ≤ 500) (wl : ∀ p ∈ l, WfM p) (wm : ∀ p ∈ m, WfM p) :
    Calls Tryd.prog 18 #[.slice a l.length ca, .slice b m.length cb] w fun e w' => ∃ v, e = .returned v ∧ OwnR encS 1 9 w w' v (diffL l m) := by
  obtain ⟨n1, hn1⟩ : ∃ n, n = l.length := ⟨_, rfl⟩
  obtain ⟨n2, hn2⟩ : ∃ n, n = m.length := ⟨_, rfl⟩
  have HN := Lib.hid (And.intro hn1 (And.intro hn2 (And.intro hl (And.intro hm (And.intro wl wm)))))
  rw [← hn1] at hll ⊢
  rw [← hn2] at hml ⊢
  clear hn1 hn2 hl hm wl wm
  obtain ⟨n, hn⟩ : ∃ n, n = n1 + n2 := ⟨_, rfl⟩
  have hn6 : n ≤ 1000 := by omega
  have HNN := Lib.hid (show n = (l ++ m).length by rw [List.length_append, ← HN.out.1, ← HN.out.2.1]; exact hn)
  go_enter Tryd.func18, Tryd.ntmps18
  go_upto_region 3 with (first | (refine wpList_buildSlice_at rfl _ _ _ rfl [] _ rfl (tyN.slice0 w) ?_) | (refine wpList_append_empty_r tyN rfl (.tmp 11) (.tmp 12) rfl w.heap.size rfl (OwnR.made 22 encM w 54) a n1 ca l rfl HN.out.1 (HN.out.2.2.1.below (OwnR.made 22 encM w 54).frame) (by have := HN.out.1; omega) ?_; intro v1 w1 hb1 hg1; have HB1 := Lib.hid hb1; clear hb1 hg1) | (refine wpList_append_r tyN rfl (.tmp 13) (.tmp 14) rfl _ l rfl HB1.out b n2 cb m rfl HN.out.2.1 (HN.out.2.2.2.1.below HB1.out.frame) (by have := HN.out.1; have := HN.out.2.1; omega) ?_; intro v2 w2 hb2 hg2 hn2; have HB2 := Lib.hid hb2; clear hb2 hg2 hn2))
  obtain ⟨aC, cC, rfl, hrC, -⟩ := HB2.out.rs tyN
  have H2 := Lib.hid (And.intro HB2.out.frame hrC)
  rw [← HNN.out]
  clear hrC hn
  go_wp2_with fail
  go_loopw [5, 7] (fun s5 s7 wr => ∃ (i : Nat) (v : Value) (out : List (List UInt8)), v = s5 ∧ s7 = .int .i64 (i : Int) ∧ i ≤ n ∧ OwnR encS 1 9 w2 wr v out ∧ DifS l m ((l ++ m).take i) out) (fun _ s7 _ => n - (intOf s7).toNat)
  case atStart => exact ⟨0, _, [], rfl, rfl, Nat.zero_le _, OwnR.nil (Below.refl _ _), DifS.nil l m⟩
  case round =>
    obtain ⟨i, v, out, rfl, rfl, hi, hrow, hdif⟩ := hrel
    have HW := Lib.hid (And.intro hrow hdif)
    by_cases hin : i < n
    · have t1 : decide ((i : Int) < (n : Int)) = true := decide_eq_true (by omega)
      have t1' : decide (i < n) = true := decide_eq_true hin
      have hil : i < (l ++ m).length := by rw [← HNN.out]; exact hin
      obtain ⟨o1, o2, IX, R, -⟩ := (H2.out.2.below hrow.frame).at tyN (i : Int) i rfl hil
      rw [← HNN.out] at IX
      obtain ⟨f0, -, -⟩ := mf_fields R
      have HS := Lib.hid (And.intro (take_succM hil) hdif.len)
      generalize (l ++ m)[i]! = p at *
      obtain ⟨ao, co, rfl, hro, -⟩ := hrow.rs1 tyS
      have HOR := Lib.hid hro
      have hol : out.length ≤ 1000 := by have := hdif.len; rw [List.length_take] at this; omega
      obtain ⟨no, hno⟩ : ∃ no, no = out.length := ⟨_, rfl⟩
      have HNO := Lib.hid (And.intro hno (show no ≤ 1000 by rw [hno]; exact hol))
      have hno6 : no ≤ 1000 := HNO.out.2
      rw [← hno]
      have C1 := refOf_any (HN.out.2.2.1.below (H2.out.1.trans (hrow.frame.mono H2.out.1.size))) (by have := HN.out.1; omega) p.path
      rw [← HN.out.1] at C1
      clear hrow hdif R hil hro hol hno
      go_wp2_with fail
      refine C1.mono ?_
      clear C1
      rintro e w3 ⟨v3, rfl, h3⟩
      obtain ⟨a3, c3, rfl, hr3, -⟩ := h3.rs tyN
      have C2 := refOf_any ((HN.out.2.2.2.1.below (H2.out.1.trans (HW.out.1.frame.mono H2.out.1.size))).below h3.frame) (by have := HN.out.2.1; omega) p.path
      rw [← HN.out.2.1] at C2
      have H3 := Lib.hid (And.intro h3.frame hr3)
      obtain ⟨m1, hm1⟩ : ∃ x, x = (ofL l p.path).length := ⟨_, rfl⟩
      have HM1 := Lib.hid hm1
      rw [← hm1]
      clear h3 hr3 hm1 f0 IX
      go_wp2_with fail
      refine C2.mono ?_
      clear C2
      rintro e w4 ⟨v4, rfl, h4⟩
      obtain ⟨a4, c4, rfl, hr4, -⟩ := h4.rs tyN
      have C3 := same_any (H3.out.2.below h4.frame) hr4 (fun q hq => HN.out.2.2.2.2.1 q (List.mem_filter.1 hq).1) (fun q hq => HN.out.2.2.2.2.2 q (List.mem_filter.1 hq).1)
      have H4 := Lib.hid (H3.out.1.trans (h4.frame.mono H3.out.1.size))
      obtain ⟨m2, hm2⟩ : ∃ x, x = (ofL m p.path).length := ⟨_, rfl⟩
      rw [← HM1.out, ← hm2] at C3
      rw [← hm2]
      obtain ⟨d, hd⟩ : ∃ d, d = decide (ofL l p.path = ofL m p.path) := ⟨_, rfl⟩
      rw [← hd] at C3
      have HD := Lib.hid hd
      clear h4 hr4 hm2 hd
      go_wp2_with fail
      refine C3.mono ?_
      clear C3
      rintro e w5 ⟨rfl, hb5⟩
      have H5 := Lib.hid (H4.out.trans (hb5.mono H4.out.size))
      clear hb5
      cases d
      case true =>
        go_wp2_with fail
        go_roundw
        case rel => exact ⟨i + 1, _, _, rfl, by go_num, by omega, by rw [HNO.out.1]; exact HW.out.1.later H5.out, by rw [HS.out.1]; exact HW.out.2.skip p (.inl (of_decide_eq_true HD.out.symm))⟩
        case measure => simp [intOf]; omega
      case false =>
        have HNE := Lib.hid (of_decide_eq_false HD.out.symm)
        go_wp2_with fail
        go_loopw [9] (fun s9 wr2 => ∃ k : Nat, s9 = .int .i64 (k : Int) ∧ k ≤ no ∧ (∀ j, j < k → out[j]! < p.path) ∧ Below wr.heap.size wr wr2) (fun s9 _ => no - (intOf s9).toNat)
        case atStart => exact ⟨0, rfl, Nat.zero_le _, fun j hj => by omega, H5.out⟩
        case round =>
          obtain ⟨k, rfl, hk, hlo, hb2⟩ := hrel
          have hko := hk
          rw [HNO.out.1] at hk
          have HLO := Lib.hid hlo
          have HOUT2 := Lib.hid (HW.out.1.frame.trans (hb2.mono HW.out.1.frame.size))
          have HB2 := Lib.hid hb2
          have HKL := Lib.hid (show k = (out.take k).length by rw [List.length_take]; omega)
          have HOR := Lib.hid (HOR.out.below hb2)
          have SLT := HOR.out.to1 tyS hk (k : Int) rfl
          obtain ⟨ad, cd, SLF, hdr⟩ := HOR.out.from1 tyS hk (k : Int) rfl
          rw [← HNO.out.1] at SLT SLF
          have HDR := Lib.hid hdr
          clear hdr hb2
          by_cases hkn : k < no
          · have t2 : decide ((k : Int) < (no : Int)) = true := decide_eq_true (by omega)
            have t2' : decide (k < no) = true := decide_eq_true hkn
            obtain ⟨b6, q6, IX6, R6, LD6⟩ := HOR.out.at1 tyS (k : Int) k rfl (by rw [← HNO.out.1]; exact hkn)
            rw [← HNO.out.1] at IX6
            have L6 := LD6 wr (Below.refl _ _)
            clear LD6 R6
            have EL : Op.bytesLess (strOf out[k]!).toList (strOf p.path).toList = decide (out[k]! < p.path) := by rw [strOf_list, strOf_list, bytesLess_eq]
            have EQ : ((strOf out[k]!).toList == (strOf p.path).toList) = decide (out[k]! = p.path) := by rw [strOf_eq, strOf_list]
            obtain ⟨x, hx⟩ : ∃ x, x = out[k]! := ⟨_, rfl⟩
            have HX := Lib.hid hx
            rw [← hx] at EL EQ L6
            clear hx
            unfold strV at L6
            by_cases hlt : x < p.path
            · rw [decide_eq_true hlt] at EL
              clear EQ SLT SLF
              go_wp2_with (first | (refine wpList_load_at rfl _ _ rfl _ _ rfl L6 ?_) | (refine wpList_load_g rfl _ _ rfl _ _ rfl L6 ?_))
              go_roundw
              case rel =>
                refine ⟨k + 1, by go_num, by omega, fun j hj => ?_, HB2.out⟩
                by_cases hjk : j < k
                · exact HLO.out j hjk
                · obtain rfl : j = k := by omega
                  exact HX.out ▸ hlt
              case measure => simp [intOf]; omega
            · rw [decide_eq_false hlt] at EL
              by_cases heq : x = p.path
              · rw [decide_eq_true heq] at EQ
                have HEQ := Lib.hid heq
                clear SLT SLF heq
                go_wp2_with (first | (refine wpList_load_at rfl _ _ rfl _ _ rfl L6 ?_) | (refine wpList_load_g rfl _ _ rfl _ _ rfl L6 ?_))
                go_roundw
                case rel => exact ⟨i + 1, _, _, rfl, by go_num, by omega, by rw [HNO.out.1]; exact HW.out.1.later HB2.out, by
                  rw [HS.out.1]
                  refine HW.out.2.skip p (.inr ?_)
                  rw [← HEQ.out, HX.out, getElem!_pos out k (by rw [← HNO.out.1]; exact hkn)]
                  exact List.getElem_mem _⟩
                case measure => simp [intOf]; omega
              · rw [decide_eq_false heq] at EQ
                go_upto_region 12 with (first | (refine wpList_load_at rfl _ _ rfl _ _ rfl L6 ?_) | (refine wpList_load_g rfl _ _ rfl _ _ rfl L6 ?_))
                clear EL EQ L6 IX6
                have hput := HW.out.2.put p HNE.out hk hlo (fun _ => ⟨by rw [← HX.out]; exact hlt, by rw [← HX.out]; exact heq⟩)
                have HPUT := Lib.hid hput
                clear hput
                go_wp2_with (first | (refine wpList_buildSlice_at rfl _ _ _ rfl [] _ rfl (tyS.slice0 wr) ?_) | (refine wpList_append_empty_1 tyS rfl (.tmp 60) (.tmp 63) rfl wr.heap.size rfl (OwnR.made 1 encS wr 9) ao k co (out.take k) rfl HKL.out ((HOR.out.take k).below (OwnR.made 1 encS wr 9).frame) (by have := HKL.out; omega) ?_; intro v5 w5 hb5 hg5; have HB5 := Lib.hid hb5; clear hb5 hg5) | (refine wpList_buildSlice_at rfl _ _ _ rfl [(0, strV p.path)] _ rfl (tyS.slice1 p.path w5) ?_) | (refine wpList_append_1 tyS rfl (.tmp 65) (.tmp 67) rfl _ (out.take k) rfl (HB5.out.later ((Below.refl _ _).alloc (Nat.le_refl _) (.cells (recA encS p.path) 9))) (some ⟨w5.heap.size, 0, none⟩) 1 1 [p.path] rfl rfl (RsAt.one (enc := encS) (L := 1) w5 9 p.path) (by have := HKL.out; simp; omega) ?_; intro v6 w6 hb6 hg6 hn6; have HB6 := Lib.hid hb6; clear hb6 hg6 hn6) | (refine wpList_append_1 tyS rfl (.tmp 69) (.tmp 72) rfl _ (out.take k ++ [p.path]) rfl HB6.out ad (no - k) cd (out.drop k) rfl (by have := HNO.out.1; rw [List.length_drop]; omega) (HDR.out.below HB6.out.frame) (by have := HNO.out; simp; omega) ?_; intro v7 w7 hb7 hg7 hn7; have HB7 := Lib.hid hb7; clear hb7 hg7 hn7))
                go_roundw
                case rel => exact ⟨i + 1, _, _, rfl, by go_num, by omega, HB7.out.rebase HOUT2.out, by rw [HS.out.1]; exact HPUT.out⟩
                case measure => simp [intOf]; omega
          · have t2 : decide ((k : Int) < (no : Int)) = false := decide_eq_false (by omega)
            have t2' : decide (k < no) = false := decide_eq_false (by omega)
            go_upto_region 12 with (fail)
            have hput := HW.out.2.put p HNE.out hk hlo (fun h => by have := HNO.out.1; omega)
            have HPUT := Lib.hid hput
            clear hput
            go_wp2_with (first | (refine wpList_buildSlice_at rfl _ _ _ rfl [] _ rfl (tyS.slice0 wr) ?_) | (refine wpList_append_empty_1 tyS rfl (.tmp 60) (.tmp 63) rfl wr.heap.size rfl (OwnR.made 1 encS wr 9) ao k co (out.take k) rfl HKL.out ((HOR.out.take k).below (OwnR.made 1 encS wr 9).frame) (by have := HKL.out; omega) ?_; intro v5 w5 hb5 hg5; have HB5 := Lib.hid hb5; clear hb5 hg5) | (refine wpList_buildSlice_at rfl _ _ _ rfl [(0, strV p.path)] _ rfl (tyS.slice1 p.path w5) ?_) | (refine wpList_append_1 tyS rfl (.tmp 65) (.tmp 67) rfl _ (out.take k) rfl (HB5.out.later ((Below.refl _ _).alloc (Nat.le_refl _) (.cells (recA encS p.path) 9))) (some ⟨w5.heap.size, 0, none⟩) 1 1 [p.path] rfl rfl (RsAt.one (enc := encS) (L := 1) w5 9 p.path) (by have := HKL.out; simp; omega) ?_; intro v6 w6 hb6 hg6 hn6; have HB6 := Lib.hid hb6; clear hb6 hg6 hn6) | (refine wpList_append_1 tyS rfl (.tmp 69) (.tmp 72) rfl _ (out.take k ++ [p.path]) rfl HB6.out ad (no - k) cd (out.drop k) rfl (by have := HNO.out.1; rw [List.length_drop]; omega) (HDR.out.below HB6.out.frame) (by have := HNO.out; simp; omega) ?_; intro v7 w7 hb7 hg7 hn7; have HB7 := Lib.hid hb7; clear hb7 hg7 hn7))
            go_roundw
            case rel => exact ⟨i + 1, _, _, rfl, by go_num, by omega, HB7.out.rebase HOUT2.out, by rw [HS.out.1]; exact HPUT.out⟩
            case measure => simp [intOf]; omega
    · obtain rfl : i = n := by omega
      have t1 : decide ((i : Int) < (i : Int)) = false := decide_eq_false (by omega)
      have t1' : decide (i < i) = false := decide_eq_false (by omega)
      rw [HNN.out, List.take_of_length_le (Nat.le_refl _)] at hdif
      have HR := Lib.hid (And.intro hrow hdif.eq)
      clear hrow hdif
      go_wp2_with fail
      go_ret
      exact ⟨_, rfl, by rw [← HR.out.2]; exact HR.out.1.rebase H2.out.1⟩
end Go.Proofs.YtifoledkmjlmoaaDoor
