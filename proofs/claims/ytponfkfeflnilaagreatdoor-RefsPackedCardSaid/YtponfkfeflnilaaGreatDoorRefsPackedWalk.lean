/-
  RefsPacked: the walk.
-/
import Derived.Test.YtponfkfeflnilaaGreatDoorMaKnown
import Derived.Test.YtponfkfeflnilaaGreatDoorMaRef
namespace Go.Proofs.YtponfkfeflnilaaGreatDoor
open Go.RowKit Go.Mix Go.WideMaps Go.Maps

theorem fewP_len (l : List RefP) : (fewP l).length ≤ 40 := by unfold fewP; rw [List.length_map, List.length_take]; omega
theorem fewP_name {l : List RefP} : ∀ p ∈ fewP l, p.name.length ≤ 250 := fun p hp => by
  unfold fewP at hp
  obtain ⟨q, -, rfl⟩ := List.mem_map.1 hp
  show (q.name.take 250).length ≤ 250
  rw [List.length_take]; omega
theorem parsePk_names {b : Bytes} {l : List RefP} (h : parsePk b = some l) : ∀ p ∈ l, p.name.length ≤ 200 := fun p hp => (ord_line (parsePk_some h).1 p hp).2.2

set_option maxRecDepth 100000 in
set_option maxHeartbeats 8000000 in
theorem refsPacked_at {w : World} {a : Option Addr} {cap : Nat} {b : Bytes} {a1 : Option Addr} {cap1 : Nat} {l : List RefP} (hb : Sl w a cap b) (hl : RsAt encP 21 w a1 cap1 l) (hx : ∀ p ∈ l, p.name.length ≤ 9223372036854775807) (hm : MaxIs w) :
    Calls Tryz.prog 4 #[.slice a b.length cap, .slice a1 l.length cap1] w fun e w' => e = .returned (.bool true) ∧ Below w.heap.size w w' := by
  obtain ⟨k, hk⟩ : ∃ k, k = min b.length 3000 := ⟨_, rfl⟩
  obtain ⟨b2, hb2, hb2l, hs2, SL⟩ := hb.to (k : Int) k rfl (by omega)
  have hk3 : k ≤ 3000 := by omega
  obtain ⟨nb, hnb⟩ : ∃ n, n = b.length := ⟨_, rfl⟩
  have MR := min_runI (nb : Int) 3000 (k : Int) (by omega)
  rw [← hnb] at SL ⊢
  rw [hb2l] at SL
  have C1 := parsePk_any hs2 (by omega) hm
  rw [hb2l] at C1
  have ST := hs2.str
  rw [hb2l] at ST
  change (convert 24 9 (.slice a k cap)).run Tryz.prog w = .ok (.string (strOf b2)) w at ST
  have C2 := fun W => refParsePk_any b2 (by omega) W
  obtain ⟨nl, hnl⟩ : ∃ n, n = l.length := ⟨_, rfl⟩
  have HH := Lib.hid (And.intro hs2 (And.intro hl (And.intro hx (And.intro hm (And.intro hnl hb2l)))))
  rw [← hnl]
  clear hb hl hx hm hk hb2 hb2l hs2 ST hnb hnl
  go_enter Tryz.func4, Tryz.ntmps4
  go_wp2_with (first | (refine wpList_slice_at rfl _ _ _ _ _ rfl _ _ _ _ _ rfl rfl rfl rfl (SL _) ?_))
  refine C1.mono ?_
  clear C1 SL MR
  rintro e w1 hpost
  rcases hpost with ⟨x, hpx, v1, rfl, ho1⟩ | ⟨hpx, rfl, hb1⟩
  · obtain ⟨x1, c1, rfl, hr1, -⟩ := ho1.rs tyP
    have hb1 := ho1.frame
    have ST := (HH.out.1.below hb1).str
    rw [HH.out.2.2.2.2.2] at ST
    change (convert 24 9 (.slice a k cap)).run Tryz.prog w1 = .ok (.string (strOf b2)) w1 at ST
    have Q2 := C2 w1
    obtain ⟨TB, hTB⟩ : ∃ T, T = strOf b2 := ⟨_, rfl⟩
    have HTB := Lib.hid hTB
    rw [← hTB] at ST Q2
    have hxl : x.length ≤ 1000 := by have := parsePk_len hpx; have := HH.out.2.2.2.2.2; omega
    obtain ⟨nx, hnx⟩ : ∃ n, n = x.length := ⟨_, rfl⟩
    have H1 := Lib.hid (And.intro hb1 (And.intro hr1 (And.intro hpx (And.intro hxl hnx))))
    rw [← hnx]
    clear hb1 hr1 ho1 hxl hnx hTB C2
    go_wp2_with fail
    refine Q2.mono ?_
    clear Q2 ST
    rintro e w2 hpost
    have hpost2 : ∃ v, e = .returned (.tuple #[v, .bool true]) ∧ OwnR encP 21 62 w1 w2 v x := by
      rcases hpost with ⟨y, hy, v, rfl, ho⟩ | ⟨hy, -⟩
      · rw [H1.out.2.2.1] at hy; injection hy with hy; subst hy; exact ⟨v, rfl, ho⟩
      · rw [H1.out.2.2.1] at hy; cases hy
    obtain ⟨v2, rfl, ho2⟩ := hpost2
    obtain ⟨y2, c2, rfl, hr2, -⟩ := ho2.rs tyD
    have C3 := as_any (H1.out.2.1.below ho2.frame) (by have := H1.out.2.2.2.1; omega)
    rw [← H1.out.2.2.2.2] at C3 ⊢
    have H2 := Lib.hid (And.intro (Grow.trans H1.out.1 ho2.frame) (And.intro ho2.frame hr2))
    clear ho2 hr2
    have e1 : (true == true) = true := rfl
    go_wp2_with fail
    refine C3.mono ?_
    clear C3
    rintro e w3 ⟨v3, rfl, ho3⟩
    obtain ⟨y3, c3, rfl, hr3, -⟩ := ho3.rs tyD
    have hwf : ∀ p ∈ x, WfP p := fun p hp => by unfold WfP; have := parsePk_names H1.out.2.2.1 p hp; omega
    have C4 := same_any hr3 (H2.out.2.2.below ho3.frame) hwf hwf
    rw [decide_eq_true rfl, ← H1.out.2.2.2.2] at C4
    rw [← H1.out.2.2.2.2]
    have H3 := Lib.hid (And.intro (Grow.trans H2.out.1 ho3.frame) (Grow.trans H2.out.2.1 ho3.frame))
    clear ho3 hr3 hwf
    go_wp2_with fail
    refine C4.mono ?_
    clear C4
    rintro e w4 ⟨rfl, hb4⟩
    have hg4 := Grow.trans H3.out.2 hb4
    have hr4 := H1.out.2.1.below hg4
    have hgw := Grow.trans H3.out.1 hb4
    have C5 := printPk_any hr4 (by have := H1.out.2.2.2.1; omega) (fun p hp => by have := parsePk_names H1.out.2.2.1 p hp; omega) (HH.out.2.2.2.1.below hgw)
    rw [← H1.out.2.2.2.2] at C5
    have H4 := Lib.hid hgw
    clear hb4 hg4 hr4 hgw H3 H2
    go_wp2_with fail
    refine C5.mono ?_
    clear C5
    rintro e w5 ⟨hp, -, hb5⟩
    obtain ⟨b5, c5, rfl, hs5, -⟩ := hp (parsePk_some H1.out.2.2.1).1
    rw [(parsePk_some H1.out.2.2.1).2] at hs5 ⊢
    have S5 := hs5.str
    have hgw := Grow.trans H4.out hb5
    have S6 := (HH.out.1.below hgw).str
    rw [HH.out.2.2.2.2.2] at S5 S6 ⊢
    change (convert 24 9 (.slice b5 k c5)).run Tryz.prog w5 = .ok (.string (strOf b2)) w5 at S5
    change (convert 24 9 (.slice a k cap)).run Tryz.prog w5 = .ok (.string (strOf b2)) w5 at S6
    rw [← HTB.out] at S5 S6
    have e2 : (TB.toList == TB.toList) = true := by simp
    have e3 : (TB.toList != TB.toList) = false := by simp
    have CF := few_any (HH.out.2.1.below hgw) HH.out.2.2.1
    rw [← HH.out.2.2.2.2.1] at CF
    have H5 := Lib.hid hgw
    clear hp hb5 hs5 hgw H4
    go_wp2_with fail
    have HX := H5
    clear H5 H1 S5 S6 e1 e2 e3
    refine CF.mono ?_
    clear CF
    rintro e w10 ⟨v10, rfl, ho10⟩
    obtain ⟨m, hmm⟩ : ∃ m, m = fewP l := ⟨_, rfl⟩
    have hml : m.length ≤ 40 := by rw [hmm]; exact fewP_len l
    have hmn : ∀ p ∈ m, p.name.length ≤ 250 := by rw [hmm]; exact fewP_name
    rw [← hmm] at ho10
    obtain ⟨am, cm, rfl, hrm, -⟩ := ho10.rs tyP
    have hg10 := Grow.trans HX.out ho10.frame
    have C6 := printPk_any hrm (by omega) (fun p hp => by have := hmn p hp; omega) (HH.out.2.2.2.1.below hg10)
    obtain ⟨nm, hnm⟩ : ∃ n, n = m.length := ⟨_, rfl⟩
    rw [← hnm] at C6 ⊢
    have HM := Lib.hid (And.intro hrm (And.intro hg10 (And.intro hml (And.intro hmn hnm))))
    clear ho10 hmm hml hmn hrm hg10 hnm HX
    by_cases hord : OrdP m
    · go_wp2_with fail
      refine C6.mono ?_
      clear C6
      rintro e w11 ⟨hp, -, hb11⟩
      obtain ⟨b11, c11, rfl, hs11, -⟩ := hp hord
      have hrm11 := HM.out.1.below hb11
      have C7 := as_any hrm11 (by have := HM.out.2.2.1; omega)
      rw [← HM.out.2.2.2.2] at C7
      obtain ⟨T, hT⟩ : ∃ T, T = textP m := ⟨_, rfl⟩
      have hTl : T.length ≤ 11680 := by
        have := textP_len 250 m HM.out.2.2.2.1
        have := HM.out.2.2.1
        rw [hT]; omega
      rw [← hT] at hs11 ⊢
      obtain ⟨nt, hnt⟩ : ∃ n, n = T.length := ⟨_, rfl⟩
      have H11 := Lib.hid (And.intro (Grow.trans HM.out.2.1 hb11) (And.intro hs11 (And.intro hrm11 (And.intro hT (And.intro hTl hnt)))))
      rw [← hnt]
      clear hp hb11 hs11 hrm11 hT hTl hnt
      go_wp2_with fail
      refine C7.mono ?_
      clear C7
      rintro e w12 ⟨v12, rfl, ho12⟩
      obtain ⟨a12, c12, rfl, hr12, -⟩ := ho12.rs tyD
      have C8 := refOrdered_any hr12 (by have := HM.out.2.2.1; omega) (fun p hp => by have := HM.out.2.2.2.1 p hp; omega)
      rw [← HM.out.2.2.2.2] at C8 ⊢
      have H12 := Lib.hid ho12.frame
      clear ho12 hr12
      go_wp2_with fail
      refine C8.mono ?_
      clear C8
      rintro e w13 ⟨r, rfl, hr, hb13⟩
      obtain rfl : r = true := hr.2 hord
      have hg13 := Grow.trans H12.out hb13
      have C9 := parsePk_any (H11.out.2.1.below hg13) (by have := H11.out.2.2.2.2.1; omega) (HH.out.2.2.2.1.below (Grow.trans H11.out.1 hg13))
      rw [← H11.out.2.2.2.2.2] at C9
      have H13 := Lib.hid hg13
      clear hr hb13 hg13
      go_wp2_with fail
      refine C9.mono ?_
      clear C9
      rintro e w14 hpost
      have hpost2 : ∃ v, e = .returned (.tuple #[v, .int .i64 0]) ∧ OwnR encP 21 88 w13 w14 v m := by
        have hpt : parsePk T = some m := by rw [H11.out.2.2.2.1]; exact parsePk_text hord
        rcases hpost with ⟨y, hy, v, rfl, ho⟩ | ⟨hy, -⟩
        · rw [hpt] at hy; injection hy with hy; subst hy; exact ⟨v, rfl, ho⟩
        · rw [hpt] at hy; cases hy
      clear hpost
      obtain ⟨v14, rfl, ho14⟩ := hpost2
      obtain ⟨a14, c14, rfl, hr14, -⟩ := ho14.rs tyP
      rw [← HM.out.2.2.2.2]
      have hg14 := Grow.trans H13.out ho14.frame
      have hgw := Grow.trans H11.out.1 hg14
      have hs14 := H11.out.2.1.below hg14
      have hrm14 := H11.out.2.2.1.below hg14
      have hm14 := HH.out.2.2.2.1.below hgw
      have H14 := Lib.hid (And.intro hgw (And.intro hs14 (And.intro hrm14 (And.intro hm14 hr14))))
      clear ho14 hr14 hg14 hgw hs14 hrm14 hm14
      go_upto_region 15 with (fail)
      have CK : ∀ y : Later w14, Calls Tryz.prog 9 #[] y.1 (fun e w' => e = .returned (.bool true) ∧ Below y.1.heap.size y.1 w') := fun y => known_any y.1 (H14.out.2.2.2.1.below y.2)
      have ST : ∀ y : Later w14, (convert 24 9 (.slice b11 nt c11)).run Tryz.prog y.1 = .ok (.string (strOf T)) y.1 := fun y => by
        have := (H14.out.2.1.below y.2).str
        rw [← H11.out.2.2.2.2.2] at this
        exact this
      refine wp_region_mg [(0, 0), (1, 0), (2, 0), (3, 0), (4, 0), (5, 0), (6, 0), (7, 0), (8, 0), (9, 1), (10, 0), (11, 0), (12, 0), (13, 0), (14, 0), (15, 0), (16, 0), (17, 0), (18, 0), (20, 0), (19, 1), (21, 1), (22, 0), (23, 0), (24, 0)] (by kernel_rfl) (by kernel_rfl) ?_
      refine mg_calm rfl (fun K hK => ?_)
      go_simp
      apply Exists.intro
      refine ⟨fun z => CK z, hK _ ?_⟩
      clear hK K CK
      iterate 8 (refine mg_calm rfl (fun K hK => ?_); go_simp; (refine hK _ ?_; clear hK K))
      clear ST
      refine mg_loud rfl rfl (fun w15 hw15 K hK => ?_)
      have CA := as_any (H14.out.2.2.1.below hw15) (by have := HM.out.2.2.1; omega)
      rw [← HM.out.2.2.2.2] at CA
      go_wp2_with fail
      refine CA.mono ?_
      clear CA
      rintro e w16 ⟨v16, rfl, ho16⟩
      have HF16 := Lib.hid ho16.frame
      obtain ⟨a16, c16, rfl, hr16, -⟩ := ho16.rs tyD
      have CP : ∀ y : Later w16, Calls Tryz.prog 19 #[.slice a16 m.length c16] y.1 (fun e w' => e = .returned (.string (strOf (textP m))) ∧ Below y.1.heap.size y.1 w') := fun y => refPrintPk_any (hr16.below y.2) (by have := HM.out.2.2.1; omega) (fun p hp => by have := HM.out.2.2.2.1 p hp; omega)
      rw [← HM.out.2.2.2.2, ← H11.out.2.2.2.1] at CP
      rw [← HM.out.2.2.2.2]
      have H16 := Lib.hid (Grow.trans hw15 ho16.frame)
      clear hw15 ho16 hr16
      go_wp2_with fail
      refine hK _ _ HF16.out ?_
      clear hK K
      obtain ⟨TT, hTT⟩ : ∃ t, t = strOf T := ⟨_, rfl⟩
      rw [← hTT] at CP ⊢
      clear hTT
      have eT : (TT.toList == TT.toList) = true := by simp
      refine mg_calm rfl (fun K hK => ?_)
      go_simp
      apply Exists.intro
      refine ⟨fun z => CP z, hK _ ?_⟩
      clear hK K CP
      iterate 9 (refine mg_calm rfl (fun K hK => ?_); go_simp; (refine hK _ ?_; clear hK K))
      refine mg_loud rfl rfl (fun w17 hw17 K hK => ?_)
      have hg17 := Grow.trans H16.out hw17
      have CA := as_any (H14.out.2.2.2.2.below hg17) (by have := HM.out.2.2.1; omega)
      rw [← HM.out.2.2.2.2] at CA
      go_wp2_with fail
      refine CA.mono ?_
      clear CA
      rintro e w18 ⟨v18, rfl, ho18⟩
      have HF18 := Lib.hid ho18.frame
      obtain ⟨a18, c18, rfl, hr18, -⟩ := ho18.rs tyD
      have H18 := Lib.hid (And.intro (Grow.trans hg17 ho18.frame) hr18)
      rw [← HM.out.2.2.2.2]
      clear hw17 hg17 ho18 hr18
      go_wp2_with fail
      refine hK _ _ HF18.out ?_
      clear hK K
      refine mg_loud rfl rfl (fun w19 hw19 K hK => ?_)
      have hg19 := Grow.trans H18.out.1 hw19
      have CA := as_any (H14.out.2.2.1.below hg19) (by have := HM.out.2.2.1; omega)
      rw [← HM.out.2.2.2.2] at CA
      go_wp2_with fail
      refine CA.mono ?_
      clear CA
      rintro e w20 ⟨v20, rfl, ho20⟩
      have HF20 := Lib.hid ho20.frame
      obtain ⟨a20, c20, rfl, hr20, -⟩ := ho20.rs tyD
      have hwf : ∀ p ∈ m, WfP p := fun p hp => by unfold WfP; have := HM.out.2.2.2.1 p hp; omega
      have hr18 := H18.out.2.below (Grow.trans hw19 ho20.frame)
      have CS : ∀ y : Later w20, Calls Tryz.prog 14 #[.slice a18 m.length c18, .slice a20 m.length c20] y.1 (fun e w' => e = .returned (.bool true) ∧ Below y.1.heap.size y.1 w') := fun y => by
        have := same_any (hr18.below y.2) (hr20.below y.2) hwf hwf
        rw [decide_eq_true rfl] at this
        exact this
      rw [← HM.out.2.2.2.2] at CS ⊢
      have H20 := Lib.hid (Grow.trans H14.out.1 (Grow.trans hg19 ho20.frame))
      clear hw19 hg19 ho20 hr20 hwf hr18
      go_wp2_with fail
      refine hK _ _ HF20.out ?_
      clear hK K
      refine mg_calm rfl (fun K hK => ?_)
      go_simp
      apply Exists.intro
      refine ⟨fun z => CS z, hK _ ?_⟩
      clear hK K CS
      iterate 2 (refine mg_calm rfl (fun K hK => ?_); go_simp; (refine hK _ ?_; clear hK K))
      refine mg_nil fun w21 hw21 => ?_
      have H21 := Lib.hid (Grow.trans H20.out hw21)
      clear hw21
      go_wp2_with fail
      go_ret
      exact ⟨rfl, H21.out⟩
    · go_wp2_with fail
      refine C6.mono ?_
      clear C6
      rintro e w11 ⟨-, hp, hb11⟩
      obtain rfl := hp hord
      have C7 := as_any (HM.out.1.below hb11) (by have := HM.out.2.2.1; omega)
      rw [← HM.out.2.2.2.2] at C7
      have H11 := Lib.hid (Grow.trans HM.out.2.1 hb11)
      clear hp hb11
      go_wp2_with fail
      refine C7.mono ?_
      clear C7
      rintro e w12 ⟨v12, rfl, ho12⟩
      obtain ⟨a12, c12, rfl, hr12, -⟩ := ho12.rs tyD
      have C8 := refOrdered_any hr12 (by have := HM.out.2.2.1; omega) (fun p hp => by have := HM.out.2.2.2.1 p hp; omega)
      rw [← HM.out.2.2.2.2] at C8 ⊢
      have H12 := Lib.hid (Grow.trans H11.out ho12.frame)
      clear ho12 hr12
      go_wp2_with fail
      refine C8.mono ?_
      clear C8
      rintro e w13 ⟨r, rfl, hr, hb13⟩
      obtain rfl : r = false := by cases r with | false => rfl | true => exact absurd (hr.1 rfl) hord
      have hg13 := Grow.trans H12.out hb13
      have CK := known_any w13 (HH.out.2.2.2.1.below hg13)
      have H13 := Lib.hid hg13
      clear hr hb13 hg13
      go_wp2_with fail
      refine CK.mono ?_
      clear CK
      rintro e w14 ⟨rfl, hb14⟩
      have H14 := Lib.hid (Grow.trans H13.out hb14)
      clear hb14
      go_wp2_with fail
      go_ret
      exact ⟨rfl, H14.out⟩
  · have ST := (HH.out.1.below hb1).str
    rw [HH.out.2.2.2.2.2] at ST
    change (convert 24 9 (.slice a k cap)).run Tryz.prog w1 = .ok (.string (strOf b2)) w1 at ST
    have Q2 := C2 w1
    obtain ⟨TB, hTB⟩ : ∃ T, T = strOf b2 := ⟨_, rfl⟩
    rw [← hTB] at ST Q2
    have H1 := Lib.hid hb1
    clear hb1 hTB C2
    go_wp2_with fail
    refine Q2.mono ?_
    clear Q2 ST
    rintro e w2 hpost
    have hpost2 : e = .returned (.tuple #[.slice none 0 0, .bool false]) ∧ Below w1.heap.size w1 w2 := by
      rcases hpost with ⟨y, hy, -⟩ | ⟨hy, rfl, hb⟩
      · rw [hpx] at hy; cases hy
      · exact ⟨rfl, hb⟩
    clear hpost
    obtain ⟨rfl, hb2⟩ := hpost2
    have C3 : Calls Tryz.prog 15 #[.slice none 0 0] w2 (fun e w' => ∃ v, e = .returned v ∧ OwnR encP 21 62 w2 w' v []) := as_any (l := []) (RsAt.nil w2) (by decide)
    have H2 := Lib.hid (Grow.trans H1.out hb2)
    clear hb2 H1
    go_wp2_with fail
    refine C3.mono ?_
    clear C3
    rintro e w3 ⟨v3, rfl, ho3⟩
    obtain ⟨y3, c3, rfl, hr3, -⟩ := ho3.rs tyD
    have C4 : Calls Tryz.prog 14 #[.slice y3 0 c3, .slice none 0 0] w3 (fun e w' => e = .returned (.bool true) ∧ Below w3.heap.size w3 w') := by
      have := same_any hr3 (RsAt.nil w3) (fun p hp => by simp at hp) (fun p hp => by simp at hp)
      rw [decide_eq_true rfl] at this
      exact this
    have H3 := Lib.hid (Grow.trans H2.out ho3.frame)
    clear ho3 hr3 H2
    go_wp2_with fail
    refine C4.mono ?_
    clear C4
    rintro e w4 ⟨rfl, hb4⟩
    have hgw := Grow.trans H3.out hb4
    have CF := few_any (HH.out.2.1.below hgw) HH.out.2.2.1
    rw [← HH.out.2.2.2.2.1] at CF
    have HX := Lib.hid hgw
    clear hb4 hgw H3
    go_wp2_with fail
    refine CF.mono ?_
    clear CF
    rintro e w10 ⟨v10, rfl, ho10⟩
    obtain ⟨m, hmm⟩ : ∃ m, m = fewP l := ⟨_, rfl⟩
    have hml : m.length ≤ 40 := by rw [hmm]; exact fewP_len l
    have hmn : ∀ p ∈ m, p.name.length ≤ 250 := by rw [hmm]; exact fewP_name
    rw [← hmm] at ho10
    obtain ⟨am, cm, rfl, hrm, -⟩ := ho10.rs tyP
    have hg10 := Grow.trans HX.out ho10.frame
    have C6 := printPk_any hrm (by omega) (fun p hp => by have := hmn p hp; omega) (HH.out.2.2.2.1.below hg10)
    obtain ⟨nm, hnm⟩ : ∃ n, n = m.length := ⟨_, rfl⟩
    rw [← hnm] at C6 ⊢
    have HM := Lib.hid (And.intro hrm (And.intro hg10 (And.intro hml (And.intro hmn hnm))))
    clear ho10 hmm hml hmn hrm hg10 hnm HX
    by_cases hord : OrdP m
    · go_wp2_with fail
      refine C6.mono ?_
      clear C6
      rintro e w11 ⟨hp, -, hb11⟩
      obtain ⟨b11, c11, rfl, hs11, -⟩ := hp hord
      have hrm11 := HM.out.1.below hb11
      have C7 := as_any hrm11 (by have := HM.out.2.2.1; omega)
      rw [← HM.out.2.2.2.2] at C7
      obtain ⟨T, hT⟩ : ∃ T, T = textP m := ⟨_, rfl⟩
      have hTl : T.length ≤ 11680 := by
        have := textP_len 250 m HM.out.2.2.2.1
        have := HM.out.2.2.1
        rw [hT]; omega
      rw [← hT] at hs11 ⊢
      obtain ⟨nt, hnt⟩ : ∃ n, n = T.length := ⟨_, rfl⟩
      have H11 := Lib.hid (And.intro (Grow.trans HM.out.2.1 hb11) (And.intro hs11 (And.intro hrm11 (And.intro hT (And.intro hTl hnt)))))
      rw [← hnt]
      clear hp hb11 hs11 hrm11 hT hTl hnt
      go_wp2_with fail
      refine C7.mono ?_
      clear C7
      rintro e w12 ⟨v12, rfl, ho12⟩
      obtain ⟨a12, c12, rfl, hr12, -⟩ := ho12.rs tyD
      have C8 := refOrdered_any hr12 (by have := HM.out.2.2.1; omega) (fun p hp => by have := HM.out.2.2.2.1 p hp; omega)
      rw [← HM.out.2.2.2.2] at C8 ⊢
      have H12 := Lib.hid ho12.frame
      clear ho12 hr12
      go_wp2_with fail
      refine C8.mono ?_
      clear C8
      rintro e w13 ⟨r, rfl, hr, hb13⟩
      obtain rfl : r = true := hr.2 hord
      have hg13 := Grow.trans H12.out hb13
      have C9 := parsePk_any (H11.out.2.1.below hg13) (by have := H11.out.2.2.2.2.1; omega) (HH.out.2.2.2.1.below (Grow.trans H11.out.1 hg13))
      rw [← H11.out.2.2.2.2.2] at C9
      have H13 := Lib.hid hg13
      clear hr hb13 hg13
      go_wp2_with fail
      refine C9.mono ?_
      clear C9
      rintro e w14 hpost
      have hpost2 : ∃ v, e = .returned (.tuple #[v, .int .i64 0]) ∧ OwnR encP 21 88 w13 w14 v m := by
        have hpt : parsePk T = some m := by rw [H11.out.2.2.2.1]; exact parsePk_text hord
        rcases hpost with ⟨y, hy, v, rfl, ho⟩ | ⟨hy, -⟩
        · rw [hpt] at hy; injection hy with hy; subst hy; exact ⟨v, rfl, ho⟩
        · rw [hpt] at hy; cases hy
      clear hpost
      obtain ⟨v14, rfl, ho14⟩ := hpost2
      obtain ⟨a14, c14, rfl, hr14, -⟩ := ho14.rs tyP
      rw [← HM.out.2.2.2.2]
      have hg14 := Grow.trans H13.out ho14.frame
      have hgw := Grow.trans H11.out.1 hg14
      have hs14 := H11.out.2.1.below hg14
      have hrm14 := H11.out.2.2.1.below hg14
      have hm14 := HH.out.2.2.2.1.below hgw
      have H14 := Lib.hid (And.intro hgw (And.intro hs14 (And.intro hrm14 (And.intro hm14 hr14))))
      clear ho14 hr14 hg14 hgw hs14 hrm14 hm14
      go_upto_region 15 with (fail)
      have CK : ∀ y : Later w14, Calls Tryz.prog 9 #[] y.1 (fun e w' => e = .returned (.bool true) ∧ Below y.1.heap.size y.1 w') := fun y => known_any y.1 (H14.out.2.2.2.1.below y.2)
      have ST : ∀ y : Later w14, (convert 24 9 (.slice b11 nt c11)).run Tryz.prog y.1 = .ok (.string (strOf T)) y.1 := fun y => by
        have := (H14.out.2.1.below y.2).str
        rw [← H11.out.2.2.2.2.2] at this
        exact this
      refine wp_region_mg [(0, 0), (1, 0), (2, 0), (3, 0), (4, 0), (5, 0), (6, 0), (7, 0), (8, 0), (9, 1), (10, 0), (11, 0), (12, 0), (13, 0), (14, 0), (15, 0), (16, 0), (17, 0), (18, 0), (20, 0), (19, 1), (21, 1), (22, 0), (23, 0), (24, 0)] (by kernel_rfl) (by kernel_rfl) ?_
      refine mg_calm rfl (fun K hK => ?_)
      go_simp
      apply Exists.intro
      refine ⟨fun z => CK z, hK _ ?_⟩
      clear hK K CK
      iterate 8 (refine mg_calm rfl (fun K hK => ?_); go_simp; (refine hK _ ?_; clear hK K))
      clear ST
      refine mg_loud rfl rfl (fun w15 hw15 K hK => ?_)
      have CA := as_any (H14.out.2.2.1.below hw15) (by have := HM.out.2.2.1; omega)
      rw [← HM.out.2.2.2.2] at CA
      go_wp2_with fail
      refine CA.mono ?_
      clear CA
      rintro e w16 ⟨v16, rfl, ho16⟩
      have HF16 := Lib.hid ho16.frame
      obtain ⟨a16, c16, rfl, hr16, -⟩ := ho16.rs tyD
      have CP : ∀ y : Later w16, Calls Tryz.prog 19 #[.slice a16 m.length c16] y.1 (fun e w' => e = .returned (.string (strOf (textP m))) ∧ Below y.1.heap.size y.1 w') := fun y => refPrintPk_any (hr16.below y.2) (by have := HM.out.2.2.1; omega) (fun p hp => by have := HM.out.2.2.2.1 p hp; omega)
      rw [← HM.out.2.2.2.2, ← H11.out.2.2.2.1] at CP
      rw [← HM.out.2.2.2.2]
      have H16 := Lib.hid (Grow.trans hw15 ho16.frame)
      clear hw15 ho16 hr16
      go_wp2_with fail
      refine hK _ _ HF16.out ?_
      clear hK K
      obtain ⟨TT, hTT⟩ : ∃ t, t = strOf T := ⟨_, rfl⟩
      rw [← hTT] at CP ⊢
      clear hTT
      have eT : (TT.toList == TT.toList) = true := by simp
      refine mg_calm rfl (fun K hK => ?_)
      go_simp
      apply Exists.intro
      refine ⟨fun z => CP z, hK _ ?_⟩
      clear hK K CP
      iterate 9 (refine mg_calm rfl (fun K hK => ?_); go_simp; (refine hK _ ?_; clear hK K))
      refine mg_loud rfl rfl (fun w17 hw17 K hK => ?_)
      have hg17 := Grow.trans H16.out hw17
      have CA := as_any (H14.out.2.2.2.2.below hg17) (by have := HM.out.2.2.1; omega)
      rw [← HM.out.2.2.2.2] at CA
      go_wp2_with fail
      refine CA.mono ?_
      clear CA
      rintro e w18 ⟨v18, rfl, ho18⟩
      have HF18 := Lib.hid ho18.frame
      obtain ⟨a18, c18, rfl, hr18, -⟩ := ho18.rs tyD
      have H18 := Lib.hid (And.intro (Grow.trans hg17 ho18.frame) hr18)
      rw [← HM.out.2.2.2.2]
      clear hw17 hg17 ho18 hr18
      go_wp2_with fail
      refine hK _ _ HF18.out ?_
      clear hK K
      refine mg_loud rfl rfl (fun w19 hw19 K hK => ?_)
      have hg19 := Grow.trans H18.out.1 hw19
      have CA := as_any (H14.out.2.2.1.below hg19) (by have := HM.out.2.2.1; omega)
      rw [← HM.out.2.2.2.2] at CA
      go_wp2_with fail
      refine CA.mono ?_
      clear CA
      rintro e w20 ⟨v20, rfl, ho20⟩
      have HF20 := Lib.hid ho20.frame
      obtain ⟨a20, c20, rfl, hr20, -⟩ := ho20.rs tyD
      have hwf : ∀ p ∈ m, WfP p := fun p hp => by unfold WfP; have := HM.out.2.2.2.1 p hp; omega
      have hr18 := H18.out.2.below (Grow.trans hw19 ho20.frame)
      have CS : ∀ y : Later w20, Calls Tryz.prog 14 #[.slice a18 m.length c18, .slice a20 m.length c20] y.1 (fun e w' => e = .returned (.bool true) ∧ Below y.1.heap.size y.1 w') := fun y => by
        have := same_any (hr18.below y.2) (hr20.below y.2) hwf hwf
        rw [decide_eq_true rfl] at this
        exact this
      rw [← HM.out.2.2.2.2] at CS ⊢
      have H20 := Lib.hid (Grow.trans H14.out.1 (Grow.trans hg19 ho20.frame))
      clear hw19 hg19 ho20 hr20 hwf hr18
      go_wp2_with fail
      refine hK _ _ HF20.out ?_
      clear hK K
      refine mg_calm rfl (fun K hK => ?_)
      go_simp
      apply Exists.intro
      refine ⟨fun z => CS z, hK _ ?_⟩
      clear hK K CS
      iterate 2 (refine mg_calm rfl (fun K hK => ?_); go_simp; (refine hK _ ?_; clear hK K))
      refine mg_nil fun w21 hw21 => ?_
      have H21 := Lib.hid (Grow.trans H20.out hw21)
      clear hw21
      go_wp2_with fail
      go_ret
      exact ⟨rfl, H21.out⟩
    · go_wp2_with fail
      refine C6.mono ?_
      clear C6
      rintro e w11 ⟨-, hp, hb11⟩
      obtain rfl := hp hord
      have C7 := as_any (HM.out.1.below hb11) (by have := HM.out.2.2.1; omega)
      rw [← HM.out.2.2.2.2] at C7
      have H11 := Lib.hid (Grow.trans HM.out.2.1 hb11)
      clear hp hb11
      go_wp2_with fail
      refine C7.mono ?_
      clear C7
      rintro e w12 ⟨v12, rfl, ho12⟩
      obtain ⟨a12, c12, rfl, hr12, -⟩ := ho12.rs tyD
      have C8 := refOrdered_any hr12 (by have := HM.out.2.2.1; omega) (fun p hp => by have := HM.out.2.2.2.1 p hp; omega)
      rw [← HM.out.2.2.2.2] at C8 ⊢
      have H12 := Lib.hid (Grow.trans H11.out ho12.frame)
      clear ho12 hr12
      go_wp2_with fail
      refine C8.mono ?_
      clear C8
      rintro e w13 ⟨r, rfl, hr, hb13⟩
      obtain rfl : r = false := by cases r with | false => rfl | true => exact absurd (hr.1 rfl) hord
      have hg13 := Grow.trans H12.out hb13
      have CK := known_any w13 (HH.out.2.2.2.1.below hg13)
      have H13 := Lib.hid hg13
      clear hr hb13 hg13
      go_wp2_with fail
      refine CK.mono ?_
      clear CK
      rintro e w14 ⟨rfl, hb14⟩
      have H14 := Lib.hid (Grow.trans H13.out hb14)
      clear hb14
      go_wp2_with fail
      go_ret
      exact ⟨rfl, H14.out⟩

theorem refsPacked_walk (a0 : Option Addr) (len0 cap0 : Nat) (z0 : List Int) (a1 : Option Addr) (len1 cap1 : Nat) (g1 : List RefP) (W : World) (h0 : RowIn W a0 len0 cap0 z0) (hl1 : g1.length = len1) (h1 : RsAt encP 21 W a1 cap1 g1) (hx1 : ∀ p ∈ g1, p.name.length ≤ 9223372036854775807) (hm : MaxIs W) :
    Calls Tryz.prog 4 #[.slice a0 len0 cap0, .slice a1 len1 cap1] W fun e w' => e = .returned (.bool true) ∧ Below W.heap.size W w' := by
  subst hl1
  obtain ⟨L, rfl, hL⟩ := open_sl h0
  exact refsPacked_at hL h1 hx1 hm
end Go.Proofs.YtponfkfeflnilaaGreatDoor
