/-
  The law MarksTexts: the walk.
-/
import Derived.Test.YtnlkanhakmkejaaRefParse24
import Derived.Test.YtnlkanhakmkejaaRefPrint24
import Derived.Test.YtnlkanhakmkejaaMarksNum
namespace Go.Proofs.Ytnlkanhakmkejaa
open Go.RowKit Go.Mix Go.WideMaps Go.Proofs

theorem parseO_len (s : List UInt8) : (parseO s).1.length ≤ s.length := by
  by_cases h : ∃ l, s = textL l
  · obtain ⟨l, hl⟩ := h
    obtain ⟨h1, h2⟩ := parseO_text hl
    have hn := congrArg List.length hl
    rw [textL_len] at hn
    by_cases hr : Rt l
    · rw [h1 hr]; show l.length ≤ _; omega
    · rw [h2 hr]; simp
  · rw [parseO_none fun l hl => h ⟨l, hl⟩]; simp

set_option maxRecDepth 100000 in
set_option maxHeartbeats 8000000 in
theorem marksTexts_at {w : World} {l : List Pr} {a : Option Addr} {cap : Nat} (hg : PsAt w a cap l) {b : List UInt8} {ba : Option Addr} {bc : Nat} (hbs : Sl w ba bc b) :
    Calls Try.prog 5 #[.slice a l.length cap, .slice ba b.length bc] w fun e w' => e = .returned (.bool true) ∧ Below w.heap.size w w' := by
  have CF := few_any hg
  obtain ⟨m, hm⟩ : ∃ m, m = l.take 40 := ⟨_, rfl⟩
  have hm40 : m.length ≤ 40 := by rw [hm, List.length_take]; omega
  have HM := Lib.hid hm40
  rw [← hm] at CF
  generalize l.length = n0 at *
  obtain ⟨bq, hbq⟩ : ∃ q, q = min b.length 3000 := ⟨_, rfl⟩
  have hmin := min_run (b.length : Int) 3000 bq (by split <;> omega)
  obtain ⟨b2, hb2, hb2l, hsb, hb1⟩ := hbs.to (bq : Int) bq rfl (by omega)
  have HSB := Lib.hid hsb
  have HBL := Lib.hid hb2l
  have hbq3 : bq ≤ 3000 := by omega
  generalize b.length = bn at *
  clear hm hm40 hg hbs hb2 hb2l hsb hbq
  go_enter Try.func5, Try.ntmps5
  go_wp2_with fail
  refine CF.mono ?_
  rintro e w2 ⟨v, rfl, ho⟩
  obtain ⟨am, cm, rfl, hps⟩ := ho.ps
  have HF2 := Lib.hid ho.frame
  have HPS := Lib.hid hps
  have C2 := print_any hps (by have := HM.out; omega)
  obtain ⟨n, hn⟩ : ∃ n, n = m.length := ⟨_, rfl⟩
  have HN := Lib.hid hn
  have hn40 : n ≤ 40 := by rw [hn]; exact HM.out
  rw [← hn] at C2 ⊢
  clear CF ho hps hn
  by_cases hR : Rt m
  · go_wp2_with fail
    refine C2.mono ?_
    rintro e w3 ⟨hyes, -, hb3⟩
    obtain ⟨pb, pc, rfl, hsp⟩ := hyes hR
    have hb3' := HF2.out.trans (hb3.mono HF2.out.size)
    have C3 := as_any (HPS.out.below hb3) (by have := HM.out; omega)
    rw [← HN.out] at C3
    have HB3 := Lib.hid (And.intro hb3 hb3')
    have HSP := Lib.hid hsp
    obtain ⟨np, hnp⟩ : ∃ x, x = 82 * n := ⟨_, rfl⟩
    have HNP := Lib.hid hnp
    rw [← hnp]
    clear C2 hb3 hb3' hyes hsp hnp
    go_wp2_with fail
    refine C3.mono ?_
    rintro e w4 ⟨v4, rfl, ho4⟩
    obtain ⟨a4, c4, rfl, hp4⟩ := ho4.ps
    have C4 := refRight_any hp4
    rw [← HN.out] at C4 ⊢
    have HB4 := Lib.hid (And.intro (HB3.out.1.trans (ho4.frame.mono HB3.out.1.size)) (And.intro (HB3.out.2.trans (ho4.frame.mono HB3.out.2.size)) (HSP.out.below ho4.frame)))
    clear C3 ho4 hp4
    go_wp2_with fail
    refine C4.mono ?_
    rintro e w5 ⟨r, rfl, hr, hb5⟩
    obtain rfl : r = true := hr.2 hR
    have hsp5 := HB4.out.2.2.below hb5
    have C5 := parse_any hsp5 (by rw [textL_len]; have := HM.out; omega)
    have hpo := (parseO_text (s := textL m) rfl).1 hR
    rw [hpo, textL_len, ← HN.out, ← HNP.out] at C5
    have HB5 := Lib.hid (And.intro (HB4.out.1.trans (hb5.mono HB4.out.1.size)) (And.intro (HB4.out.2.1.trans (hb5.mono HB4.out.2.1.size)) hsp5))
    clear C4 hr hb5 hsp5 hpo
    go_wp2_with fail
    refine C5.mono ?_
    rintro e w6 ⟨v6, rfl, ho6⟩
    have hb6a := HB5.out.1.trans (ho6.frame.mono HB5.out.1.size)
    have hb6 := HB5.out.2.1.trans (ho6.frame.mono HB5.out.2.1.size)
    have hsp6 := HB5.out.2.2.below ho6.frame
    have hps6 := HPS.out.below hb6a
    obtain ⟨a6, c6, rfl, hp6⟩ := ho6.ps
    obtain ⟨T, hT⟩ : ∃ x, x = strOf (textL m) := ⟨_, rfl⟩
    have ST : ∀ y : Later w6, (convert 39 9 (.slice pb np pc)).run Try.prog y.1 = .ok (.string T) y.1 := fun y => by
      have := (hsp6.below y.2).str
      rw [textL_len, ← HN.out, ← HNP.out] at this
      rw [hT]; exact this
    have CA : ∀ W, Grow w6 W → _ := fun W (g : Below w6.heap.size w6 W) => as_any (hps6.below g) (by have := HM.out; omega)
    have CX : ∀ W, Grow w6 W → _ := fun W (g : Below w6.heap.size w6 W) => as_any (hp6.below g) (by have := HM.out; omega)
    rw [← HN.out] at CA CX ⊢
    have HT := Lib.hid hT
    have HB6 := Lib.hid hb6
    clear C5 ho6 hb6a hb6 hsp6 hps6 hp6 hT
    go_upto_region 5 with (fail)
    refine wp_region_mix [(0, 0), (1, 0), (2, 0), (3, 0), (4, 0), (5, 0), (6, 1), (7, 0), (8, 0), (9, 0), (10, 0), (11, 0), (12, 0), (13, 0), (14, 0), (15, 0), (17, 0), (16, 1), (18, 1), (19, 0), (20, 0), (21, 0)] (by kernel_rfl) (by kernel_rfl) ?_
    iterate 6 (refine mix_calm rfl (fun K hK => ?_); go_simp; (refine hK _ ?_; clear hK K))
    refine mix_loud rfl rfl (fun w8 hw8 K hK => ?_)
    have C := CA w8 hw8
    go_wp2_with fail
    refine C.mono ?_
    rintro e w9 ⟨v9, rfl, ho9⟩
    obtain ⟨a9, c9, rfl, hp9⟩ := ho9.ps
    rw [← HN.out]
    go_wp2_with fail
    refine hK _ _ ho9.frame ?_
    have g9 := Grow.trans hw8 ho9.frame
    have CP : ∀ y : Later w9, Calls Try.prog 17 #[.slice a9 n c9] y.1 fun e w' => e = .returned (.string T) ∧ Below y.1.heap.size y.1 w' := fun y => by
      have := refPrint_any (hp9.below y.2) (by have := HM.out; omega)
      rw [← HN.out, ← HT.out] at this
      exact this
    have HG9 := Lib.hid g9
    clear hK K C ho9 hp9 hw8 g9
    refine mix_calm rfl (fun K hK => ?_)
    go_simp
    apply Exists.intro
    refine ⟨fun y => CP y, hK _ ?_⟩
    clear hK K CP ST
    iterate 9 (refine mix_calm rfl (fun K hK => ?_); go_simp; (refine hK _ ?_; clear hK K))
    refine mix_loud rfl rfl (fun w10 hw10 K hK => ?_)
    have C := CX w10 (Grow.trans HG9.out hw10)
    go_wp2_with fail
    refine C.mono ?_
    rintro e w11 ⟨v11, rfl, ho11⟩
    obtain ⟨a11, c11, rfl, hp11⟩ := ho11.ps
    rw [← HN.out]
    go_wp2_with fail
    refine hK _ _ ho11.frame ?_
    have HG11 := Lib.hid (Grow.trans (Grow.trans HG9.out hw10) ho11.frame)
    clear hK K C ho11 hw10
    refine mix_loud rfl rfl (fun w12 hw12 K hK => ?_)
    have C := CA w12 (Grow.trans HG11.out hw12)
    go_wp2_with fail
    refine C.mono ?_
    rintro e w13 ⟨v13, rfl, ho13⟩
    obtain ⟨a13, c13, rfl, hp13⟩ := ho13.ps
    rw [← HN.out]
    go_wp2_with fail
    refine hK _ _ ho13.frame ?_
    have hp11' := (hp11.below hw12).below ho13.frame
    have CS : ∀ y : Later w13, Calls Try.prog 10 #[.slice a11 n c11, .slice a13 n c13] y.1 fun e w' => e = .returned (.bool true) ∧ Below y.1.heap.size y.1 w' := fun y => by
      have := same_any (hp11'.below y.2) (hp13.below y.2)
      rw [decide_eq_true rfl, ← HN.out] at this
      exact this
    have HG13 := Lib.hid (Grow.trans (Grow.trans HG11.out hw12) ho13.frame)
    clear hK K C ho13 hw12 hp11 hp13 hp11' CA CX
    refine mix_calm rfl (fun K hK => ?_)
    go_simp
    apply Exists.intro
    refine ⟨fun y => CS y, hK _ ?_⟩
    clear hK K CS
    iterate 2 (refine mix_calm rfl (fun K hK => ?_); go_simp; (refine hK _ ?_; clear hK K))
    refine mix_nil fun w14 hw14 => ?_
    have HB14 := Lib.hid (HB6.out.trans (Below.mono (Grow.trans HG13.out hw14) HB6.out.size))
    clear hw14
    have hsb3 := HSB.out.below (HB14.out.mono (Nat.le_refl _))
    have C10 := parse_any hsb3 (by rw [HBL.out]; omega)
    have ST := hsb3.str
    obtain ⟨pl, hpl⟩ : ∃ x, x = (parseO b2).1 := ⟨_, rfl⟩
    obtain ⟨pe, hpe⟩ : ∃ x, x = (parseO b2).2 := ⟨_, rfl⟩
    have hplen := parseO_len b2
    rw [← hpl] at hplen
    rw [← hpl, ← hpe, HBL.out] at C10
    have HP := Lib.hid (And.intro hpl hpe)
    have HPL := Lib.hid hplen
    rw [HBL.out] at hb1
    clear hpl hpe hplen hsb3 ST
    go_wp2_with fail
    refine C10.mono ?_
    rintro e w20 ⟨v20, rfl, ho20⟩
    have hb20 := HB14.out.trans (ho20.frame.mono HB14.out.size)
    have ST := (HSB.out.below hb20).str
    rw [HBL.out] at ST
    change (convert 39 9 (.slice ba bq bc)).run Try.prog w20 = .ok (.string (strOf b2)) w20 at ST
    have C11 := refParse24_any b2 (by rw [HBL.out]; omega) w20
    rw [← HP.out.1, ← HP.out.2] at C11
    obtain ⟨S2, hS2⟩ : ∃ x, x = strOf b2 := ⟨_, rfl⟩
    rw [← hS2] at ST C11
    have HO20 := Lib.hid (And.intro ho20 hb20)
    clear C10 ho20 hb20 hS2
    go_wp2_with fail
    refine C11.mono ?_
    rintro e w21 ⟨v21, rfl, ho21⟩
    have hb21 := HO20.out.2.trans (ho21.frame.mono HO20.out.2.size)
    have HO21 := Lib.hid (And.intro ho21 hb21)
    clear C11 ho21 hb21 ST
    go_wp2_with fail
    refine (known_any _).mono ?_
    rintro e w22 ⟨rfl, hb22⟩
    have ho20' := (HO20.out.1.later HO21.out.1.frame).later hb22
    have hb22' := HO21.out.2.trans (hb22.mono HO21.out.2.size)
    have ho21' := HO21.out.1.later hb22
    obtain ⟨a20, c20, rfl, hp20⟩ := ho20'.ps
    obtain ⟨a21, c21, rfl, hp21⟩ := ho21'.ps
    have C23 := as_any hp20 (by have := HPL.out; have := HBL.out; omega)
    obtain ⟨pn, hpn⟩ : ∃ x, x = pl.length := ⟨_, rfl⟩
    have HPN := Lib.hid hpn
    have HP21 := Lib.hid hp21
    have HB22 := Lib.hid hb22'
    rw [← hpn] at C23 ⊢
    have EQ : ((pe : Int) == pe) = true := by simp
    clear ho20' ho21' hp20 hp21 hb22 hb22' hpn
    go_wp2_with fail
    refine C23.mono ?_
    rintro e w23 ⟨v23, rfl, ho23⟩
    obtain ⟨a23, c23, rfl, hp23⟩ := ho23.ps
    have C24 := same_any hp23 (HP21.out.below ho23.frame)
    rw [decide_eq_true rfl, ← HPN.out] at C24
    rw [← HPN.out]
    have HB23 := Lib.hid (HB22.out.trans (ho23.frame.mono HB22.out.size))
    clear C23 ho23 hp23
    go_wp2_with fail
    refine C24.mono ?_
    rintro e w24 ⟨rfl, hb24⟩
    have HB24 := Lib.hid (HB23.out.trans (hb24.mono HB23.out.size))
    clear C24 hb24
    go_wp2_with fail
    go_ret
    exact ⟨rfl, HB24.out⟩
  · go_wp2_with fail
    refine C2.mono ?_
    rintro e w3 ⟨-, hno, hb3⟩
    obtain rfl := hno hR
    have hb3' := HF2.out.trans (hb3.mono HF2.out.size)
    have C3 := as_any (HPS.out.below hb3) (by have := HM.out; omega)
    rw [← HN.out] at C3
    have HB3 := Lib.hid hb3'
    clear C2 hb3 hb3' hno
    go_wp2_with fail
    refine C3.mono ?_
    rintro e w4 ⟨v4, rfl, ho4⟩
    obtain ⟨a4, c4, rfl, hp4⟩ := ho4.ps
    have C4 := refRight_any hp4
    rw [← HN.out] at C4 ⊢
    have HB4 := Lib.hid (HB3.out.trans (ho4.frame.mono HB3.out.size))
    clear C3 ho4 hp4
    go_wp2_with fail
    refine C4.mono ?_
    rintro e w5 ⟨r, rfl, hr, hb5⟩
    obtain rfl : r = false := by cases r with | false => rfl | true => exact absurd (hr.1 rfl) hR
    have HB14 := Lib.hid (HB4.out.trans (hb5.mono HB4.out.size))
    clear C4 hr hb5
    have hsb3 := HSB.out.below (HB14.out.mono (Nat.le_refl _))
    have C10 := parse_any hsb3 (by rw [HBL.out]; omega)
    have ST := hsb3.str
    obtain ⟨pl, hpl⟩ : ∃ x, x = (parseO b2).1 := ⟨_, rfl⟩
    obtain ⟨pe, hpe⟩ : ∃ x, x = (parseO b2).2 := ⟨_, rfl⟩
    have hplen := parseO_len b2
    rw [← hpl] at hplen
    rw [← hpl, ← hpe, HBL.out] at C10
    have HP := Lib.hid (And.intro hpl hpe)
    have HPL := Lib.hid hplen
    rw [HBL.out] at hb1
    clear hpl hpe hplen hsb3 ST
    go_wp2_with fail
    refine C10.mono ?_
    rintro e w20 ⟨v20, rfl, ho20⟩
    have hb20 := HB14.out.trans (ho20.frame.mono HB14.out.size)
    have ST := (HSB.out.below hb20).str
    rw [HBL.out] at ST
    change (convert 39 9 (.slice ba bq bc)).run Try.prog w20 = .ok (.string (strOf b2)) w20 at ST
    have C11 := refParse24_any b2 (by rw [HBL.out]; omega) w20
    rw [← HP.out.1, ← HP.out.2] at C11
    obtain ⟨S2, hS2⟩ : ∃ x, x = strOf b2 := ⟨_, rfl⟩
    rw [← hS2] at ST C11
    have HO20 := Lib.hid (And.intro ho20 hb20)
    clear C10 ho20 hb20 hS2
    go_wp2_with fail
    refine C11.mono ?_
    rintro e w21 ⟨v21, rfl, ho21⟩
    have hb21 := HO20.out.2.trans (ho21.frame.mono HO20.out.2.size)
    have HO21 := Lib.hid (And.intro ho21 hb21)
    clear C11 ho21 hb21 ST
    go_wp2_with fail
    refine (known_any _).mono ?_
    rintro e w22 ⟨rfl, hb22⟩
    have ho20' := (HO20.out.1.later HO21.out.1.frame).later hb22
    have hb22' := HO21.out.2.trans (hb22.mono HO21.out.2.size)
    have ho21' := HO21.out.1.later hb22
    obtain ⟨a20, c20, rfl, hp20⟩ := ho20'.ps
    obtain ⟨a21, c21, rfl, hp21⟩ := ho21'.ps
    have C23 := as_any hp20 (by have := HPL.out; have := HBL.out; omega)
    obtain ⟨pn, hpn⟩ : ∃ x, x = pl.length := ⟨_, rfl⟩
    have HPN := Lib.hid hpn
    have HP21 := Lib.hid hp21
    have HB22 := Lib.hid hb22'
    rw [← hpn] at C23 ⊢
    have EQ : ((pe : Int) == pe) = true := by simp
    clear ho20' ho21' hp20 hp21 hb22 hb22' hpn
    go_wp2_with fail
    refine C23.mono ?_
    rintro e w23 ⟨v23, rfl, ho23⟩
    obtain ⟨a23, c23, rfl, hp23⟩ := ho23.ps
    have C24 := same_any hp23 (HP21.out.below ho23.frame)
    rw [decide_eq_true rfl, ← HPN.out] at C24
    rw [← HPN.out]
    have HB23 := Lib.hid (HB22.out.trans (ho23.frame.mono HB22.out.size))
    clear C23 ho23 hp23
    go_wp2_with fail
    refine C24.mono ?_
    rintro e w24 ⟨rfl, hb24⟩
    have HB24 := Lib.hid (HB23.out.trans (hb24.mono HB23.out.size))
    clear C24 hb24
    go_wp2_with fail
    go_ret
    exact ⟨rfl, HB24.out⟩

theorem marksTexts_walk (a : Option Addr) (len cap : Nat) (l : List Pr) (ba : Option Addr) (blen bcap : Nat) (zs : List Int) (W : World) (hl : l.length = len) (hw : PsAt W a cap l) (hb : RowIn W ba blen bcap zs) :
    Calls Try.prog 5 #[.slice a len cap, .slice ba blen bcap] W fun e w' => e = .returned (.bool true) ∧ Below W.heap.size W w' := by
  subst hl
  obtain ⟨L, rfl, hL⟩ := open_sl hb
  exact marksTexts_at hw hL
end Go.Proofs.Ytnlkanhakmkejaa
