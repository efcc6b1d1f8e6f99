/-
  The law ManifestPrints, walked.
-/
import Derived.Test.YtifoledkmjlmoaaDoorManifestBackWalk
namespace Go.Proofs.YtifoledkmjlmoaaDoor
open Go.RowKit Go.Mix Go.WideMaps

set_option maxRecDepth 100000 in
set_option maxHeartbeats 4000000 in
theorem manifestPrints_walk (a1 : Option Addr) (len1 cap1 : Nat) (l : List MFile) (w : World)
    (hl1 : l.length = len1) (h1 : RsAt encM 22 w a1 cap1 l) (hx1 : ∀ p ∈ l, p.path.length ≤ 9223372036854775807 ∧ p.flag.length ≤ 9223372036854775807) :
    Calls Tryd.prog 3 #[.slice a1 len1 cap1] w fun e w' => e = .returned (.bool true) ∧ Below w.heap.size w w' := by
  have CK := fun W => known_any W
  have CF := few_any h1 hx1
  rw [hl1] at CF
  clear hl1 h1 hx1
  have HF := Lib.hid (And.intro (few_ok l) (And.intro (few_wf l) (few_text l)))
  generalize fewL l = A at *
  go_enter Tryd.func3, Tryd.ntmps3
  go_wp2_with fail
  refine CF.mono ?_
  clear CF
  rintro e w1 ⟨v, rfl, hown⟩
  obtain ⟨v1, c1, rfl, hrs, -⟩ := hown.rs tyM
  have CA := as_any hrs (by have := HF.out.1.1; omega)
  have H1 := Lib.hid (And.intro hown.frame hrs)
  clear hown hrs
  obtain ⟨m, hm⟩ : ∃ m, m = A.length := ⟨_, rfl⟩
  have HM := Lib.hid hm
  rw [← hm] at CA ⊢
  clear hm
  go_wp2_with fail
  refine CA.mono ?_
  clear CA
  rintro e w2 ⟨v, rfl, hown⟩
  obtain ⟨v2, c2, rfl, hrs2, -⟩ := hown.rs tyN
  have CP := print_any (H1.out.2.below hown.frame) (by have := HF.out.1.1; omega) (fun p hp => by have := HF.out.1.2 p hp; omega)
  have H2 := Lib.hid (And.intro (H1.out.1.trans (hown.frame.mono H1.out.1.size)) (And.intro (H1.out.2.below hown.frame) hrs2))
  clear hown hrs2
  rw [← HM.out] at CP ⊢
  go_wp2_with fail
  refine CP.mono ?_
  clear CP
  rintro e w3 ⟨hyes, hno, hw3⟩
  have CR := refRight_any (H2.out.2.2.below hw3) (by have := HF.out.1.1; omega) (fun p hp => by have := HF.out.1.2 p hp; omega)
  rw [← HM.out] at CR
  have H3 := Lib.hid (And.intro (H2.out.1.trans (hw3.mono H2.out.1.size)) (And.intro (H2.out.2.1.below hw3) (H2.out.2.2.below hw3)))
  clear hw3
  by_cases hR : RightM A
  · obtain ⟨bp, cp, rfl, hsp⟩ := hyes hR
    have HR := Lib.hid (And.intro hR hsp)
    clear hyes hno hR hsp
    obtain ⟨k, hk⟩ : ∃ k, k = (textM A).length := ⟨_, rfl⟩
    have HK := Lib.hid hk
    rw [← hk]
    clear hk
    go_wp2_with fail
    refine CR.mono ?_
    clear CR
    rintro e w4 ⟨r, rfl, hr, hw4⟩
    obtain rfl : r = true := hr.2 HR.out.1
    have CPR : Hid (∀ W, Below w4.heap.size w4 W → Calls Tryd.prog 13 #[.slice v2 m c2] W fun e w' => e = .returned (.string (strOf (textM A))) ∧ Below W.heap.size W w') := Lib.hid fun W hW => by
      have := refPrint_any (H3.out.2.2.below (hw4.trans (hW.mono hw4.size))) (by have := HF.out.1.1; omega) (fun p hp => by have := HF.out.1.2 p hp; omega)
      rw [← HM.out] at this
      exact this
    have ST : ∀ y : Later w4, (convert 26 9 (.slice bp k cp)).run Tryd.prog y.1 = .ok (.string (strOf (textM A))) y.1 := fun y => by
      have := (HR.out.2.below (hw4.trans (y.2.mono hw4.size))).str
      rw [← HK.out] at this
      exact this
    have H4 := Lib.hid (And.intro (H3.out.1.trans (hw4.mono H3.out.1.size)) (And.intro (H3.out.2.1.below hw4) (H3.out.2.2.below hw4)))
    have E1 : ((strOf (textM A)).toList == (strOf (textM A)).toList) = true := beq_self_eq_true _
    clear hr hw4
    generalize strOf (textM A) = TT at *
    go_upto_region 6 with (fail)
    refine wp_region_mg [(0, 0), (1, 0), (2, 0), (3, 0), (4, 0), (5, 0), (6, 0), (7, 0), (8, 0), (9, 0), (10, 0), (11, 0), (12, 0), (13, 0), (15, 0), (14, 1), (16, 1), (17, 0), (18, 0)] (by kernel_rfl) (by kernel_rfl) ?_
    refine mg_calm rfl (fun K hK => ?_)
    go_simp
    apply Exists.intro
    refine ⟨fun x => known_any x.1, hK _ ?_⟩
    clear hK K
    iterate 8 (refine mg_calm rfl (fun K hK => ?_); go_simp; (refine hK _ ?_; clear hK K))
    refine mg_calm rfl (fun K hK => ?_)
    go_simp
    apply Exists.intro
    refine ⟨fun x => CPR.out x.1 x.2, hK _ ?_⟩
    clear hK K
    iterate 5 (refine mg_calm rfl (fun K hK => ?_); go_simp; (refine hK _ ?_; clear hK K))
    refine mg_loud rfl rfl (fun w5 hw5 K hK => ?_)
    have CA := as_any (H4.out.2.1.below hw5) (by have := HF.out.1.1; omega)
    rw [← HM.out] at CA
    go_wp2_with fail
    refine CA.mono ?_
    clear CA
    rintro e w6 ⟨v6, rfl, hown⟩
    obtain ⟨v6, c6, rfl, hrs6, -⟩ := hown.rs tyN
    rw [← HM.out]
    have g6 := Below.trans hw5 (hown.frame.mono hw5.size)
    have H6 := Lib.hid (And.intro (H4.out.1.trans (Below.mono g6 H4.out.1.size)) (And.intro (H4.out.2.2.below g6) hrs6))
    have HF6 := Lib.hid hown.frame
    clear hown hrs6 hw5 g6 ST
    go_wp2_with fail
    refine hK _ _ HF6.out ?_
    clear hK K
    refine mg_loud rfl rfl (fun w7 hw7 K hK => ?_)
    have CM := same_any (H6.out.2.2.below hw7) (H6.out.2.1.below hw7) HF.out.2.1 HF.out.2.1
    rw [decide_eq_true rfl, ← HM.out] at CM
    have H7 := Lib.hid (H6.out.1.trans (Below.mono hw7 H6.out.1.size))
    clear hw7
    go_wp2_with fail
    refine CM.mono ?_
    clear CM
    rintro e w8 ⟨rfl, hw8⟩
    have H8 := Lib.hid (H7.out.trans (hw8.mono H7.out.size))
    go_wp2_with fail
    refine hK _ _ hw8 ?_
    clear hK K hw8
    iterate 2 (refine mg_calm rfl (fun K hK => ?_); go_simp; (refine hK _ ?_; clear hK K))
    refine mg_nil fun w9 hw9 => ?_
    have H9 := Lib.hid (H8.out.trans (Below.mono hw9 H8.out.size))
    clear hw9
    go_wp2_with fail
    go_ret
    exact ⟨rfl, H9.out⟩
  · obtain rfl := hno hR
    have HR := Lib.hid hR
    clear hyes hno hR
    go_wp2_with fail
    refine CR.mono ?_
    clear CR
    rintro e w4 ⟨r, rfl, hr, hw4⟩
    obtain rfl : r = false := by
      cases r
      · rfl
      · exact absurd (hr.1 rfl) HR.out
    have H4 := Lib.hid (H3.out.1.trans (hw4.mono H3.out.1.size))
    clear hr hw4
    go_wp2_with fail
    refine (CK _).mono ?_
    rintro e w5 ⟨rfl, hw5⟩
    have H5 := Lib.hid (H4.out.trans (hw5.mono H4.out.size))
    clear hw5
    go_wp2_with fail
    go_ret
    exact ⟨rfl, H5.out⟩
end Go.Proofs.YtifoledkmjlmoaaDoor
