/-
  The law TreePrints, walked. (Printed by gen/gen_treeprints.py.)
-/
import Derived.Test.YtbllpjphlanchaaRefSort
import Derived.Test.YtbllpjphlanchaaTreeBackWalk
import Derived.Test.YtbllpjphlanchaaRefBody
namespace Go.Proofs.Ytbllpjphlanchaa
open Go.RowKit Go.Mix Go.WideMaps

theorem sorts_same {l Y Z : List Ent} (h1 : SortedB lessE Y) (h2 : StEq lessE l Y) (h3 : SortedB lessE Z) (h4 : StEq lessE l Z) : Z = Y := sorted_uniq lessE_weak h3 h1 (h4.symm.trans h2)

set_option maxRecDepth 100000 in
set_option maxHeartbeats 20000000 in
theorem treePrints_walk (a : Option Addr) (len cap : Nat) (l : List Ent) (w : World)
    (hl1 : l.length = len) (h1 : RsAt encE 22 w a cap l) (hx1 : ∀ p ∈ l, (Lit.int .i64 p.mode).wf = true ∧ p.name.length ≤ 9223372036854775807) :
    Calls Try.prog 3 #[.slice a len cap] w fun e w' => e = .returned (.bool true) ∧ Below w.heap.size w w' := by
  have CK := fun W => known_any W
  have CF := few_any h1 (fun p hp => (hx1 p hp).2)
  rw [hl1] at CF
  have hA := few_ok hx1
  clear hl1 h1 hx1
  generalize fewL l = A at *
  have HA := Lib.hid hA
  clear hA
  have HNM : Hid (NamesL A) := Lib.hid fun p hp => Nat.le_trans (HA.out.2 p hp).1 (by decide)
  obtain ⟨n, hn⟩ : ∃ n, n = A.length := ⟨_, rfl⟩
  have HL := Lib.hid hn
  clear hn
  have hn6 : n ≤ 60 := by rw [HL.out]; exact HA.out.1
  go_enter Try.func3, Try.ntmps3
  go_wp2_with fail
  ((with_reducible refine CF.mono ?_))
  clear CF
  rintro e w1 ⟨v1, rfl, hown⟩
  obtain ⟨a1, c1, rfl, hrs1, -⟩ := hown.rs tyE
  have H1 := Lib.hid (And.intro hown.frame hrs1)
  clear hown hrs1
  have CA := as_any H1.out.2 (by have := HL.out; omega)
  rw [← HL.out] at CA ⊢
  go_wp2_with fail
  ((with_reducible refine CA.mono ?_))
  clear CA
  rintro e w2 ⟨v2, rfl, hown⟩
  obtain ⟨a2, c2, rfl, hrs2, -⟩ := hown.rs tyF
  have H2 := Lib.hid (And.intro (Grow.trans H1.out.1 hown.frame) (And.intro (H1.out.2.below hown.frame) hrs2))
  clear hown hrs2
  have CP := print_any H2.out.2.1 (by have := HL.out; omega) (fun p hp => Nat.le_trans (HA.out.2 p hp).1 (by decide))
  rw [← HL.out] at CP ⊢
  go_wp2_with fail
  ((with_reducible refine CP.mono ?_))
  clear CP
  rintro e w3 (⟨hR, rfl, hw3⟩ | ⟨hR, v3, rfl, hb3⟩)
  · have H3 := Lib.hid (And.intro (Grow.trans H2.out.1 hw3) (And.intro (H2.out.2.1.below hw3) (H2.out.2.2.below hw3)))
    have HRR := Lib.hid hR
    clear hR hw3
    have CR := refRight_any H3.out.2.2 (by have := HL.out; omega) HNM.out
    rw [← HL.out] at CR
    go_wp2_with fail
    ((with_reducible refine CR.mono ?_))
    clear CR
    rintro e w4 ⟨r, rfl, hr, hw4⟩
    obtain rfl : r = false := by cases r with
      | false => rfl
      | true => exact absurd (hr.1 rfl) HRR.out
    have H4 := Lib.hid (And.intro (Grow.trans H3.out.1 hw4) (And.intro (H3.out.2.1.below hw4) (H3.out.2.2.below hw4)))
    clear hw4 hr
    go_wp2_with fail
    ((with_reducible refine (CK _).mono ?_))
    clear CK
    rintro e w5 ⟨rfl, hw5⟩
    have H5 := Lib.hid (And.intro (Grow.trans H4.out.1 hw5) (And.intro (H4.out.2.1.below hw5) (H4.out.2.2.below hw5)))
    clear hw5
    have CR := right_any H5.out.2.1 (by have := HL.out; omega) HNM.out
    rw [← HL.out] at CR
    go_wp2_with fail
    ((with_reducible refine CR.mono ?_))
    clear CR
    rintro e w6 ⟨r, rfl, hr, hw6⟩
    obtain rfl : r = false := by cases r with
      | false => rfl
      | true => exact absurd (hr.1 rfl) HRR.out
    have H6 := Lib.hid (And.intro (Grow.trans H5.out.1 hw6) (And.intro (H5.out.2.1.below hw6) (H5.out.2.2.below hw6)))
    clear hw6 hr
    have CS := sort_any H6.out.2.1 HL.out (by omega) HNM.out
    go_wp2_with fail
    ((with_reducible refine CS.mono ?_))
    clear CS
    rintro e w7 ⟨v7, Y, rfl, hY, hst, hown⟩
    obtain ⟨a7, c7, rfl, hrs7, -⟩ := hown.rs tyE
    have hyl : Y.length = n := by rw [← steq_len hst, ← HL.out]
    have H7 := Lib.hid (And.intro (Grow.trans H6.out.1 hown.frame) (And.intro (H6.out.2.1.below hown.frame) (And.intro (H6.out.2.2.below hown.frame) (And.intro hrs7 (And.intro hY (And.intro hst hyl))))))
    clear hown hrs7 hY hst hyl
    have CA := as_any H7.out.2.2.2.1 (by have := H7.out.2.2.2.2.2.2; omega)
    rw [H7.out.2.2.2.2.2.2] at CA ⊢
    go_wp2_with fail
    ((with_reducible refine CA.mono ?_))
    clear CA
    rintro e w8 ⟨v8, rfl, hown⟩
    obtain ⟨a8, c8, rfl, hrs8, -⟩ := hown.rs tyF
    have H8 := Lib.hid (And.intro (Grow.trans H7.out.1 hown.frame) (And.intro (H7.out.2.1.below hown.frame) (And.intro (H7.out.2.2.1.below hown.frame) hrs8)))
    clear hown hrs8
    have CS := refSort_any H8.out.2.2.1 HL.out (by omega) HNM.out
    rw [H7.out.2.2.2.2.2.2]
    go_wp2_with fail
    ((with_reducible refine CS.mono ?_))
    clear CS
    rintro e w9 ⟨v9, Z, rfl, hZ, hstz, hown⟩
    have hzy : Z = Y := sorts_same H7.out.2.2.2.2.1 H7.out.2.2.2.2.2.1 hZ hstz
    subst hzy
    obtain ⟨a9, c9, rfl, hrs9, -⟩ := hown.rs tyF
    have hwf : ∀ p ∈ Z, WfE p := fun p hp => (HA.out.2 p (StEq.mem lessE_weak H7.out.2.2.2.2.2.1.symm hp)).2
    have CM := same_any (H8.out.2.2.2.below hown.frame) hrs9 hwf hwf
    rw [decide_eq_true rfl, H7.out.2.2.2.2.2.2] at CM
    rw [H7.out.2.2.2.2.2.2]
    have H9 := Lib.hid (And.intro (Grow.trans H8.out.1 hown.frame) (And.intro (H8.out.2.1.below hown.frame) (H8.out.2.2.1.below hown.frame)))
    clear hown hrs9 hZ hstz hwf
    go_wp2_with fail
    ((with_reducible refine CM.mono ?_))
    clear CM
    rintro e w10 ⟨rfl, hw10⟩
    have H10 := Lib.hid (And.intro (Grow.trans H9.out.1 hw10) (And.intro (H9.out.2.1.below hw10) (H9.out.2.2.below hw10)))
    clear hw10
    have CA := as_any H10.out.2.1 (by have := HL.out; omega)
    rw [← HL.out] at CA
    go_wp2_with fail
    ((with_reducible refine CA.mono ?_))
    clear CA
    rintro e w11 ⟨v11, rfl, hown⟩
    obtain ⟨a11, c11, rfl, hrs11, -⟩ := hown.rs tyF
    have CM := same_any hrs11 (H10.out.2.2.below hown.frame) (fun p hp => (HA.out.2 p hp).2) (fun p hp => (HA.out.2 p hp).2)
    rw [decide_eq_true rfl, ← HL.out] at CM
    rw [← HL.out]
    have H11 := Lib.hid (And.intro (Grow.trans H10.out.1 hown.frame) (H10.out.2.2.below hown.frame))
    clear hown hrs11
    go_wp2_with fail
    ((with_reducible refine CM.mono ?_))
    clear CM
    rintro e w12 ⟨rfl, hw12⟩
    have H12 := Lib.hid (And.intro (Grow.trans H11.out.1 hw12) (H11.out.2.below hw12))
    clear hw12

    go_wp2_with fail
    go_ret
    exact ⟨rfl, H12.out.1⟩
  · obtain ⟨a3, c3, rfl, hs3, -, -, hz3⟩ := hb3.1.bs
    have hw3 := hb3.2.1
    clear hb3

    have H3 := Lib.hid (And.intro (Grow.trans H2.out.1 hw3) (And.intro (H2.out.2.1.below hw3) (H2.out.2.2.below hw3)))
    have HRR := Lib.hid hR
    have HB3 := Lib.hid (And.intro hs3 hz3)
    clear hR hw3 hs3 hz3
    have CR := refRight_any H3.out.2.2 (by have := HL.out; omega) HNM.out
    rw [← HL.out] at CR
    go_wp2_with fail
    ((with_reducible refine CR.mono ?_))
    clear CR
    rintro e w4 ⟨r, rfl, hr, hw4⟩
    obtain rfl : r = true := hr.2 HRR.out
    have H4 := Lib.hid (And.intro (Grow.trans H3.out.1 hw4) (And.intro (H3.out.2.1.below hw4) (H3.out.2.2.below hw4)))
    have HB4 := Lib.hid (And.intro (HB3.out.1.below hw4) HB3.out.2)
    clear hw4 hr
    go_wp2_with fail
    ((with_reducible refine (CK _).mono ?_))
    clear CK
    rintro e w5 ⟨rfl, hw5⟩
    have H5 := Lib.hid (And.intro (Grow.trans H4.out.1 hw5) (And.intro (H4.out.2.1.below hw5) (H4.out.2.2.below hw5)))
    have HB5 := Lib.hid (And.intro (HB4.out.1.below hw5) HB3.out.2)
    clear hw5
    have CR := right_any H5.out.2.1 (by have := HL.out; omega) HNM.out
    rw [← HL.out] at CR
    go_wp2_with fail
    ((with_reducible refine CR.mono ?_))
    clear CR
    rintro e w6 ⟨r, rfl, hr, hw6⟩
    obtain rfl : r = true := hr.2 HRR.out
    have H6 := Lib.hid (And.intro (Grow.trans H5.out.1 hw6) (And.intro (H5.out.2.1.below hw6) (H5.out.2.2.below hw6)))
    have HB6 := Lib.hid (And.intro (HB5.out.1.below hw6) HB3.out.2)
    clear hw6 hr
    have CS := sort_any H6.out.2.1 HL.out (by omega) HNM.out
    go_wp2_with fail
    ((with_reducible refine CS.mono ?_))
    clear CS
    rintro e w7 ⟨v7, Y, rfl, hY, hst, hown⟩
    obtain ⟨a7, c7, rfl, hrs7, -⟩ := hown.rs tyE
    have hyl : Y.length = n := by rw [← steq_len hst, ← HL.out]
    have H7 := Lib.hid (And.intro (Grow.trans H6.out.1 hown.frame) (And.intro (H6.out.2.1.below hown.frame) (And.intro (H6.out.2.2.below hown.frame) (And.intro hrs7 (And.intro hY (And.intro hst hyl))))))
    have HB7 := Lib.hid (And.intro (HB6.out.1.below hown.frame) HB3.out.2)
    clear hown hrs7 hY hst hyl
    have CA := as_any H7.out.2.2.2.1 (by have := H7.out.2.2.2.2.2.2; omega)
    rw [H7.out.2.2.2.2.2.2] at CA ⊢
    go_wp2_with fail
    ((with_reducible refine CA.mono ?_))
    clear CA
    rintro e w8 ⟨v8, rfl, hown⟩
    obtain ⟨a8, c8, rfl, hrs8, -⟩ := hown.rs tyF
    have H8 := Lib.hid (And.intro (Grow.trans H7.out.1 hown.frame) (And.intro (H7.out.2.1.below hown.frame) (And.intro (H7.out.2.2.1.below hown.frame) hrs8)))
    have HB8 := Lib.hid (And.intro (HB7.out.1.below hown.frame) HB3.out.2)
    clear hown hrs8
    have CS := refSort_any H8.out.2.2.1 HL.out (by omega) HNM.out
    rw [H7.out.2.2.2.2.2.2]
    go_wp2_with fail
    ((with_reducible refine CS.mono ?_))
    clear CS
    rintro e w9 ⟨v9, Z, rfl, hZ, hstz, hown⟩
    have hzy : Z = Y := sorts_same H7.out.2.2.2.2.1 H7.out.2.2.2.2.2.1 hZ hstz
    subst hzy
    obtain ⟨a9, c9, rfl, hrs9, -⟩ := hown.rs tyF
    have hwf : ∀ p ∈ Z, WfE p := fun p hp => (HA.out.2 p (StEq.mem lessE_weak H7.out.2.2.2.2.2.1.symm hp)).2
    have CM := same_any (H8.out.2.2.2.below hown.frame) hrs9 hwf hwf
    rw [decide_eq_true rfl, H7.out.2.2.2.2.2.2] at CM
    rw [H7.out.2.2.2.2.2.2]
    have H9 := Lib.hid (And.intro (Grow.trans H8.out.1 hown.frame) (And.intro (H8.out.2.1.below hown.frame) (H8.out.2.2.1.below hown.frame)))
    have HB9 := Lib.hid (And.intro (HB8.out.1.below hown.frame) HB3.out.2)
    clear hown hrs9 hZ hstz hwf
    go_wp2_with fail
    ((with_reducible refine CM.mono ?_))
    clear CM
    rintro e w10 ⟨rfl, hw10⟩
    have H10 := Lib.hid (And.intro (Grow.trans H9.out.1 hw10) (And.intro (H9.out.2.1.below hw10) (H9.out.2.2.below hw10)))
    have HB10 := Lib.hid (And.intro (HB9.out.1.below hw10) HB3.out.2)
    clear hw10
    have CA := as_any H10.out.2.1 (by have := HL.out; omega)
    rw [← HL.out] at CA
    go_wp2_with fail
    ((with_reducible refine CA.mono ?_))
    clear CA
    rintro e w11 ⟨v11, rfl, hown⟩
    obtain ⟨a11, c11, rfl, hrs11, -⟩ := hown.rs tyF
    have CM := same_any hrs11 (H10.out.2.2.below hown.frame) (fun p hp => (HA.out.2 p hp).2) (fun p hp => (HA.out.2 p hp).2)
    rw [decide_eq_true rfl, ← HL.out] at CM
    rw [← HL.out]
    have H11 := Lib.hid (And.intro (Grow.trans H10.out.1 hown.frame) (H10.out.2.2.below hown.frame))
    have HB11 := Lib.hid (And.intro (HB10.out.1.below hown.frame) HB3.out.2)
    clear hown hrs11
    go_wp2_with fail
    ((with_reducible refine CM.mono ?_))
    clear CM
    rintro e w12 ⟨rfl, hw12⟩
    have H12 := Lib.hid (And.intro (Grow.trans H11.out.1 hw12) (H11.out.2.below hw12))
    have HB12 := Lib.hid (And.intro (HB11.out.1.below hw12) HB3.out.2)
    clear hw12

    have CB : ∀ y : Later w12, (convert 26 9 (.slice a3 (bodyL A).length c3)).run Try.prog y.1 = .ok (.string (strOf (bodyL A))) y.1 := fun y => run_string_of_bytes (HB12.out.1.below y.2) _ 5 _ Try.underlying26 Try.underlying5 Try.underlying9 c3
    obtain ⟨S, hS⟩ : ∃ S, S = strOf (bodyL A) := ⟨_, rfl⟩
    have E1 : (S.toList == S.toList) = true := beq_self_eq_true _
    rw [← hS] at CB
    have HS := Lib.hid hS
    clear hS
    obtain ⟨k3, hk3⟩ : ∃ k, k = (bodyL A).length := ⟨_, rfl⟩
    rw [← hk3] at CB ⊢
    clear hk3
    go_upto_region 9 with (fail)
    refine wp_region_mg [(0, 0), (1, 0), (2, 0), (3, 0), (4, 0), (5, 0), (6, 1), (7, 0), (8, 0), (9, 0), (10, 0)] (by kernel_rfl) (by kernel_rfl) ?_
    iterate 6 (refine mg_calm rfl (fun K hK => ?_); go_simp; (refine hK _ ?_; clear hK K))
    refine mg_loud rfl rfl (fun w13 hw13 K hK => ?_)
    have CBO := refBody_any (H12.out.2.below hw13) (by have := HL.out; omega) (fun p hp => Nat.le_trans (HA.out.2 p hp).1 (by decide))
    rw [← HL.out] at CBO
    go_wp2_with fail
    ((with_reducible refine CBO.mono ?_))
    clear CBO
    rintro e w14 ⟨v14, rfl, hb14⟩
    obtain ⟨a14, c14, rfl, hs14, -, -, -⟩ := hb14.1.bs
    have HB14 := Lib.hid hb14
    clear CB hb14
    go_wp2_with fail
    refine hK _ _ HB14.out.2.1 ?_
    clear hK K
    have CB2 : ∀ y : Later w14, (convert 26 9 (.slice a14 (bodyL A).length c14)).run Try.prog y.1 = .ok (.string (strOf (bodyL A))) y.1 := fun y => run_string_of_bytes (hs14.below y.2) _ 5 _ Try.underlying26 Try.underlying5 Try.underlying9 c14
    rw [← HS.out] at CB2
    have H14 := Lib.hid (Grow.trans H12.out.1 (Grow.trans hw13 HB14.out.2.1))
    obtain ⟨k4, hk4⟩ : ∃ k, k = (bodyL A).length := ⟨_, rfl⟩
    rw [← hk4] at CB2 ⊢
    clear hk4 hs14 hw13
    iterate 4 (refine mg_calm rfl (fun K hK => ?_); go_simp; (refine hK _ ?_; clear hK K))
    refine mg_nil fun w15 hw15 => ?_
    have H15 := Lib.hid (Grow.trans H14.out hw15)
    clear hw15 CB2
    go_wp2_with fail
    go_ret
    exact ⟨rfl, H15.out⟩
end Go.Proofs.Ytbllpjphlanchaa
