/-
  The law TreeSorts, walked. (Printed by gen/gen_treesorts.py.)
-/
import Derived.Test.YtbllpjphlanchaaRefSort
import Derived.Test.YtbllpjphlanchaaTreeBackWalk
import Derived.Test.YtbllpjphlanchaaMixF
import Derived.Deep.CutRange
namespace Go.Proofs.Ytbllpjphlanchaa
open Go.RowKit Go.Mix Go.WideMaps

theorem count_succE {A : List Ent} {k : Nat} (hk : k < A.length) (x : Ent) : (A.take (k + 1)).count x = (A.take k).count x + if A[k]! = x then 1 else 0 := by
  rw [take_succE hk, List.count_append, List.count_singleton]
  by_cases h : A[k]! = x
  · rw [if_pos h, if_pos (by rw [beq_iff_eq]; exact h)]
  · rw [if_neg h, if_neg (by rw [beq_iff_eq]; exact h)]
theorem RightE.rising {A : List Ent} (h : RightE A) : A.Pairwise fun x y => lessE x y = true := by
  refine (right_iff.1 h).2.imp fun {x y} h => ?_
  unfold lessE lessB
  exact decide_eq_true h.2
theorem turned_same {A Y : List Ent} {k : Nat} (h : RightE A) (hY : SortedB lessE Y) (hst : StEq lessE (A.drop k ++ A.take k) Y) : Y = A := by
  have hr := h.rising
  have hs : SortedB lessE A := hr.imp fun {x y} h => lt_le lessE_weak h
  have hp : A.Perm (A.drop k ++ A.take k) := by
    have := List.perm_append_comm (l₁ := A.take k) (l₂ := A.drop k)
    rw [List.take_append_drop] at this
    exact this
  exact sorted_uniq lessE_weak hY hs (hst.symm.trans (rising_steq lessE_weak hr hp).symm)
theorem turned_not {A : List Ent} {k : Nat} (h : RightE A) (h0 : 0 < k) (hk : k < A.length) : ¬ RightE (A.drop k ++ A.take k) := fun hn => by
  have h1 := h.rising
  have h2 := hn.rising
  rw [List.pairwise_append] at h2
  have m1 : A[k] ∈ A.drop k := by rw [List.mem_iff_getElem]; exact ⟨0, by rw [List.length_drop]; omega, by simp⟩
  have m2 : A[0] ∈ A.take k := by rw [List.mem_iff_getElem]; exact ⟨0, by rw [List.length_take]; omega, by rw [List.getElem_take]⟩
  have h3 := h2.2.2 _ m1 _ m2
  rw [List.pairwise_iff_getElem] at h1
  have h4 := h1 0 k (by omega) hk h0
  rw [lt_le lessE_weak h4] at h3
  cases h3

set_option maxRecDepth 100000 in
set_option maxHeartbeats 20000000 in
theorem treeSorts_walk (a : Option Addr) (len cap : Nat) (l : List Ent) (turn : Int) (w : World)
    (hl1 : l.length = len) (h1 : RsAt encE 22 w a cap l) (hx1 : ∀ p ∈ l, (Lit.int .i64 p.mode).wf = true ∧ p.name.length ≤ 9223372036854775807) (_hw : (Lit.int .i64 turn).wf = true) :
    Calls Try.prog 4 #[.slice a len cap, .int .i64 turn] w fun e w' => e = .returned (.bool true) ∧ Below w.heap.size w w' := by
  have CK := fun W => known_any W
  have CF := few_any h1 (fun p hp => (hx1 p hp).2)
  rw [hl1] at CF
  have hA := few_ok hx1
  clear hl1 h1 hx1
  generalize fewL l = A at *
  have HA := Lib.hid hA
  clear hA
  have HNM : Hid (NamesL A) := Lib.hid fun p hp => Nat.le_trans (HA.out.2 p hp).1 (by decide)
  obtain ⟨n, hn⟩ : ∃ n, n = A.length := ⟨_, rfl⟩
  have HL := Lib.hid hn
  clear hn
  have hn6 : n ≤ 60 := by rw [HL.out]; exact HA.out.1
  go_enter Try.func4, Try.ntmps4
  go_wp2_with fail
  ((with_reducible refine CF.mono ?_))
  clear CF
  rintro e w1 ⟨v1, rfl, hown⟩
  obtain ⟨a1, c1, rfl, hrs1, -⟩ := hown.rs tyE
  have H1 := Lib.hid (And.intro hown.frame hrs1)
  clear hown hrs1
  have CS := sort_any H1.out.2 HL.out (by omega) HNM.out
  rw [← HL.out]
  go_wp2_with fail
  ((with_reducible refine CS.mono ?_))
  clear CS
  rintro e w2 ⟨v2, Y, rfl, hY, hst, hown⟩
  obtain ⟨a2, c2, rfl, hrs2, -⟩ := hown.rs tyE
  have hyl : Y.length = n := by rw [← steq_len hst, ← HL.out]
  have HY := Lib.hid (And.intro hY (And.intro hst hyl))
  have H2 := Lib.hid (And.intro (Grow.trans H1.out.1 hown.frame) (And.intro (H1.out.2.below hown.frame) hrs2))
  rw [hyl]
  clear hown hrs2 hY hst hyl
  go_wp2_with fail
  ((with_reducible refine (CK _).mono ?_))
  clear CK
  rintro e w3 ⟨rfl, hw3⟩
  have H3 := Lib.hid (And.intro (Grow.trans H2.out.1 hw3) (And.intro (H2.out.2.1.below hw3) (H2.out.2.2.below hw3)))
  clear hw3
  have hF0 := Below.refl w3.heap.size w3
  have tn : ((n : Int) != (n : Int)) = false := by simp
  go_wp2_with fail
  clear tn
  go_loopw [7] (fun s7 wr => ∃ i : Nat, s7 = .int .i64 (i : Int) ∧ i ≤ n ∧ Below w3.heap.size w3 wr) (fun s7 _ => n - (intOf s7).toNat)
  case atStart => exact ⟨0, rfl, Nat.zero_le _, hF0⟩
  case round =>
    clear hF0
    obtain ⟨wo, rfl⟩ : ∃ wo, wo = wr := ⟨_, rfl⟩
    obtain ⟨i, rfl, hi, hbo⟩ := hrel
    have HBO := Lib.hid hbo
    by_cases hin : i < n
    · have t1 : decide ((i : Int) < (n : Int)) = true := decide_eq_true (by omega)
      have t1' : decide (i < n) = true := decide_eq_true hin
      have hil : i < A.length := by rw [← HL.out]; exact hin
      have hiy : i < Y.length := by rw [HY.out.2.2]; exact hin
      obtain ⟨bi, qi, IXi, -, Li⟩ := (H3.out.2.1.below hbo).at tyE (i : Int) i rfl hil
      rw [← HL.out] at IXi
      obtain ⟨x, hx⟩ : ∃ x, x = A[i]! := ⟨_, rfl⟩
      rw [← hx] at Li
      have hxw : WfE x := by rw [hx]; exact (HA.out.2 _ (by rw [getElem!_pos A i hil]; exact List.getElem_mem hil)).2
      have HX := Lib.hid (And.intro hx (And.intro hxw (And.intro hil hiy)))
      have HLI := Lib.hid Li
      clear hil hiy hx hxw Li hbo
      have hF1 := Below.refl wo.heap.size wo
      go_wp2_with fail
      go_loopw [8, 9, 10] (fun s8 s9 s10 wx => ∃ k c d : Nat, s10 = .int .i64 (k : Int) ∧ s8 = .int .i64 (c : Int) ∧ s9 = .int .i64 (d : Int) ∧ k ≤ n ∧ c ≤ k ∧ d ≤ k ∧ c = (A.take k).count x ∧ d = (Y.take k).count x ∧ Below wo.heap.size wo wx) (fun _ _ s10 _ => n - (intOf s10).toNat)
      case atStart => exact ⟨0, 0, 0, rfl, rfl, rfl, Nat.zero_le _, Nat.le_refl _, Nat.le_refl _, by simp, by simp, hF1⟩
      case round =>
        clear hF1
        obtain ⟨k, c, d, rfl, rfl, rfl, hk, hck, hdk, hc, hd, hbb⟩ := hrel
        have HCD := Lib.hid (And.intro hc (And.intro hd hbb))
        clear hc hd
        by_cases hkn : k < n
        · have t2 : decide ((k : Int) < (n : Int)) = true := decide_eq_true (by omega)
          have t2' : decide (k < n) = true := decide_eq_true hkn
          have hkl : k < A.length := by rw [← HL.out]; exact hkn
          have hky : k < Y.length := by rw [HY.out.2.2]; exact hkn
          have gg := Grow.trans HBO.out hbb
          obtain ⟨b1, q1, IX1, -, L1⟩ := (H3.out.2.1.below gg).at tyE (k : Int) k rfl hkl
          obtain ⟨b2, q2, IX2, -, L2⟩ := (H3.out.2.2.below gg).at tyE (k : Int) k rfl hky
          rw [← HL.out] at IX1
          rw [HY.out.2.2] at IX2
          obtain ⟨p1, hp1⟩ : ∃ p, p = A[k]! := ⟨_, rfl⟩
          obtain ⟨p2, hp2⟩ : ∃ p, p = Y[k]! := ⟨_, rfl⟩
          have hpw1 : WfE p1 := by rw [hp1]; exact (HA.out.2 _ (by rw [getElem!_pos A k hkl]; exact List.getElem_mem hkl)).2
          have hpw2 : WfE p2 := by rw [hp2]; exact (HA.out.2 _ (StEq.mem lessE_weak HY.out.2.1.symm (by rw [getElem!_pos Y k hky]; exact List.getElem_mem hky))).2
          rw [← hp1] at L1
          rw [← hp2] at L2
          have cs1 := count_succE hkl x
          have cs2 := count_succE hky x
          rw [← hp1] at cs1
          rw [← hp2] at cs2
          obtain ⟨d1, hd1⟩ : ∃ d, d = decide (p1 = x) := ⟨_, rfl⟩
          obtain ⟨d2, hd2⟩ : ∃ d, d = decide (p2 = x) := ⟨_, rfl⟩
          have E1 := etE.eq_run p1 x hpw1 HX.out.2.1
          have E2 := etE.eq_run p2 x hpw2 HX.out.2.1
          rw [← hd1] at E1
          rw [← hd2] at E2
          have G1 := fun op u v w => run_eqGuard_agg (P := Try.prog) w op 40 u v (recA encE p1) (recA encE x) etE.ge
          have G2 := fun op u v w => run_eqGuard_agg (P := Try.prog) w op 40 u v (recA encE p2) (recA encE x) etE.ge
          have HCS := Lib.hid (And.intro cs1 (And.intro cs2 (And.intro hd1 hd2)))
          have L1' : ∀ y : Later wr, (Instr.loadAt 40 (.pointer (some ⟨b1, q1, none⟩))).run Try.prog y.1 = .ok (.agg (recA encE p1)) y.1 := fun y => L1 y.1 y.2
          have Li' : ∀ y : Later wr, (Instr.loadAt 40 (.pointer (some ⟨bi, qi, none⟩))).run Try.prog y.1 = .ok (.agg (recA encE x)) y.1 := fun y => HLI.out y.1 (Grow.trans hbb y.2)
          have HL2 := Lib.hid L2
          clear hkl hky gg hp1 hp2 hpw1 hpw2 cs1 cs2 hd1 hd2 L1 L2 hbb
          go_upto_region 12 with (fail)
          refine wp_region_mg [(0, 0), (1, 0), (2, 0), (3, 0), (4, 0), (5, 0), (6, 0), (7, 0), (8, 0)] (by kernel_rfl) (by kernel_rfl) ?_
          iterate 3 (refine mg_calm rfl (fun K hK => ?_); go_simp; (refine hK _ ?_; clear hK K))
          refine mg_load rfl rfl _ _ rfl _ _ rfl L1' ?_
          iterate 3 (refine mg_calm rfl (fun K hK => ?_); go_simp; (refine hK _ ?_; clear hK K))
          refine mg_load rfl rfl _ _ rfl _ _ rfl Li' ?_
          iterate 1 (refine mg_calm rfl (fun K hK => ?_); go_simp; (refine hK _ ?_; clear hK K))
          refine mg_nil fun w5 hw5 => ?_
          have HB5 := Lib.hid (Grow.trans HCD.out.2.2 hw5)
          have L2' : ∀ y : Later w5, (Instr.loadAt 40 (.pointer (some ⟨b2, q2, none⟩))).run Try.prog y.1 = .ok (.agg (recA encE p2)) y.1 := fun y => HL2.out y.1 (Grow.trans hw5 y.2)
          have Li2 : ∀ y : Later w5, (Instr.loadAt 40 (.pointer (some ⟨bi, qi, none⟩))).run Try.prog y.1 = .ok (.agg (recA encE x)) y.1 := fun y => HLI.out y.1 (Grow.trans HB5.out y.2)
          clear hw5 L1' Li' E1 G1 IX1
          cases d1
          · go_upto_region 14 with (fail)
            refine wp_region_mg [(0, 0), (1, 0), (2, 0), (3, 0), (4, 0), (5, 0), (6, 0), (7, 0), (8, 0)] (by kernel_rfl) (by kernel_rfl) ?_
            iterate 3 (refine mg_calm rfl (fun K hK => ?_); go_simp; (refine hK _ ?_; clear hK K))
            refine mg_load rfl rfl _ _ rfl _ _ rfl L2' ?_
            iterate 3 (refine mg_calm rfl (fun K hK => ?_); go_simp; (refine hK _ ?_; clear hK K))
            refine mg_load rfl rfl _ _ rfl _ _ rfl Li2 ?_
            iterate 1 (refine mg_calm rfl (fun K hK => ?_); go_simp; (refine hK _ ?_; clear hK K))
            refine mg_nil fun w6 hw6 => ?_
            have HB6 := Lib.hid (Grow.trans HB5.out hw6)
            clear hw6 L2' Li2 E2 G2 IX2
            cases d2
            · have HC : Hid (c = (A.take (k + 1)).count x) := Lib.hid (by rw [HCS.out.1, ← HCD.out.1, if_neg (of_decide_eq_false HCS.out.2.2.1.symm), Nat.add_zero])
              have HD : Hid (d = (Y.take (k + 1)).count x) := Lib.hid (by rw [HCS.out.2.1, ← HCD.out.2.1, if_neg (of_decide_eq_false HCS.out.2.2.2.symm), Nat.add_zero])
              go_wp2_with fail
              go_roundw
              case rel => exact ⟨k + 1, c, d, by go_num, by first | rfl | go_num, by first | rfl | go_num, by omega, by omega, by omega, HC.out, HD.out, HB6.out⟩
              case measure => simp [intOf]; omega
            · have HC : Hid (c = (A.take (k + 1)).count x) := Lib.hid (by rw [HCS.out.1, ← HCD.out.1, if_neg (of_decide_eq_false HCS.out.2.2.1.symm), Nat.add_zero])
              have HD : Hid (d + 1 = (Y.take (k + 1)).count x) := Lib.hid (by rw [HCS.out.2.1, ← HCD.out.2.1, if_pos (of_decide_eq_true HCS.out.2.2.2.symm)])
              go_wp2_with fail
              go_roundw
              case rel => exact ⟨k + 1, c, d + 1, by go_num, by first | rfl | go_num, by first | rfl | go_num, by omega, by omega, by omega, HC.out, HD.out, HB6.out⟩
              case measure => simp [intOf]; omega
          · go_upto_region 14 with (fail)
            refine wp_region_mg [(0, 0), (1, 0), (2, 0), (3, 0), (4, 0), (5, 0), (6, 0), (7, 0), (8, 0)] (by kernel_rfl) (by kernel_rfl) ?_
            iterate 3 (refine mg_calm rfl (fun K hK => ?_); go_simp; (refine hK _ ?_; clear hK K))
            refine mg_load rfl rfl _ _ rfl _ _ rfl L2' ?_
            iterate 3 (refine mg_calm rfl (fun K hK => ?_); go_simp; (refine hK _ ?_; clear hK K))
            refine mg_load rfl rfl _ _ rfl _ _ rfl Li2 ?_
            iterate 1 (refine mg_calm rfl (fun K hK => ?_); go_simp; (refine hK _ ?_; clear hK K))
            refine mg_nil fun w6 hw6 => ?_
            have HB6 := Lib.hid (Grow.trans HB5.out hw6)
            clear hw6 L2' Li2 E2 G2 IX2
            cases d2
            · have HC : Hid (c + 1 = (A.take (k + 1)).count x) := Lib.hid (by rw [HCS.out.1, ← HCD.out.1, if_pos (of_decide_eq_true HCS.out.2.2.1.symm)])
              have HD : Hid (d = (Y.take (k + 1)).count x) := Lib.hid (by rw [HCS.out.2.1, ← HCD.out.2.1, if_neg (of_decide_eq_false HCS.out.2.2.2.symm), Nat.add_zero])
              go_wp2_with fail
              go_roundw
              case rel => exact ⟨k + 1, c + 1, d, by go_num, by first | rfl | go_num, by first | rfl | go_num, by omega, by omega, by omega, HC.out, HD.out, HB6.out⟩
              case measure => simp [intOf]; omega
            · have HC : Hid (c + 1 = (A.take (k + 1)).count x) := Lib.hid (by rw [HCS.out.1, ← HCD.out.1, if_pos (of_decide_eq_true HCS.out.2.2.1.symm)])
              have HD : Hid (d + 1 = (Y.take (k + 1)).count x) := Lib.hid (by rw [HCS.out.2.1, ← HCD.out.2.1, if_pos (of_decide_eq_true HCS.out.2.2.2.symm)])
              go_wp2_with fail
              go_roundw
              case rel => exact ⟨k + 1, c + 1, d + 1, by go_num, by first | rfl | go_num, by first | rfl | go_num, by omega, by omega, by omega, HC.out, HD.out, HB6.out⟩
              case measure => simp [intOf]; omega
        · obtain rfl : k = n := by omega
          have t2 : decide ((k : Int) < (k : Int)) = false := decide_eq_false (by omega)
          have t2' : decide (k < k) = false := decide_eq_false (by omega)
          have hcd : c = d := by
            have h1 := HCD.out.1
            have h2 := HCD.out.2.1
            rw [List.take_of_length_le (by rw [← HL.out]; exact Nat.le_refl _)] at h1
            rw [List.take_of_length_le (by rw [HY.out.2.2]; exact Nat.le_refl _)] at h2
            rw [h1, h2]
            exact List.perm_iff_count.1 (StEq.perm HY.out.2.1) x
          subst hcd
          have t3 : ((c : Int) != (c : Int)) = false := by simp
          have t3' : (c != c) = false := by simp
          have HB5 := Lib.hid hbb
          clear hbb
          by_cases hi0 : 0 < i
          · have t4 : decide ((0 : Int) < (i : Int)) = true := decide_eq_true (by omega)
            have t4' : decide (0 < i) = true := decide_eq_true hi0
            obtain ⟨o, ho⟩ : ∃ o, o = i - 1 := ⟨_, rfl⟩
            have w1 : IntKind.i64.wrap ((i : Int) - 1) = (o : Int) := by rw [IntKind.wrap_i64]; omega
            have hoy : o < Y.length := by have := HX.out.2.2.2; omega
            have hiy := HX.out.2.2.2
            obtain ⟨yi, hyi⟩ : ∃ p, p = Y[i]! := ⟨_, rfl⟩
            obtain ⟨yo, hyo⟩ : ∃ p, p = Y[o]! := ⟨_, rfl⟩
            have hny := names_of HNM.out HY.out.2.1
            have hle : lessE yi yo = false := by
              have := HY.out.1
              unfold SortedB at this
              rw [List.pairwise_iff_getElem] at this
              rw [hyi, hyo, getElem!_pos Y i hiy, getElem!_pos Y o hoy]
              exact this o i hoy hiy (by omega)
            have CL := fun W : World => refLess_any yi yo (by rw [hyi]; exact names_at hny hiy) (by rw [hyo]; exact names_at hny hoy) W
            rw [hle] at CL
            have HYI := Lib.hid (And.intro hyi (And.intro hyo (And.intro hiy hoy)))
            have GW0 := Lib.hid (Grow.trans HBO.out HB5.out)
            clear hyi hyo hny hle hiy hoy ho
            go_upto_region 16 with (fail)
            refine wp_region_ft (FT.run [(0, 0), (1, 0), (2, 0), (3, 0), (4, 0), (5, 0), (6, 0), (7, 0), (9, 0), (12, 0), (14, 0), (15, 0), (8, 1), (10, 0), (11, 0), (13, 1), (16, 0), (17, 0), (18, 0), (19, 0), (20, 0)] .nil) [] (by kernel_rfl) (by kernel_rfl) ?_
            iterate 12 (refine fg_calm rfl (fun K hK => ?_); go_simp; (refine hK _ ?_; clear hK K))

            refine fg_loud rfl rfl (fun ua hua K hK => ?_)
            have CAa := as_any (H3.out.2.2.below (Grow.trans GW0.out hua)) (by have := HY.out.2.2; omega)
            rw [HY.out.2.2] at CAa
            go_wp2_with fail
            ((with_reducible refine CAa.mono ?_))
            rintro e ua2 ⟨va, rfl, hown⟩
            obtain ⟨aa, ca, rfl, hrsa, -⟩ := hown.rs tyF
            rw [HY.out.2.2]
            have HFa := Lib.hid hown.frame
            have GWa := Lib.hid (Grow.trans (Grow.trans GW0.out hua) hown.frame)
            obtain ⟨bba, qqa, IXa, -, LLa⟩ := hrsa.at tyF (i : Int) i rfl HYI.out.2.2.1
            rw [← HYI.out.1] at LLa
            rw [HY.out.2.2] at IXa
            clear hown hrsa CAa hua
            go_wp2_with fail
            refine hK _ _ HFa.out ?_
            clear hK K
            have LDa : ∀ y : Later ua2, (Instr.loadAt 43 (.pointer (some ⟨bba, qqa, none⟩))).run Try.prog y.1 = .ok (.agg (recA encE yi)) y.1 := fun y => LLa y.1 y.2
            iterate 1 (refine fg_calm rfl (fun K hK => ?_); go_simp; (refine hK _ ?_; clear hK K))
            refine fg_load rfl rfl _ _ rfl _ _ rfl LDa ?_
            clear LDa LLa IXa

            refine fg_loud rfl rfl (fun ub hub K hK => ?_)
            have CAb := as_any (H3.out.2.2.below (Grow.trans GWa.out hub)) (by have := HY.out.2.2; omega)
            rw [HY.out.2.2] at CAb
            go_wp2_with fail
            ((with_reducible refine CAb.mono ?_))
            rintro e ub2 ⟨vb, rfl, hown⟩
            obtain ⟨ab, cb, rfl, hrsb, -⟩ := hown.rs tyF
            rw [HY.out.2.2]
            have HFb := Lib.hid hown.frame
            have GWb := Lib.hid (Grow.trans (Grow.trans GWa.out hub) hown.frame)
            obtain ⟨bbb, qqb, IXb, -, LLb⟩ := hrsb.at tyF (o : Int) o rfl HYI.out.2.2.2
            rw [← HYI.out.2.1] at LLb
            rw [HY.out.2.2] at IXb
            clear hown hrsb CAb hub
            go_wp2_with fail
            refine hK _ _ HFb.out ?_
            clear hK K
            have LDb : ∀ y : Later ub2, (Instr.loadAt 43 (.pointer (some ⟨bbb, qqb, none⟩))).run Try.prog y.1 = .ok (.agg (recA encE yo)) y.1 := fun y => LLb y.1 y.2
            iterate 1 (refine fg_calm rfl (fun K hK => ?_); go_simp; (refine hK _ ?_; clear hK K))
            refine fg_load rfl rfl _ _ rfl _ _ rfl LDb ?_
            clear LDb LLb IXb

            (refine fg_calm rfl (fun K hK => ?_); go_simp; apply Exists.intro; refine ⟨fun z => CL z.1, hK _ ?_⟩; clear hK K)
            iterate 2 (refine fg_calm rfl (fun K hK => ?_); go_simp; (refine hK _ ?_; clear hK K))
            refine fg_nil fun w30 hw30 => ?_
            have HW30 := Lib.hid (Grow.trans GWb.out hw30)
            clear hw30
            go_wp2_with fail
            go_roundw
            case rel => exact ⟨i + 1, by go_num, by omega, HW30.out⟩
            case measure => simp [intOf]; omega
          · have t4 : decide ((0 : Int) < (i : Int)) = false := decide_eq_false (by omega)
            have t4' : decide (0 < i) = false := decide_eq_false hi0
            go_upto_region 16 with (fail)
            refine wp_region_mg [(0, 0), (1, 0), (2, 0), (3, 0), (4, 0), (5, 0), (6, 0), (7, 0), (8, 0), (9, 0), (10, 0), (11, 0), (12, 0), (13, 0), (14, 0), (15, 0), (16, 0), (17, 0), (18, 0), (19, 0), (20, 0)] (by kernel_rfl) (by kernel_rfl) ?_
            iterate 21 (refine mg_calm rfl (fun K hK => ?_); go_simp; (refine hK _ ?_; clear hK K))
            refine mg_nil fun w30 hw30 => ?_
            have HW30 := Lib.hid (Grow.trans HBO.out (Grow.trans HB5.out hw30))
            clear hw30
            go_wp2_with fail
            go_roundw
            case rel => exact ⟨i + 1, by go_num, by omega, HW30.out⟩
            case measure => simp [intOf]; omega
    · obtain rfl : i = n := by omega
      have t1 : decide ((i : Int) < (i : Int)) = false := decide_eq_false (by omega)
      have t1' : decide (i < i) = false := decide_eq_false (by omega)
      have H4 := Lib.hid (And.intro (Grow.trans H3.out.1 hbo) (H3.out.2.1.below hbo))
      have CR := right_any H4.out.2 (by have := HL.out; omega) HNM.out
      rw [← HL.out] at CR
      clear hbo
      go_wp2_with fail
      ((with_reducible refine CR.mono ?_))
      clear CR
      rintro e w5 ⟨r, rfl, hr, hw5⟩
      have HRR := Lib.hid hr
      have H5 := Lib.hid (And.intro (Grow.trans H4.out.1 hw5) (H4.out.2.below hw5))
      clear hw5 hr
      cases r
      · go_wp2_with fail
        go_ret
        exact ⟨rfl, H5.out.1⟩
      by_cases h0 : i = 0
      · have t0 : ((i : Int) == 0) = true := by rw [beq_iff_eq]; omega
        have t0' : (i == 0) = true := by rw [beq_iff_eq]; omega
        clear h0
        go_wp2_with fail
        go_ret
        exact ⟨rfl, H5.out.1⟩
      have t0 : ((i : Int) == 0) = false := by rw [beq_eq_false_iff_ne]; omega
      have t0' : (i == 0) = false := by rw [beq_eq_false_iff_ne]; omega
      have HR := Lib.hid (HRR.out.1 rfl)
      obtain ⟨k, hk, ek⟩ := u64_mod turn i (by omega) (by omega)
      have en : IntKind.u64.wrap (i : Int) = (i : Int) := by rw [IntKind.wrap_u64]; omega
      have en0 : ¬ (i : Int) = 0 := by omega
      have hkA : k ≤ A.length := by rw [← HL.out]; omega
      have SLT := H5.out.2.to tyE hkA (k : Int) rfl
      obtain ⟨a6, c6, SLF, hd6⟩ := H5.out.2.from tyE hkA (k : Int) rfl
      obtain ⟨m, hm⟩ : ∃ m, m = A.length - k := ⟨_, rfl⟩
      rw [← hm] at SLF
      rw [← HL.out] at SLT SLF
      have HM := Lib.hid (And.intro hd6 (And.intro hm (And.intro hkA hk)))
      clear hd6 hm hkA h0 HRR
      go_upto_region 21 with (fail)
      try rw [ek]
      clear ek en en0 t0 t0'
      refine wp_region_mg [(1, 0), (2, 0), (3, 0), (5, 0), (6, 0), (7, 0), (0, 1), (4, 1), (8, 2), (9, 0)] (by kernel_rfl) (by kernel_rfl) ?_
      iterate 6 (refine mg_calm rfl (fun K hK => ?_); go_simp; (refine hK _ ?_; clear hK K))
      refine mg_buildSlice_g rfl rfl _ _ _ rfl [] #[] 40 0 0 rfl (fun y => tyE.slice0 y) (fun w6 hw6 => ?_)
      have HM6 := Lib.hid (OwnR.made 22 encE w6 40)
      have G6 := Lib.hid hw6
      generalize w6.alloc (.cells #[] 40) = w7 at *
      clear hw6
      refine mg_loud rfl rfl (fun w8 hw8 K hK => ?_)
      refine wpList_append_empty_r tyE rfl (.tmp 96) (.tmp 99) rfl w6.heap.size rfl (HM6.out.later hw8) a6 m c6 (A.drop k) rfl (by rw [List.length_drop]; exact HM.out.2.1) (HM.out.1.below (Grow.trans G6.out (Grow.trans HM6.out.frame hw8))) (by have := HL.out; rw [List.length_drop]; omega) (fun v9 w9 hv9 hw9 => ?_)
      have HV9 := Lib.hid hv9
      refine hK _ _ hw9 ?_
      clear hv9 hw8 hw9 hK K
      refine mg_sync rfl rfl (fun w10 hw10 K hK => ?_)
      refine wpList_append_r tyE rfl (.tmp 100) (.tmp 103) rfl _ (A.drop k) rfl (HV9.out.later hw10) a1 k c1 (A.take k) rfl (by rw [List.length_take]; have := HM.out.2.2.1; omega) ((H5.out.2.take k).below (Grow.trans G6.out (HV9.out.later hw10).frame)) (by have := HL.out; rw [List.length_drop, List.length_take]; omega) ?_
      intro v11 w11 hb11 hgr5 hgr0
      have HB11 := Lib.hid hb11
      clear hb11 hgr5 hgr0 hw10
      go_wp2_with fail
      iterate 1 (refine mg_calm rfl (fun K hK => ?_); go_simp; (refine hK _ ?_; clear hK K))
      refine mg_nil fun w12 hw12 => ?_
      have htl : (A.drop k ++ A.take k).length = i := by rw [List.length_append, List.length_drop, List.length_take, ← HL.out]; have := HM.out.2.2.2; omega
      have hrow12 := HB11.out.later hw12
      obtain ⟨a12, c12, rfl, hrs12, -⟩ := hrow12.rs tyE
      have htn : NamesL (A.drop k ++ A.take k) := HNM.out.mem fun p hp => by
        rcases List.mem_append.1 hp with h | h
        · exact List.mem_of_mem_drop h
        · exact List.mem_of_mem_take h
      have G12 := Lib.hid (Grow.trans G6.out hrow12.frame)
      have HT := Lib.hid (And.intro hrs12 (And.intro htl htn))
      rw [htl]
      clear hrow12 hrs12 htl htn hw12 SLT SLF
      have CS := sort_any HT.out.1 HT.out.2.1.symm (by omega) HT.out.2.2
      go_wp2_with fail
      ((with_reducible refine CS.mono ?_))
      clear CS
      rintro e w13 ⟨v13, Z, rfl, hZ, hst, hown⟩
      obtain rfl : Z = A := turned_same HR.out hZ hst
      obtain ⟨a13, c13, rfl, hrs13, -⟩ := hown.rs tyE
      have CA := as_any hrs13 (by have := HL.out; omega)
      rw [← HL.out] at CA ⊢
      have H13 := Lib.hid (Grow.trans G12.out hown.frame)
      have HT13 := Lib.hid (HT.out.1.below hown.frame)
      clear hZ hst hown hrs13
      go_wp2_with fail
      ((with_reducible refine CA.mono ?_))
      clear CA
      rintro e w14 ⟨v14, rfl, hown⟩
      obtain ⟨a14, c14, rfl, hrs14, -⟩ := hown.rs tyF
      rw [← HL.out]
      have H14 := Lib.hid (And.intro (Grow.trans H13.out hown.frame) hrs14)
      have HT14 := Lib.hid (HT13.out.below hown.frame)
      clear hown hrs14
      have CA := as_any (H5.out.2.below H14.out.1) (by have := HL.out; omega)
      rw [← HL.out] at CA
      go_wp2_with fail
      ((with_reducible refine CA.mono ?_))
      clear CA
      rintro e w15 ⟨v15, rfl, hown⟩
      obtain ⟨a15, c15, rfl, hrs15, -⟩ := hown.rs tyF
      have CM := same_any (H14.out.2.below hown.frame) hrs15 (fun p hp => (HA.out.2 p hp).2) (fun p hp => (HA.out.2 p hp).2)
      rw [decide_eq_true rfl, ← HL.out] at CM
      rw [← HL.out]
      have H15 := Lib.hid (Grow.trans H14.out.1 hown.frame)
      have HT15 := Lib.hid (HT14.out.below hown.frame)
      clear hown hrs15
      go_wp2_with fail
      ((with_reducible refine CM.mono ?_))
      clear CM
      rintro e w16 ⟨rfl, hw16⟩
      have H16 := Lib.hid (Grow.trans H15.out hw16)
      have HT16 := Lib.hid (HT15.out.below hw16)
      clear hw16
      by_cases hk0 : k = 0
      · have t0 : ((k : Int) == 0) = true := by rw [beq_iff_eq]; omega
        have t0' : (k == 0) = true := by rw [beq_iff_eq]; omega
        clear hk0
        go_wp2_with fail
        go_ret
        exact ⟨rfl, Grow.trans H5.out.1 H16.out⟩
      · have t0 : ((k : Int) == 0) = false := by rw [beq_eq_false_iff_ne]; omega
        have t0' : (k == 0) = false := by rw [beq_eq_false_iff_ne]; omega
        have CR := right_any HT16.out (by have := HT.out.2.1; omega) HT.out.2.2
        rw [HT.out.2.1] at CR
        have hne := turned_not HR.out (show 0 < k by omega) (by rw [← HL.out]; exact hk)
        have HNE := Lib.hid hne
        clear hk0 hne
        go_wp2_with fail
        ((with_reducible refine CR.mono ?_))
        clear CR
        rintro e w17 ⟨r, rfl, hr, hw17⟩
        obtain rfl : r = false := by cases r with
          | false => rfl
          | true => exact absurd (hr.1 rfl) HNE.out
        have H17 := Lib.hid (Grow.trans H5.out.1 (Grow.trans H16.out hw17))
        clear hw17 hr
        go_wp2_with fail
        go_ret
        exact ⟨rfl, H17.out⟩
end Go.Proofs.Ytbllpjphlanchaa
