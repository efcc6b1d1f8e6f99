/-
  The law ManifestBack, walked.
-/
import Derived.Test.YtifoledkmjlmoaaDoorManifestParsesWalk
namespace Go.Proofs.YtifoledkmjlmoaaDoor
open Go.RowKit Go.Mix Go.WideMaps

theorem few_ok (l : List MFile) : (fewL l).length ≤ 40 ∧ ∀ p ∈ fewL l, p.path.length ≤ 300 ∧ p.flag.length ≤ 20 := by
  unfold fewL
  refine ⟨by rw [List.length_map, List.length_take]; omega, fun p hp => ?_⟩
  obtain ⟨q, -, rfl⟩ := List.mem_map.1 hp
  unfold shortM
  simp only [List.length_take]
  omega
theorem few_wf (l : List MFile) : ∀ p ∈ fewL l, WfM p := fun p hp => by
  have := (few_ok l).2 p hp
  exact ⟨by omega, by omega⟩
theorem few_text (l : List MFile) : (textM (fewL l)).length ≤ 25680 := by
  have h1 := textM_len 300 (fewL l) (fun p hp => by have := (few_ok l).2 p hp; omega)
  have h2 := Nat.mul_le_mul_left (2 * 300 + 42) (few_ok l).1
  omega

set_option maxRecDepth 100000 in
set_option maxHeartbeats 4000000 in
theorem manifestBack_walk (a1 : Option Addr) (len1 cap1 : Nat) (l : List MFile) (a : Option Addr) (len cap : Nat) (zs : List Int) (w : World)
    (hl1 : l.length = len1) (h1 : RsAt encM 22 w a1 cap1 l) (hx1 : ∀ p ∈ l, p.path.length ≤ 9223372036854775807 ∧ p.flag.length ≤ 9223372036854775807)
    (h : (a = none ∧ len = 0 ∧ cap = 0 ∧ zs = []) ∨ ∃ x, a = some x ∧ len ≤ cap ∧ cap ≤ maxLen ∧ zs.length = cap ∧ (∀ i, i < zs.length → w.cell? (x.add i) = some (.int .u8 (zs.getD i 0))) ∧ ∀ n ∈ zs, (Lit.int .u8 n).wf = true) :
    Calls Tryd.prog 5 #[.slice a1 len1 cap1, .slice a len cap] w fun e w' => e = .returned (.bool true) ∧ Below w.heap.size w w' := by
  have CK := fun W => known_any W
  have CF := few_any h1 hx1
  rw [hl1] at CF
  obtain ⟨L, hLl, hL, hlc, hcm, hnone⟩ := open_row h
  clear h hl1 h1 hx1
  obtain ⟨q, hq⟩ : ∃ q, q = min len 3000 := ⟨_, rfl⟩
  have MR := min_run (len : Int) 3000 q (by split <;> omega)
  have SL : ∀ W : World, (Instr.slice 26 (.slice a len cap) none (some (.int .i64 (q : Int))) none).run Tryd.prog W = .ok (.slice a q cap) W := fun W => run_slice_to 26 Tryd.underlying26 a len cap q (by omega) (fun h => (hnone h).2) (n := 1) (fun w => by kernel_rfl) W
  obtain ⟨b, hb⟩ : ∃ b, b = L.take q := ⟨_, rfl⟩
  have hbl : b.length = q := by rw [hb, List.length_take]; omega
  have hsl : Sl w a cap b := ⟨by rw [hb]; exact hL.take q, by omega, by have e2 : maxLen = 9223372036854775807 := (by decide); omega, fun h => (hnone h).2⟩
  have hq3 : b.length ≤ 3000 := by omega
  clear hb hL hLl hq hnone hlc hcm
  have HF := Lib.hid (And.intro (few_ok l) (And.intro (few_wf l) (few_text l)))
  generalize fewL l = A at *
  go_enter Tryd.func5, Tryd.ntmps5
  go_wp2_with fail
  refine CF.mono ?_
  clear CF
  rintro e w1 ⟨v, rfl, hown⟩
  obtain ⟨v1, c1, rfl, hrs, -⟩ := hown.rs tyM
  have CP := print_any hrs (by have := HF.out.1.1; omega) (fun p hp => by have := HF.out.1.2 p hp; omega)
  have H1 := Lib.hid (And.intro hown.frame hrs)
  clear hown hrs
  obtain ⟨m, hm⟩ : ∃ m, m = A.length := ⟨_, rfl⟩
  have HM := Lib.hid hm
  rw [← hm] at CP ⊢
  clear hm
  go_wp2_with fail
  refine CP.mono ?_
  clear CP
  rintro e w2 ⟨hyes, hno, hw2⟩
  by_cases hR : RightM A
  · obtain ⟨bp, cp, rfl, hsp⟩ := hyes hR
    have CR := parse_any hsp (by have := HF.out.2.2; omega)
    have hrd := read_right hR
    have H2 := Lib.hid (And.intro (H1.out.1.trans (hw2.mono H1.out.1.size)) (And.intro (H1.out.2.below hw2) (And.intro hrd hR)))
    clear hsp hyes hno hw2 hrd hR
    generalize (textM A).length = k at *
    go_wp2_with fail
    refine CR.mono ?_
    clear CR
    rintro e w3 (⟨l2, hl2, hR2, v2, rfl, hown2⟩ | ⟨hbad, -, -⟩)
    case inr =>
      exfalso
      rcases hbad with h | ⟨l3, h3, h4⟩
      · rw [H2.out.2.2.1] at h; cases h
      · rw [H2.out.2.2.1] at h3; injection h3 with h3; exact h4 (h3 ▸ H2.out.2.2.2)
    have hl3 : l2 = A := by rw [H2.out.2.2.1] at hl2; injection hl2 with h; exact h.symm
    subst hl3
    obtain ⟨v2, c2, rfl, hrs2, -⟩ := hown2.rs tyM
    have CA := as_any hrs2 (by have := HF.out.1.1; omega)
    have H3 := Lib.hid (And.intro (H2.out.1.trans (hown2.frame.mono H2.out.1.size)) (H2.out.2.1.below hown2.frame))
    clear hown2 hrs2 hl2 hR2
    rw [← HM.out] at CA ⊢
    go_wp2_with fail
    refine CA.mono ?_
    clear CA
    rintro e w4 ⟨v4, rfl, hown4⟩
    obtain ⟨v4, c4, rfl, hrs4, -⟩ := hown4.rs tyN
    have CB := as_any (H3.out.2.below hown4.frame) (by have := HF.out.1.1; omega)
    have H4 := Lib.hid (And.intro (H3.out.1.trans (hown4.frame.mono H3.out.1.size)) hrs4)
    clear hown4 hrs4
    rw [← HM.out] at CB ⊢
    go_wp2_with fail
    refine CB.mono ?_
    clear CB
    rintro e w5 ⟨v5, rfl, hown5⟩
    obtain ⟨v5, c5, rfl, hrs5, -⟩ := hown5.rs tyN
    have CM := same_any (H4.out.2.below hown5.frame) hrs5 HF.out.2.1 HF.out.2.1
    rw [decide_eq_true rfl] at CM
    have H5 := Lib.hid (H4.out.1.trans (hown5.frame.mono H4.out.1.size))
    clear hown5 hrs5
    rw [← HM.out] at CM ⊢
    go_wp2_with fail
    refine CM.mono ?_
    clear CM
    rintro e w6 ⟨rfl, hw6⟩
    have GB := H5.out.trans (hw6.mono H5.out.size)
    clear hw6
    have SLB := hsl.below GB
    have CP2 := parse_any SLB (by omega)
    have CS2 := fun W (hW : Below w.heap.size w W) => (hsl.below hW).str
    have HCS2 := Lib.hid CS2
    have HGB := Lib.hid GB
    clear CS2 SLB GB
    rw [hbl] at CP2
    go_wp2_with fail
    refine CP2.mono ?_
    clear CP2
    rintro e w5 (⟨l2, hl2, hR2, v2, rfl, hown2⟩ | ⟨-, rfl, hw5⟩)
    · obtain ⟨v2, c2, rfl, hrs2, -⟩ := hown2.rs tyM
      have ht := text_read _ _ _ hl2
      have hn2 := readM_len hl2
      have CQ := print_any hrs2 (by omega) (fun p hp => by have := right_line hR2 p hp; omega)
      have H5 := Lib.hid (And.intro (HGB.out.trans (hown2.frame.mono HGB.out.size)) (And.intro ht hR2))
      clear hown2 hrs2 ht hl2 hn2
      go_wp2_with fail
      refine CQ.mono ?_
      clear CQ
      rintro e w6 ⟨hq, -, hw6⟩
      obtain ⟨bq, cq, rfl, hsq⟩ := hq H5.out.2.2
      have g6 := H5.out.1.trans (hw6.mono H5.out.1.size)
      have S1 := hsq.str
      have S2 := HCS2.out w6 g6
      rw [H5.out.2.1] at S1 ⊢
      rw [hbl] at S1 S2 ⊢
      have E1 : ((strOf b).toList == (strOf b).toList) = true := beq_self_eq_true _
      have H6 := Lib.hid g6
      change (convert _ _ _).run _ _ = .ok (.string (strOf b)) _ at S1 S2
      clear hsq hq hw6 g6
      generalize strOf b = SB at *
      go_wp2_with fail
      refine (CK _).mono ?_
      rintro e w7 ⟨rfl, hw7⟩
      have H7 := Lib.hid (H6.out.trans (hw7.mono H6.out.size))
      clear hw7
      go_wp2_with fail
      go_ret
      exact ⟨rfl, H7.out⟩
    · have H5 := Lib.hid (HGB.out.trans (hw5.mono HGB.out.size))
      clear hw5
      go_wp2_with fail
      refine (CK _).mono ?_
      rintro e w7 ⟨rfl, hw7⟩
      have H7 := Lib.hid (H5.out.trans (hw7.mono H5.out.size))
      clear hw7
      go_wp2_with fail
      go_ret
      exact ⟨rfl, H7.out⟩
  · obtain rfl := hno hR
    have GB := H1.out.1.trans (hw2.mono H1.out.1.size)
    clear hyes hno hw2 hR
    have SLB := hsl.below GB
    have CP2 := parse_any SLB (by omega)
    have CS2 := fun W (hW : Below w.heap.size w W) => (hsl.below hW).str
    have HCS2 := Lib.hid CS2
    have HGB := Lib.hid GB
    clear CS2 SLB GB
    rw [hbl] at CP2
    go_wp2_with fail
    refine CP2.mono ?_
    clear CP2
    rintro e w5 (⟨l2, hl2, hR2, v2, rfl, hown2⟩ | ⟨-, rfl, hw5⟩)
    · obtain ⟨v2, c2, rfl, hrs2, -⟩ := hown2.rs tyM
      have ht := text_read _ _ _ hl2
      have hn2 := readM_len hl2
      have CQ := print_any hrs2 (by omega) (fun p hp => by have := right_line hR2 p hp; omega)
      have H5 := Lib.hid (And.intro (HGB.out.trans (hown2.frame.mono HGB.out.size)) (And.intro ht hR2))
      clear hown2 hrs2 ht hl2 hn2
      go_wp2_with fail
      refine CQ.mono ?_
      clear CQ
      rintro e w6 ⟨hq, -, hw6⟩
      obtain ⟨bq, cq, rfl, hsq⟩ := hq H5.out.2.2
      have g6 := H5.out.1.trans (hw6.mono H5.out.1.size)
      have S1 := hsq.str
      have S2 := HCS2.out w6 g6
      rw [H5.out.2.1] at S1 ⊢
      rw [hbl] at S1 S2 ⊢
      have E1 : ((strOf b).toList == (strOf b).toList) = true := beq_self_eq_true _
      have H6 := Lib.hid g6
      change (convert _ _ _).run _ _ = .ok (.string (strOf b)) _ at S1 S2
      clear hsq hq hw6 g6
      generalize strOf b = SB at *
      go_wp2_with fail
      refine (CK _).mono ?_
      rintro e w7 ⟨rfl, hw7⟩
      have H7 := Lib.hid (H6.out.trans (hw7.mono H6.out.size))
      clear hw7
      go_wp2_with fail
      go_ret
      exact ⟨rfl, H7.out⟩
    · have H5 := Lib.hid (HGB.out.trans (hw5.mono HGB.out.size))
      clear hw5
      go_wp2_with fail
      refine (CK _).mono ?_
      rintro e w7 ⟨rfl, hw7⟩
      have H7 := Lib.hid (H5.out.trans (hw7.mono H5.out.size))
      clear hw7
      go_wp2_with fail
      go_ret
      exact ⟨rfl, H7.out⟩
end Go.Proofs.YtifoledkmjlmoaaDoor
