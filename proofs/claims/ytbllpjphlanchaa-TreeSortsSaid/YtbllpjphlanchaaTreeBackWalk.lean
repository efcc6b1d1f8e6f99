/-
  The law TreeBack, walked. (Printed by gen/gen_treeback.py.)
-/
import Derived.Test.YtbllpjphlanchaaTreeParsesWalk
import Derived.Test.YtbllpjphlanchaaBackE
namespace Go.Proofs.Ytbllpjphlanchaa
open Go.RowKit Go.Mix Go.WideMaps

theorem u64_mod (n : Int) (K : Nat) (h0 : 0 < K) (h1 : K ≤ 9223372036854775807) : ∃ m : Nat, m < K ∧ wrap64 ((IntKind.u64.wrap n).tmod K) = (m : Int) := by
  have hw : IntKind.u64.wrap n = n % 18446744073709551616 := IntKind.wrap_u64 n
  have h2 : 0 ≤ n % 18446744073709551616 := Int.emod_nonneg _ (by decide)
  obtain ⟨u, hu⟩ := Int.eq_ofNat_of_zero_le h2
  refine ⟨u % K, Nat.mod_lt _ h0, ?_⟩
  rw [hw, hu, Int.tmod_eq_emod_of_nonneg (by omega), show ((u : Int) % (K : Int)) = ((u % K : Nat) : Int) from rfl, IntWalk.wrap64_in _ ⟨by omega, by have := Nat.mod_lt u h0; omega⟩]

theorem few_ok {l : List Ent} (h : ∀ p ∈ l, (Lit.int .i64 p.mode).wf = true ∧ p.name.length ≤ 9223372036854775807) : (fewL l).length ≤ 60 ∧ ∀ p ∈ fewL l, p.name.length ≤ 300 ∧ WfE p := by
  unfold fewL
  refine ⟨by rw [List.length_map, List.length_take]; omega, fun p hp => ?_⟩
  obtain ⟨q, hq, rfl⟩ := List.mem_map.1 hp
  have hl : (shortE q).name.length ≤ 300 := by show (q.name.take 300).length ≤ 300; rw [List.length_take]; omega
  exact ⟨hl, (h q (List.mem_of_mem_take hq)).1, by omega⟩

set_option maxRecDepth 100000 in
set_option maxHeartbeats 4000000 in
theorem treeBack_walk (a : Option Addr) (len cap : Nat) (zs : List Int) (a1 : Option Addr) (len1 cap1 : Nat) (l : List Ent) (less : Int) (w : World)
    (h : (a = none ∧ len = 0 ∧ cap = 0 ∧ zs = []) ∨ ∃ x, a = some x ∧ len ≤ cap ∧ cap ≤ maxLen ∧ zs.length = cap ∧ (∀ i, i < zs.length → w.cell? (x.add i) = some (.int .u8 (zs.getD i 0))) ∧ ∀ n ∈ zs, (Lit.int .u8 n).wf = true)
    (hl1 : l.length = len1) (h1 : RsAt encE 22 w a1 cap1 l) (hx1 : ∀ p ∈ l, (Lit.int .i64 p.mode).wf = true ∧ p.name.length ≤ 9223372036854775807) (_hw : (Lit.int .i64 less).wf = true) :
    Calls Try.prog 6 #[.slice a len cap, .slice a1 len1 cap1, .int .i64 less] w fun e w' => e = .returned (.bool true) ∧ Below w.heap.size w w' := by
  obtain ⟨L, hLl, hL, hlc, hcm, hnone⟩ := open_row h
  clear h
  obtain ⟨q, hq⟩ : ∃ q, q = min len 4000 := ⟨_, rfl⟩
  have MR := min_run (len : Int) 4000 q (by split <;> omega)
  have SL : ∀ W : World, (Instr.slice 26 (.slice a len cap) none (some (.int .i64 (q : Int))) none).run Try.prog W = .ok (.slice a q cap) W := fun W => run_slice_to 26 Try.underlying26 a len cap q (by omega) (fun h => (hnone h).2) (n := 1) (fun w => by kernel_rfl) W
  obtain ⟨b, hb⟩ : ∃ b, b = L.take q := ⟨_, rfl⟩
  have hbl : b.length = q := by rw [hb, List.length_take]; omega
  have hs : Bs w a b := by rw [hb]; exact hL.take q
  have hb1 : b.length ≤ 10000 := by omega
  have hbc : b.length ≤ cap := by omega
  have hbn : a = none → cap = 0 := fun h => (hnone h).2
  clear hb hL hLl hq hnone
  subst hbl
  have CS : ∀ W, Below w.heap.size w W → (convert 26 9 (.slice a b.length cap)).run Try.prog W = .ok (.string (strOf b)) W := fun W hW => run_string_of_bytes (hs.below hW) _ 5 _ Try.underlying26 Try.underlying5 Try.underlying9 cap
  have CP := parse_any hs (by omega) hbc hbn
  have HCS := Lib.hid CS
  have CK := fun W => known_any W
  have HEE : Hid (∀ l, readE b.length b = some l → l.length ≤ 10000 ∧ ∀ p ∈ l, WfE p ∧ p.name.length ≤ 10000) := Lib.hid fun l h => readE_ents hb1 h
  have E1 : ((strOf b).toList == (strOf b).toList) = true := beq_self_eq_true _
  have E2 : ((strOf b).toList != (strOf b).toList) = false := by rw [bne, E1]; rfl
  have HCF : Hid (∀ W, Below w.heap.size w W → Calls Try.prog 8 #[.slice a1 len1 cap1] W fun e w' => ∃ v, e = .returned v ∧ OwnR encE 22 40 W w' v (fewL l)) := Lib.hid fun W hW => by
    have := few_any (h1.below hW) (fun p hp => (hx1 p hp).2)
    rw [hl1] at this
    exact this
  have hA := few_ok hx1
  clear CS hs hbc hbn hcm hlc hl1 h1 hx1
  generalize fewL l = A at *
  have HA := Lib.hid hA
  clear hA
  obtain ⟨S, hS⟩ : ∃ S, S = strOf b := ⟨_, rfl⟩
  rw [← hS] at E1 E2
  have HS := Lib.hid hS
  clear hS
  obtain ⟨n, hn⟩ : ∃ n, n = b.length := ⟨_, rfl⟩
  rw [← hn] at CP MR SL
  have HN := Lib.hid hn
  clear hn
  go_enter Try.func6, Try.ntmps6
  go_wp2_with fail
  refine CP.mono ?_
  clear CP SL MR
  rintro e w1 (⟨l0, hl0, hR0, v, rfl, hown⟩ | ⟨-, rfl, hw1⟩)
  · obtain ⟨v, c, rfl, hrs0, -⟩ := hown.rs tyE
    rw [HN.out] at hl0
    obtain ⟨hll, hlw⟩ := HEE.out l0 hl0
    have CP0 := print_any hrs0 hll (fun p hp => (hlw p hp).2)
    have H1 := Lib.hid (And.intro hown.frame (And.intro hR0 (readE_eq _ _ _ (Nat.le_refl _) hl0).1))
    clear hown hrs0 hll hlw hl0 hR0
    go_wp2_with fail
    refine CP0.mono ?_
    clear CP0
    rintro e w2 (⟨hbad, rfl, hw2⟩ | ⟨-, v2, rfl, hbuf⟩)
    · exact absurd H1.out.2.1 hbad
    · obtain ⟨a2, c2, rfl, hs2, -⟩ := hbuf.1.bs
      have g2 := H1.out.1.trans (hbuf.2.1.mono H1.out.1.size)
      have C5 := HCS.out w2 g2
      have C6 : (convert 26 9 (.slice a2 (bodyL l0).length c2)).run Try.prog w2 = .ok (.string (strOf (bodyL l0))) w2 := run_string_of_bytes hs2 26 5 9 Try.underlying26 Try.underlying5 Try.underlying9 c2
      rw [← H1.out.2.2] at C6 ⊢
      rw [← HS.out] at C5 C6
      rw [← HN.out] at C5 C6 ⊢
      have HB0 := Lib.hid g2
      clear g2 hbuf hs2
      have CF := HCF.out _ HB0.out
      go_wp2_with fail
      clear C5 C6 E1 E2
      refine CF.mono ?_
      clear CF
      rintro e w11 ⟨v11, rfl, hown⟩
      obtain ⟨v11, c11, rfl, hrs, -⟩ := hown.rs tyE
      have CP1 := print_any hrs (by have := HA.out.1; omega) (fun p hp => Nat.le_trans (HA.out.2 p hp).1 (by decide))
      have H11 := Lib.hid (And.intro (HB0.out.trans (hown.frame.mono HB0.out.size)) hrs)
      clear hown hrs
      go_wp2_with fail
      refine CP1.mono ?_
      clear CP1
      rintro e w12 (⟨hbad, rfl, hw12⟩ | ⟨hR, v12, rfl, hbuf⟩)
      · have H12 := Lib.hid (H11.out.1.trans (hw12.mono H11.out.1.size))
        clear hbad hw12
        go_wp2_with fail
        refine (CK _).mono ?_
        rintro e w13 ⟨rfl, hw13⟩
        have H13 := Lib.hid (H12.out.trans (hw13.mono H12.out.size))
        clear hw13
        go_wp2_with fail
        refine (CK _).mono ?_
        rintro e w14 ⟨rfl, hw14⟩
        have H14 := Lib.hid (H13.out.trans (hw14.mono H13.out.size))
        clear hw14 CK
        go_wp2_with fail
        go_ret
        exact ⟨rfl, H14.out⟩
      · obtain ⟨a12, c12, rfl, hs12, hc12, -, hn12⟩ := hbuf.1.bs
        have HR := Lib.hid hR
        have H12 := Lib.hid (And.intro (H11.out.1.trans (hbuf.2.1.mono H11.out.1.size)) (H11.out.2.below hbuf.2.1))
        have HS12 := Lib.hid hs12
        have HQ := Lib.hid (And.intro hR.good (And.intro hR.back (bodyL_len 300 _ (fun p hp => (HA.out.2 p hp).1))))
        obtain ⟨P, hP⟩ : ∃ P, P = bodyL A := ⟨_, rfl⟩
        rw [← hP] at hc12
        have HP := Lib.hid hP
        rw [← hP]
        have hPl : P.length ≤ 19680 := by
          rw [hP]
          have h1 := HQ.out.2.2
          have h2 := Nat.mul_le_mul_right (300 + 28) HA.out.1
          omega
        have HN12 := Lib.hid (And.intro hc12 (And.intro hn12 hPl))
        obtain ⟨k, hk, ek⟩ := u64_mod less (P.length + 1) (by omega) (by omega)
        obtain ⟨K, hK⟩ : ∃ K, K = P.length + 1 := ⟨_, rfl⟩
        rw [← hK] at hk ek
        have en : IntKind.u64.wrap (K : Int) = (K : Int) := by rw [IntKind.wrap_u64]; omega
        have en2 : IntKind.i64.wrap ((P.length : Int) + 1) = (K : Int) := by rw [IntKind.wrap_i64]; omega
        have en3 : wrap64 ((P.length : Int) + 1) = (K : Int) := by rw [IntWalk.wrap64_in _ ⟨by omega, by omega⟩]; omega
        have en0 : ¬ (K : Int) = 0 := by omega
        have SLK := fun W : World => run_slice_to 26 Try.underlying26 a12 P.length c12 k (by omega) (fun h => (hn12 h).2) (n := 1) (fun w => by kernel_rfl) W
        have HE := Lib.hid (And.intro ek (And.intro en (And.intro en2 (And.intro en0 (And.intro SLK (And.intro (show k < P.length + 1 by omega) en3))))))
        clear hR hbuf hs12 hP hc12 hn12 hK ek en en2 en3 en0 SLK hk hPl
        go_wp2_with fail
        refine (CK _).mono ?_
        rintro e w13 ⟨rfl, hw13⟩
        have hs13 : Bs w13 a12 P := by rw [HP.out]; exact HS12.out.below hw13
        have CP2 := parse_any hs13 (by have := HN12.out.2.2; omega) HN12.out.1 (fun h => (HN12.out.2.1 h).2)
        have HS13 := Lib.hid hs13
        have H13 := Lib.hid (And.intro (H12.out.1.trans (hw13.mono H12.out.1.size)) (H12.out.2.below hw13))
        clear hw13 CK hs13
        go_wp2_with fail
        refine CP2.mono ?_
        clear CP2
        rintro e w14 (⟨x, hx, -, v14, rfl, hown⟩ | ⟨hbad, rfl, hw14⟩)
        case inr =>
          rw [HP.out, HQ.out.2.1] at hbad
          rcases hbad with h | ⟨l3, h3, h4⟩
          · cases h
          · injection h3 with h3; exact absurd (h3 ▸ HR.out) h4
        have hxA : x = A := by rw [HP.out, HQ.out.2.1] at hx; injection hx with hx; exact hx.symm
        subst hxA
        obtain ⟨v14, c14, rfl, hrs14, -⟩ := hown.rs tyE
        have CA := as_any hrs14 (by have := HA.out.1; omega)
        have HS14 := Lib.hid (HS13.out.below hown.frame)
        have H14 := Lib.hid (And.intro (H13.out.1.trans (hown.frame.mono H13.out.1.size)) (H13.out.2.below hown.frame))
        clear hown hrs14 hx
        go_wp2_with fail
        refine CA.mono ?_
        clear CA
        rintro e w15 ⟨v15, rfl, hown⟩
        obtain ⟨v15, c15, rfl, hrs15, -⟩ := hown.rs tyF
        have CA := as_any (H14.out.2.below hown.frame) (by have := HA.out.1; omega)
        have HS15 := Lib.hid (HS14.out.below hown.frame)
        have H15 := Lib.hid (And.intro (H14.out.1.trans (hown.frame.mono H14.out.1.size)) (And.intro (H14.out.2.below hown.frame) hrs15))
        clear hown hrs15
        go_wp2_with fail
        refine CA.mono ?_
        clear CA
        rintro e w16 ⟨v16, rfl, hown⟩
        obtain ⟨v16, c16, rfl, hrs16, -⟩ := hown.rs tyF
        have CM := same_any (H15.out.2.2.below hown.frame) hrs16 (fun p hp => (HA.out.2 p hp).2) (fun p hp => (HA.out.2 p hp).2)
        rw [decide_eq_true rfl] at CM
        have HS16 := Lib.hid (HS15.out.below hown.frame)
        have H16 := Lib.hid (And.intro (H15.out.1.trans (hown.frame.mono H15.out.1.size)) (H15.out.2.1.below hown.frame))
        clear hown hrs16
        go_wp2_with fail
        refine CM.mono ?_
        clear CM
        rintro e w17 ⟨rfl, hw17⟩
        have hs17 := HS16.out.below hw17
        have H17 := Lib.hid (And.intro (H16.out.1.trans (hw17.mono H16.out.1.size)) (H16.out.2.below hw17))
        have hkl : (P.take k).length = k := by rw [List.length_take]; have := HE.out.2.2.2.2.2.1; omega
        have CP3 := parse_any (hs17.take k) (by have := HN12.out.2.2; rw [List.length_take]; omega) (by have := HN12.out.1; rw [List.length_take]; omega) (fun h => (HN12.out.2.1 h).2)
        rw [hkl] at CP3
        have HKL := Lib.hid hkl
        obtain ⟨ek, en, en2, en0, SLK, -, en3⟩ := HE.out
        clear hw17 hs17 hkl
        generalize hpl : P.length = pl at *
        have HPL := Lib.hid hpl
        clear hpl
        go_wp2_with fail
        refine CP3.mono ?_
        clear CP3 ek en en2 en0 SLK en3
        rintro e w18 (⟨y, hy, -, v18, rfl, hown⟩ | ⟨hbad, rfl, hw18⟩)
        · have hy2 := readE_eq k _ y (by rw [HKL.out]; exact Nat.le_refl _) hy
          have hy3 := body_prefix y x (P.drop k) hy2.2 HQ.out.1 (by rw [← hy2.1, List.take_append_drop, HP.out])
          obtain ⟨v18, c18, rfl, hrs18, -⟩ := hown.rs tyE
          have HY := Lib.hid (And.intro hy3 hrs18)
          have hg18 := H17.out.2.below hown.frame
          have SLA := hg18.to tyE hy3.2 (y.length : Int) rfl
          have hgt := hg18.take y.length
          rw [← hy3.1] at hgt
          have H18 := Lib.hid (And.intro (H17.out.1.trans (hown.frame.mono H17.out.1.size)) hgt)
          have HYW := Lib.hid (fun p (hp : p ∈ y) => (HA.out.2 p (by rw [hy3.1] at hp; exact List.mem_of_mem_take hp)).2)
          have hle : decide ((y.length : Int) ≤ (x.length : Int)) = true := decide_eq_true (by have := hy3.2; omega)
          have hle' : decide (y.length ≤ x.length) = true := decide_eq_true hy3.2
          have HYL := Lib.hid (show y.length ≤ 1000000 by have := hy3.2; have := HA.out.1; omega)
          clear hy hy2 hy3 hown hrs18 hg18 hgt
          generalize hyl : y.length = yl at *
          have HYL2 := Lib.hid hyl
          clear hyl
          generalize hxl : x.length = xl at *
          clear hxl
          go_upto_region 16 with (fail)
          refine wp_region_mg [(0, 0), (1, 0), (2, 0), (3, 0), (4, 0), (5, 0), (6, 0), (7, 0), (8, 0), (9, 0), (11, 0), (12, 0), (13, 0), (14, 0), (10, 1), (15, 1), (16, 1), (17, 0), (18, 0), (19, 0)] (by kernel_rfl) (by kernel_rfl) ?_
          iterate 13 (refine mg_calm rfl (fun K hK => ?_); go_simp; (refine hK _ ?_; clear hK K))
          refine mg_slice rfl rfl _ _ _ _ _ rfl _ none (some (.int .i64 (yl : Int))) none _ rfl rfl rfl rfl SLA ?_
          refine mg_loud rfl rfl (fun w19 hw19 K hK => ?_)
          have CA := as_any (HY.out.2.below hw19) (by rw [HYL2.out]; exact HYL.out)
          rw [HYL2.out] at CA
          go_wp2_with fail
          refine CA.mono ?_
          clear CA
          rintro e w20 ⟨v20, rfl, hown⟩
          obtain ⟨v20, c20, rfl, hrs20, -⟩ := hown.rs tyF
          rw [HYL2.out]
          have H20 := Lib.hid (And.intro (H18.out.1.trans (Below.mono (hw19.trans hown.frame) H18.out.1.size)) (And.intro (H18.out.2.below (hw19.trans hown.frame)) hrs20))
          have HF20 := Lib.hid hown.frame
          clear hown hrs20 hw19
          go_wp2_with fail
          refine hK _ _ HF20.out ?_
          clear hK K
          refine mg_loud rfl rfl (fun w21 hw21 K hK => ?_)
          have CA := as_any (H20.out.2.1.below hw21) (by rw [HYL2.out]; exact HYL.out)
          rw [HYL2.out] at CA
          go_wp2_with fail
          refine CA.mono ?_
          clear CA
          rintro e w22 ⟨v22, rfl, hown⟩
          obtain ⟨v22, c22, rfl, hrs22, -⟩ := hown.rs tyF
          rw [HYL2.out]
          have g22 := hw21.trans hown.frame
          have H22 := Lib.hid (And.intro (H20.out.1.trans (Below.mono g22 H20.out.1.size)) (And.intro (H20.out.2.2.below g22) hrs22))
          have HF22 := Lib.hid hown.frame
          clear hown hrs22 hw21 g22
          go_wp2_with fail
          refine hK _ _ HF22.out ?_
          clear hK K
          refine mg_loud rfl rfl (fun w23 hw23 K hK => ?_)
          have CM := same_any (H22.out.2.1.below hw23) (H22.out.2.2.below hw23) HYW.out HYW.out
          rw [decide_eq_true rfl, HYL2.out] at CM
          have H23 := Lib.hid (H22.out.1.trans (Below.mono hw23 H22.out.1.size))
          clear hw23
          go_wp2_with fail
          refine CM.mono ?_
          clear CM
          rintro e w24 ⟨rfl, hw24⟩
          have H24 := Lib.hid (H23.out.trans (hw24.mono H23.out.size))
          go_wp2_with fail
          refine hK _ _ hw24 ?_
          clear hK K hw24
          iterate 3 (refine mg_calm rfl (fun K hK => ?_); go_simp; (refine hK _ ?_; clear hK K))
          refine mg_nil fun w25 hw25 => ?_
          have H25 := Lib.hid (H24.out.trans (Below.mono hw25 H24.out.size))
          clear hw25
          go_wp2_with fail
          go_ret
          exact ⟨rfl, H25.out⟩
        · have H18 := Lib.hid (H17.out.1.trans (hw18.mono H17.out.1.size))
          clear hbad hw18
          go_upto_region 16 with (fail)
          refine wp_region_mg [(0, 0), (1, 0), (2, 0), (3, 0), (4, 0), (5, 0), (6, 0), (7, 0), (8, 0), (9, 0), (10, 0), (11, 0), (12, 0), (13, 0), (14, 0), (15, 0), (16, 0), (17, 0), (18, 0), (19, 0)] (by kernel_rfl) (by kernel_rfl) ?_
          iterate 20 (refine mg_calm rfl (fun K hK => ?_); go_simp; (refine hK _ ?_; clear hK K))
          refine mg_nil fun w25 hw25 => ?_
          have H25 := Lib.hid (H18.out.trans (Below.mono hw25 H18.out.size))
          clear hw25
          go_wp2_with fail
          go_ret
          exact ⟨rfl, H25.out⟩
  · have HB0 := Lib.hid hw1
    clear hw1 E1 E2
    have CF := HCF.out _ HB0.out
    go_wp2_with fail
    refine CF.mono ?_
    clear CF
    rintro e w11 ⟨v11, rfl, hown⟩
    obtain ⟨v11, c11, rfl, hrs, -⟩ := hown.rs tyE
    have CP1 := print_any hrs (by have := HA.out.1; omega) (fun p hp => Nat.le_trans (HA.out.2 p hp).1 (by decide))
    have H11 := Lib.hid (And.intro (HB0.out.trans (hown.frame.mono HB0.out.size)) hrs)
    clear hown hrs
    go_wp2_with fail
    refine CP1.mono ?_
    clear CP1
    rintro e w12 (⟨hbad, rfl, hw12⟩ | ⟨hR, v12, rfl, hbuf⟩)
    · have H12 := Lib.hid (H11.out.1.trans (hw12.mono H11.out.1.size))
      clear hbad hw12
      go_wp2_with fail
      refine (CK _).mono ?_
      rintro e w13 ⟨rfl, hw13⟩
      have H13 := Lib.hid (H12.out.trans (hw13.mono H12.out.size))
      clear hw13
      go_wp2_with fail
      refine (CK _).mono ?_
      rintro e w14 ⟨rfl, hw14⟩
      have H14 := Lib.hid (H13.out.trans (hw14.mono H13.out.size))
      clear hw14 CK
      go_wp2_with fail
      go_ret
      exact ⟨rfl, H14.out⟩
    · obtain ⟨a12, c12, rfl, hs12, hc12, -, hn12⟩ := hbuf.1.bs
      have HR := Lib.hid hR
      have H12 := Lib.hid (And.intro (H11.out.1.trans (hbuf.2.1.mono H11.out.1.size)) (H11.out.2.below hbuf.2.1))
      have HS12 := Lib.hid hs12
      have HQ := Lib.hid (And.intro hR.good (And.intro hR.back (bodyL_len 300 _ (fun p hp => (HA.out.2 p hp).1))))
      obtain ⟨P, hP⟩ : ∃ P, P = bodyL A := ⟨_, rfl⟩
      rw [← hP] at hc12
      have HP := Lib.hid hP
      rw [← hP]
      have hPl : P.length ≤ 19680 := by
        rw [hP]
        have h1 := HQ.out.2.2
        have h2 := Nat.mul_le_mul_right (300 + 28) HA.out.1
        omega
      have HN12 := Lib.hid (And.intro hc12 (And.intro hn12 hPl))
      obtain ⟨k, hk, ek⟩ := u64_mod less (P.length + 1) (by omega) (by omega)
      obtain ⟨K, hK⟩ : ∃ K, K = P.length + 1 := ⟨_, rfl⟩
      rw [← hK] at hk ek
      have en : IntKind.u64.wrap (K : Int) = (K : Int) := by rw [IntKind.wrap_u64]; omega
      have en2 : IntKind.i64.wrap ((P.length : Int) + 1) = (K : Int) := by rw [IntKind.wrap_i64]; omega
      have en3 : wrap64 ((P.length : Int) + 1) = (K : Int) := by rw [IntWalk.wrap64_in _ ⟨by omega, by omega⟩]; omega
      have en0 : ¬ (K : Int) = 0 := by omega
      have SLK := fun W : World => run_slice_to 26 Try.underlying26 a12 P.length c12 k (by omega) (fun h => (hn12 h).2) (n := 1) (fun w => by kernel_rfl) W
      have HE := Lib.hid (And.intro ek (And.intro en (And.intro en2 (And.intro en0 (And.intro SLK (And.intro (show k < P.length + 1 by omega) en3))))))
      clear hR hbuf hs12 hP hc12 hn12 hK ek en en2 en3 en0 SLK hk hPl
      go_wp2_with fail
      refine (CK _).mono ?_
      rintro e w13 ⟨rfl, hw13⟩
      have hs13 : Bs w13 a12 P := by rw [HP.out]; exact HS12.out.below hw13
      have CP2 := parse_any hs13 (by have := HN12.out.2.2; omega) HN12.out.1 (fun h => (HN12.out.2.1 h).2)
      have HS13 := Lib.hid hs13
      have H13 := Lib.hid (And.intro (H12.out.1.trans (hw13.mono H12.out.1.size)) (H12.out.2.below hw13))
      clear hw13 CK hs13
      go_wp2_with fail
      refine CP2.mono ?_
      clear CP2
      rintro e w14 (⟨x, hx, -, v14, rfl, hown⟩ | ⟨hbad, rfl, hw14⟩)
      case inr =>
        rw [HP.out, HQ.out.2.1] at hbad
        rcases hbad with h | ⟨l3, h3, h4⟩
        · cases h
        · injection h3 with h3; exact absurd (h3 ▸ HR.out) h4
      have hxA : x = A := by rw [HP.out, HQ.out.2.1] at hx; injection hx with hx; exact hx.symm
      subst hxA
      obtain ⟨v14, c14, rfl, hrs14, -⟩ := hown.rs tyE
      have CA := as_any hrs14 (by have := HA.out.1; omega)
      have HS14 := Lib.hid (HS13.out.below hown.frame)
      have H14 := Lib.hid (And.intro (H13.out.1.trans (hown.frame.mono H13.out.1.size)) (H13.out.2.below hown.frame))
      clear hown hrs14 hx
      go_wp2_with fail
      refine CA.mono ?_
      clear CA
      rintro e w15 ⟨v15, rfl, hown⟩
      obtain ⟨v15, c15, rfl, hrs15, -⟩ := hown.rs tyF
      have CA := as_any (H14.out.2.below hown.frame) (by have := HA.out.1; omega)
      have HS15 := Lib.hid (HS14.out.below hown.frame)
      have H15 := Lib.hid (And.intro (H14.out.1.trans (hown.frame.mono H14.out.1.size)) (And.intro (H14.out.2.below hown.frame) hrs15))
      clear hown hrs15
      go_wp2_with fail
      refine CA.mono ?_
      clear CA
      rintro e w16 ⟨v16, rfl, hown⟩
      obtain ⟨v16, c16, rfl, hrs16, -⟩ := hown.rs tyF
      have CM := same_any (H15.out.2.2.below hown.frame) hrs16 (fun p hp => (HA.out.2 p hp).2) (fun p hp => (HA.out.2 p hp).2)
      rw [decide_eq_true rfl] at CM
      have HS16 := Lib.hid (HS15.out.below hown.frame)
      have H16 := Lib.hid (And.intro (H15.out.1.trans (hown.frame.mono H15.out.1.size)) (H15.out.2.1.below hown.frame))
      clear hown hrs16
      go_wp2_with fail
      refine CM.mono ?_
      clear CM
      rintro e w17 ⟨rfl, hw17⟩
      have hs17 := HS16.out.below hw17
      have H17 := Lib.hid (And.intro (H16.out.1.trans (hw17.mono H16.out.1.size)) (H16.out.2.below hw17))
      have hkl : (P.take k).length = k := by rw [List.length_take]; have := HE.out.2.2.2.2.2.1; omega
      have CP3 := parse_any (hs17.take k) (by have := HN12.out.2.2; rw [List.length_take]; omega) (by have := HN12.out.1; rw [List.length_take]; omega) (fun h => (HN12.out.2.1 h).2)
      rw [hkl] at CP3
      have HKL := Lib.hid hkl
      obtain ⟨ek, en, en2, en0, SLK, -, en3⟩ := HE.out
      clear hw17 hs17 hkl
      generalize hpl : P.length = pl at *
      have HPL := Lib.hid hpl
      clear hpl
      go_wp2_with fail
      refine CP3.mono ?_
      clear CP3 ek en en2 en0 SLK en3
      rintro e w18 (⟨y, hy, -, v18, rfl, hown⟩ | ⟨hbad, rfl, hw18⟩)
      · have hy2 := readE_eq k _ y (by rw [HKL.out]; exact Nat.le_refl _) hy
        have hy3 := body_prefix y x (P.drop k) hy2.2 HQ.out.1 (by rw [← hy2.1, List.take_append_drop, HP.out])
        obtain ⟨v18, c18, rfl, hrs18, -⟩ := hown.rs tyE
        have HY := Lib.hid (And.intro hy3 hrs18)
        have hg18 := H17.out.2.below hown.frame
        have SLA := hg18.to tyE hy3.2 (y.length : Int) rfl
        have hgt := hg18.take y.length
        rw [← hy3.1] at hgt
        have H18 := Lib.hid (And.intro (H17.out.1.trans (hown.frame.mono H17.out.1.size)) hgt)
        have HYW := Lib.hid (fun p (hp : p ∈ y) => (HA.out.2 p (by rw [hy3.1] at hp; exact List.mem_of_mem_take hp)).2)
        have hle : decide ((y.length : Int) ≤ (x.length : Int)) = true := decide_eq_true (by have := hy3.2; omega)
        have hle' : decide (y.length ≤ x.length) = true := decide_eq_true hy3.2
        have HYL := Lib.hid (show y.length ≤ 1000000 by have := hy3.2; have := HA.out.1; omega)
        clear hy hy2 hy3 hown hrs18 hg18 hgt
        generalize hyl : y.length = yl at *
        have HYL2 := Lib.hid hyl
        clear hyl
        generalize hxl : x.length = xl at *
        clear hxl
        go_upto_region 16 with (fail)
        refine wp_region_mg [(0, 0), (1, 0), (2, 0), (3, 0), (4, 0), (5, 0), (6, 0), (7, 0), (8, 0), (9, 0), (11, 0), (12, 0), (13, 0), (14, 0), (10, 1), (15, 1), (16, 1), (17, 0), (18, 0), (19, 0)] (by kernel_rfl) (by kernel_rfl) ?_
        iterate 13 (refine mg_calm rfl (fun K hK => ?_); go_simp; (refine hK _ ?_; clear hK K))
        refine mg_slice rfl rfl _ _ _ _ _ rfl _ none (some (.int .i64 (yl : Int))) none _ rfl rfl rfl rfl SLA ?_
        refine mg_loud rfl rfl (fun w19 hw19 K hK => ?_)
        have CA := as_any (HY.out.2.below hw19) (by rw [HYL2.out]; exact HYL.out)
        rw [HYL2.out] at CA
        go_wp2_with fail
        refine CA.mono ?_
        clear CA
        rintro e w20 ⟨v20, rfl, hown⟩
        obtain ⟨v20, c20, rfl, hrs20, -⟩ := hown.rs tyF
        rw [HYL2.out]
        have H20 := Lib.hid (And.intro (H18.out.1.trans (Below.mono (hw19.trans hown.frame) H18.out.1.size)) (And.intro (H18.out.2.below (hw19.trans hown.frame)) hrs20))
        have HF20 := Lib.hid hown.frame
        clear hown hrs20 hw19
        go_wp2_with fail
        refine hK _ _ HF20.out ?_
        clear hK K
        refine mg_loud rfl rfl (fun w21 hw21 K hK => ?_)
        have CA := as_any (H20.out.2.1.below hw21) (by rw [HYL2.out]; exact HYL.out)
        rw [HYL2.out] at CA
        go_wp2_with fail
        refine CA.mono ?_
        clear CA
        rintro e w22 ⟨v22, rfl, hown⟩
        obtain ⟨v22, c22, rfl, hrs22, -⟩ := hown.rs tyF
        rw [HYL2.out]
        have g22 := hw21.trans hown.frame
        have H22 := Lib.hid (And.intro (H20.out.1.trans (Below.mono g22 H20.out.1.size)) (And.intro (H20.out.2.2.below g22) hrs22))
        have HF22 := Lib.hid hown.frame
        clear hown hrs22 hw21 g22
        go_wp2_with fail
        refine hK _ _ HF22.out ?_
        clear hK K
        refine mg_loud rfl rfl (fun w23 hw23 K hK => ?_)
        have CM := same_any (H22.out.2.1.below hw23) (H22.out.2.2.below hw23) HYW.out HYW.out
        rw [decide_eq_true rfl, HYL2.out] at CM
        have H23 := Lib.hid (H22.out.1.trans (Below.mono hw23 H22.out.1.size))
        clear hw23
        go_wp2_with fail
        refine CM.mono ?_
        clear CM
        rintro e w24 ⟨rfl, hw24⟩
        have H24 := Lib.hid (H23.out.trans (hw24.mono H23.out.size))
        go_wp2_with fail
        refine hK _ _ hw24 ?_
        clear hK K hw24
        iterate 3 (refine mg_calm rfl (fun K hK => ?_); go_simp; (refine hK _ ?_; clear hK K))
        refine mg_nil fun w25 hw25 => ?_
        have H25 := Lib.hid (H24.out.trans (Below.mono hw25 H24.out.size))
        clear hw25
        go_wp2_with fail
        go_ret
        exact ⟨rfl, H25.out⟩
      · have H18 := Lib.hid (H17.out.1.trans (hw18.mono H17.out.1.size))
        clear hbad hw18
        go_upto_region 16 with (fail)
        refine wp_region_mg [(0, 0), (1, 0), (2, 0), (3, 0), (4, 0), (5, 0), (6, 0), (7, 0), (8, 0), (9, 0), (10, 0), (11, 0), (12, 0), (13, 0), (14, 0), (15, 0), (16, 0), (17, 0), (18, 0), (19, 0)] (by kernel_rfl) (by kernel_rfl) ?_
        iterate 20 (refine mg_calm rfl (fun K hK => ?_); go_simp; (refine hK _ ?_; clear hK K))
        refine mg_nil fun w25 hw25 => ?_
        have H25 := Lib.hid (H18.out.trans (Below.mono hw25 H18.out.size))
        clear hw25
        go_wp2_with fail
        go_ret
        exact ⟨rfl, H25.out⟩
end Go.Proofs.Ytbllpjphlanchaa
