/-
  The law MarksAdds: the walk.
-/
import Derived.Test.YtnlkanhakmkejaaAddsPure
import Derived.Test.YtnlkanhakmkejaaAddsRegs
namespace Go.Proofs.Ytnlkanhakmkejaa
open Go.RowKit Go.Mix Go.WideMaps Go.Proofs

theorem OwnP.beside {e : TypeId} {w0 w1 w w' : World} {v : Value} {l : List Pr} {row : Option Nat} (h : OwnP e w1 w v l) (g : w.grownBy w' row) (hr : ∀ k, row = some k → k < w1.heap.size) (b : Below w0.heap.size w0 w1) (hf : Below w0.heap.size w0 w') : OwnP e w0 w' v l := by
  have hk := World.ownsRow.kept h.own g (by
    rcases hv : v.ownBlock with _ | k
    · exact .inl rfl
    · refine .inr fun e => ?_
      have h1 := (h.block k hv).1
      have h2 := hr k e.symm
      omega)
  refine ⟨⟨hk.1, hk.2.imp id ?_⟩, hf⟩
  rintro ⟨g, cap, cur, e1, hg, r⟩
  exact ⟨g, cap, cur, e1, Nat.le_trans b.size hg, r⟩

set_option maxRecDepth 100000 in
set_option maxHeartbeats 8000000 in
theorem marksAdds_at {w : World} {l : List Pr} {a : Option Addr} {cap : Nat} (hg : PsAt w a cap l) :
    Calls Try.prog 3 #[.slice a l.length cap] w fun e w' => e = .returned (.bool true) ∧ Below w.heap.size w w' := by
  have CF := few_any hg
  obtain ⟨m, hm⟩ : ∃ m, m = l.take 40 := ⟨_, rfl⟩
  have hm40 : m.length ≤ 40 := by rw [hm, List.length_take]; omega
  have HM := Lib.hid hm40
  rw [← hm] at CF
  generalize l.length = n0 at *
  clear hm hm40 hg
  obtain ⟨Z, hZ⟩ : ∃ Z, Z = idA id0 := ⟨_, rfl⟩
  have z : ∀ w, (zeroValue 30).run Try.prog w = .ok (.agg Z) w := fun w => by rw [hZ]; kernel_rfl
  have HZ := Lib.hid hZ
  clear hZ
  go_enter Try.func3, Try.ntmps3
  go_wp2_with fail
  refine CF.mono ?_
  rintro e w2 ⟨v, rfl, ho⟩
  obtain ⟨am, cm, rfl, hps, hpl⟩ := ho.psA
  have HB := Lib.hid ho.frame
  have HPS := Lib.hid hps
  have HPL := Lib.hid hpl
  obtain ⟨n, hn⟩ : ∃ n, n = m.length := ⟨_, rfl⟩
  have HN := Lib.hid hn
  have hn40 : n ≤ 40 := by rw [hn]; exact HM.out
  rw [← hn]
  clear CF ho hps hpl hn
  have hF2 : Below w2.heap.size w2 w2 := Below.refl _ _
  go_wp2_with fail
  go_loopw [4, 5] (fun s4 s5 wr => ∃ i : Nat, s5 = .int .i64 (i : Int) ∧ i ≤ n ∧ OwnP 32 w2 wr s4 (nowsL (m.take i))) (fun _ s5 _ => n - (intOf s5).toNat)
  case atStart => exact ⟨0, rfl, Nat.zero_le _, OwnP.nil hF2⟩
  case round =>
    clear hF2
    obtain ⟨i, rfl, hi, hrow⟩ := hrel
    have hnl : (nowsL (m.take i)).length ≤ 40 := by have := nows_len (m.take i); rw [List.length_take] at this; have := HM.out; omega
    have hrt := rt_nows (m.take i)
    obtain ⟨an, cn, rfl, hpn, hpln⟩ := hrow.psA
    have HROW := Lib.hid hrow
    have HPN := Lib.hid hpn
    have HPLN := Lib.hid hpln
    have HRT := Lib.hid hrt
    have hF := hrow.frame
    by_cases hin : i < n
    · have t1 : decide ((i : Int) < (n : Int)) = true := decide_eq_true (by omega)
      have t1' : decide (i < n) = true := decide_eq_true (by omega)
      have him : i < m.length := by rw [← HN.out]; omega
      have HS := Lib.hid (nows_succ him)
      clear hrt
      generalize nowsL (m.take i) = now at *
      obtain ⟨nn, hnn⟩ : ∃ nn, nn = now.length := ⟨_, rfl⟩
      have HNN := Lib.hid hnn
      have hnn40 : nn ≤ 40 := by omega
      have C6 := as_any hpn (by omega)
      rw [← hnn] at C6 ⊢
      have HF := Lib.hid hF
      clear hnl hrow hpn hpln hF hnn
      go_wp2_with fail
      refine C6.mono ?_
      rintro e w6 ⟨v6, rfl, how⟩
      obtain ⟨aw, cw, rfl, hpw⟩ := how.ps
      have hf6 := how.frame
      have hF6 := HF.out.trans (hf6.mono HF.out.size)
      obtain ⟨b, q, IX, L, -, -⟩ := (HPS.out.below hF6).at tyG (i : Int) i rfl him
      rw [← HN.out] at IX
      have L' := L w6 (Below.refl _ _)
      have C7 := add_any (HPN.out.below hf6) HPLN.out (by rw [← HNN.out]; omega) m[i]!
      obtain ⟨qq, hqq⟩ : ∃ q, q = m[i]! := ⟨_, rfl⟩
      have HQ := Lib.hid hqq
      rw [← HNN.out] at C7 ⊢
      rw [← hqq] at L' C7
      have HHOW := Lib.hid how
      have HF6 := Lib.hid (And.intro hf6 hF6)
      have HIM := Lib.hid him
      clear C6 L how hpw hf6 hF6 hqq him
      go_wp2_with (refine wpList_load_at rfl _ _ rfl _ _ rfl L' ?_)
      refine C7.mono ?_
      rintro e w7 ⟨v7, rfl, ho7⟩
      have how7 := HHOW.out.later ho7.frame
      have hf7 := HF6.out.1.trans (ho7.frame.mono HF6.out.1.size)
      have hF7 := HF6.out.2.trans (ho7.frame.mono HF6.out.2.size)
      have HO7 := Lib.hid ho7
      have HOW7 := Lib.hid how7
      have HF7 := Lib.hid (And.intro hf7 hF7)
      obtain ⟨n7, hn7⟩ : ∃ n7, n7 = (addL now qq).length := ⟨_, rfl⟩
      have HN7 := Lib.hid hn7
      obtain ⟨a7, c7, rfl, hp7, -⟩ := ho7.psA
      rw [← hn7]
      have HP7 := Lib.hid hp7
      have hB0 : Below w7.heap.size w7 w7 := Below.refl _ _
      clear C7 L' IX ho7 how7 hf7 hF7 hn7 hp7
      go_wp2_with fail
      go_loopw [9, 10, 11] (fun s9 s10 s11 wr => ∃ k : Nat, s11 = .int .i64 (k : Int) ∧ k ≤ nn ∧ s9 = .bool (inL (now.take k) qq) ∧ s10 = .bool (clL (now.take k) qq) ∧ Below w7.heap.size w7 wr) (fun _ _ s11 _ => nn - (intOf s11).toNat)
      case atStart => exact ⟨0, rfl, Nat.zero_le _, rfl, rfl, hB0⟩
      case round =>
        clear hB0
        obtain ⟨k, rfl, hk, rfl, rfl, hbr⟩ := hrel
        have hf8 := HF7.out.1.trans (hbr.mono HF7.out.1.size)
        have hF8 := HF7.out.2.trans (hbr.mono HF7.out.2.size)
        by_cases hkn : k < nn
        · have u1 : decide ((k : Int) < (nn : Int)) = true := decide_eq_true (by omega)
          have u1' : decide (k < nn) = true := decide_eq_true (by omega)
          have hkl : k < now.length := by rw [← HNN.out]; omega
          have HI1 := Lib.hid (any_succ (fun y => decide (y = qq)) hkl)
          have HI2 := Lib.hid (any_succ (clashes qq) hkl)
          obtain ⟨b1, q1, IX1, L1, L1a, L1b⟩ := (HPN.out.below hf8).at tyG (k : Int) k rfl hkl
          obtain ⟨b2, q2, IX2, L2, L2a, L2b⟩ := (HPS.out.below hF8).at tyG (i : Int) i rfl HIM.out
          rw [← HNN.out] at IX1
          rw [← HN.out] at IX2
          rw [← HQ.out] at L2 L2a L2b
          have HL := Lib.hid (And.intro (And.intro L1a L1b) (And.intro L2a L2b))
          have HBR := Lib.hid hbr
          clear L1a L1b L2a L2b hkl hbr hf8 hF8
          go_upto_region 12 with (fail)
          refine wp_code_eq (by kernel_rfl : _ = adds12Code) ?_
          refine adds12 IX1 (fun y => L1 y.1 y.2) IX2 (fun y => L2 y.1 y.2) _ _ _ _ _ _ _ _ _ _ _ _ _ _ _ _ _ _ _ _ _ _ _ _ _ _ _ _ _ _ _ _ _ _ _ _ _ _ _ _ _ _ _ _ _ _ _ _ _ _ _ _ _ _ _ _ _ _ _ _ _ _ _ _ _ _ _ _ _ _ _ _ _ _ _ _ _ _ _ _ _ _ _ _ _ _ _ _ _ _ _ _ _ _ _ _ _ _ _ _ _ _ _ _ _ _ _ _ _ _ _ _ _ _ _ _ _ _ _ _ _ _ _ _ _ _ _ _ _ _ _ _ _ _ _ _ _ _ _ _ _ _ _ _ _ _ _ _ _ _ _ _ _ _ _ _ _ _ _ _ _ _ _ _ _ _ _ _ _ _ _ _ _ _ ?_
          intro _ _ _ _ _ _ _ _ _ _ _ _ w9 hw9
          have HW9 := Lib.hid hw9
          clear L1 L2 hw9
          go_upto_region 13 with (fail)
          refine wp_code_eq (by kernel_rfl : _ = adds13Code) ?_
          refine adds13 IX1 (fun y => HL.out.1.1 y.1 (HW9.out.trans y.2)) (fun y => HL.out.1.2 y.1 (HW9.out.trans y.2)) IX2 (fun y => HL.out.2.1 y.1 (HW9.out.trans y.2)) (fun y => HL.out.2.2 y.1 (HW9.out.trans y.2)) _ _ _ _ _ _ _ _ _ _ _ _ _ _ _ _ _ _ _ _ _ _ _ _ _ _ _ _ _ _ _ _ _ _ _ _ _ _ _ _ _ _ _ _ _ _ _ _ _ _ _ _ _ _ _ _ _ _ _ _ _ _ _ _ _ _ _ _ _ _ _ _ _ _ _ _ _ _ _ _ _ _ _ _ _ _ _ _ _ _ _ _ _ _ _ _ _ _ _ _ _ _ _ _ _ _ _ _ _ _ _ _ _ _ _ _ _ _ _ _ _ _ _ _ _ _ _ _ _ _ _ _ _ _ _ _ _ _ _ _ _ _ _ _ _ _ _ _ _ _ _ _ _ _ _ _ _ _ _ _ _ _ _ _ _ _ _ _ _ _ _ _ _ _ ?_
          intro _ _ _ _ _ _ _ _ _ _ _ _ _ _ _ _ _ _ _ _ _ _ _ _ _ _ _ w10 hw10
          have HB10 := Lib.hid (HBR.out.trans (Below.mono (Grow.trans HW9.out hw10) HBR.out.size))
          clear IX1 IX2 hw10
          go_wp2_with fail
          go_roundw
          case rel => exact ⟨k + 1, by go_num, by omega, by unfold inL; rw [HI1.out], by unfold clL; rw [HI2.out], HB10.out⟩
          case measure => simp [intOf]; omega
        · obtain rfl : k = nn := by omega
          have u1 : decide ((k : Int) < (k : Int)) = false := decide_eq_false (by omega)
          have u1' : decide (k < k) = false := decide_eq_false (by omega)
          have et : now.take k = now := by rw [HNN.out]; exact List.take_of_length_le (Nat.le_refl _)
          have C14 := as_any (HPN.out.below hf8) (by rw [← HNN.out]; omega)
          rw [← HNN.out] at C14
          rw [et]
          have HF8 := Lib.hid (And.intro hbr (And.intro hf8 hF8))
          clear et hbr hf8 hF8
          obtain ⟨d1, hd1⟩ : ∃ d, d = inL now qq := ⟨_, rfl⟩
          obtain ⟨d2, hd2⟩ : ∃ d, d = clL now qq := ⟨_, rfl⟩
          rw [← hd1, ← hd2]
          have HD := Lib.hid (And.intro hd1 hd2)
          clear hd1 hd2
          go_wp2_with fail
          refine C14.mono ?_
          rintro e w11 ⟨v11, rfl, ho11⟩
          obtain ⟨a11, c11, rfl, hp11⟩ := ho11.ps
          have hb11 := HF8.out.1.trans (ho11.frame.mono HF8.out.1.size)
          obtain ⟨aw', cw', ew, hpw⟩ := (HOW7.out.later hb11).ps
          injection ew with ew1 ew2 ew3
          subst ew1 ew3
          have C15 := same_any hp11 hpw
          rw [← HNN.out] at C15 ⊢
          have ed : decide (now = now) = true := decide_eq_true rfl
          rw [ed] at C15
          have HB11 := Lib.hid hb11
          clear C14 ho11 hp11 hb11 hpw ed ew2
          go_wp2_with fail
          refine C15.mono ?_
          rintro e w12 ⟨rfl, hb12⟩
          have hb12' := HB11.out.trans (hb12.mono HB11.out.size)
          have hf12 := HF7.out.1.trans (hb12'.mono HF7.out.1.size)
          have hF12 := HF7.out.2.trans (hb12'.mono HF7.out.2.size)
          have HB12 := Lib.hid (And.intro hb12' (And.intro hf12 hF12))
          clear C15 hb12 hb12' hf12 hF12
          cases d1
          · cases d2
            · obtain ⟨x1, x2, x3⟩ := add_new HD.out.1.symm HD.out.2.symm
              have HX := Lib.hid x3
              have hp7 := HP7.out.below HB12.out.1
              have ho7 := HO7.out.later HB12.out.1
              have how := HOW7.out.later HB12.out.1
              rw [x1] at hp7 ho7
              have e7 : n7 = (now ++ [qq]).length := by rw [HN7.out, x1]
              rw [x2]
              obtain ⟨bs, SL, hsl⟩ := (HPS.out.below HB12.out.2.2).mid tyG HIM.out
              rw [← HN.out, ] at SL
              rw [← HQ.out] at hsl
              have C16 : ∀ W, Grow w12 W → _ := fun W (g : Below w12.heap.size w12 W) => as_any (hp7.below g) (by rw [List.length_append, ← HNN.out]; simp; omega)
              rw [← e7] at C16
              have C17 : ∀ W, Grow w12 W → _ := fun W (g : Below w12.heap.size w12 W) => as_any (hsl.below g) (by simp)
              have iw : (((i : Int) + 1) : Int) = ((i + 1 : Nat) : Int) := by omega
              have HSL := Lib.hid hsl
              have HO7' := Lib.hid ho7
              have HOW := Lib.hid how
              have HE7 := Lib.hid e7
              clear x1 x2 x3 hp7 ho7 how e7 hsl iw
              go_upto_region 16 with (fail)
              refine wp_region_mix [(0, 0), (1, 0), (2, 0), (3, 0), (5, 0), (6, 0), (7, 0), (8, 0), (9, 0), (10, 0), (4, 1), (11, 1), (12, 2), (13, 0), (14, 0), (15, 0)] (by kernel_rfl) (by kernel_rfl) ?_
              have hw64 : IntKind.i64.wrap ((i : Int) + 1) = (i : Int) + 1 := IntWalk.i64_in _ (by omega)
              iterate 10 (refine mix_calm rfl (fun K hK => ?_); go_simp; (refine hK _ ?_; clear hK K))
              refine mix_loud rfl rfl (fun w13 hw13 K hK => ?_)
              have C := C16 w13 hw13
              go_wp2_with fail
              refine C.mono ?_
              rintro e w14 ⟨v14, rfl, ho14⟩
              go_wp2_with fail
              refine hK _ _ ho14.frame ?_
              have hw14 := Grow.trans hw13 ho14.frame
              have HW13 := Lib.hid hw13
              clear hK K C C16 hw13
              refine mix_loud rfl rfl (fun w15 hw15 K hK => ?_)
              have hw15' := Grow.trans hw14 hw15
              have C := C17 w15 hw15'
              have ho15 := ho14.later hw15
              go_wp2_with fail
              refine C.mono ?_
              rintro e w16 ⟨v16, rfl, ho16⟩
              go_wp2_with fail
              refine hK _ _ ho16.frame ?_
              have hw16 := Grow.trans hw15' ho16.frame
              have ho14' := ho15.later ho16.frame
              clear hK K C C17 hw15 hw14 ho14 ho15 hw15'
              refine mix_sync rfl rfl (fun w17 hw17 K hK => ?_)
              have g17 := Grow.trans hw16 hw17
              have how17 := HOW.out.later g17
              have ho14'' := ho14'.later hw17
              have ho16' := ho16.later hw17
              obtain ⟨a16, c16, rfl, hp16⟩ := ho16'.ps
              have HO14 := Lib.hid ho14''
              have HG17 := Lib.hid g17
              refine wpList_unguard rfl ?_
              rw [← HNN.out] at how17
              refine wpList_append_p tyR rfl (.tmp 91) (.tmp 97) rfl _ now (by go_simp) how17 a16 1 c16 [qq] rfl rfl hp16 (by rw [← HNN.out]; simp; omega) ?_
              intro v18 w18 ho18 hg18 hn18
              have hrow : ∀ x, (Value.slice aw k cw).ownBlock = some x → x < w6.heap.size := fun x hx => by
                refine (HHOW.out.block x ?_).2
                rw [← HNN.out]; exact hx
              have hf18 := HF.out.trans (ho18.frame.mono HF.out.size)
              have ho7n := (HO7'.out.later HG17.out).beside hg18 hrow HF6.out.2 hf18
              have hg13 := HB12.out.2.1.trans (Below.mono HW13.out HB12.out.2.1.size)
              have s13 : w6.heap.size ≤ w13.heap.size := Nat.le_trans HO7.out.frame.size (Nat.le_trans HB12.out.1.size HW13.out.size)
              have ho14n := HO14.out.beside hg18 (fun x hx => Nat.lt_of_lt_of_le (hrow x hx) s13) hg13 ho18.frame
              obtain ⟨a14, c14, rfl, hp14⟩ := ho14n.ps
              obtain ⟨a18, c18, rfl, hp18⟩ := ho18.ps
              have C18 : ∀ y : Later w18, Calls Try.prog 10 #[.slice a14 n7 c14, .slice a18 n7 c18] y.1 fun e w' => e = .returned (.bool true) ∧ Below y.1.heap.size y.1 w' := fun y => by
                have := same_any (hp14.below y.2) (hp18.below y.2)
                rw [decide_eq_true rfl, ← HE7.out] at this
                exact this
              rw [← HE7.out]
              have HO7N := Lib.hid ho7n
              clear hn18 how17 hp16 ho16' ho16 ho14' ho14'' hw17 hw16 g17 ho7n hg13 s13 ho14n hp14 hp18 hf18 hrow hg18 ho18
              go_wp2_with fail
              refine mix_calm rfl (fun K hK => ?_)
              go_simp
              apply Exists.intro
              refine ⟨fun y => C18 y, hK _ ?_⟩
              clear hK K C18
              iterate 2 (refine mix_calm rfl (fun K hK => ?_); go_simp; (refine hK _ ?_; clear hK K))
              refine mix_nil fun w20 hw20 => ?_
              have HW20 := Lib.hid hw20
              clear hw20
              go_wp2_with fail
              go_roundw
              case rel =>
                refine ⟨i + 1, by go_num, by omega, ?_⟩
                rw [HS.out, ← HQ.out, HX.out, HE7.out]
                exact HO7N.out.later HW20.out
              case measure => simp [intOf]; omega
            · obtain ⟨x1, x2, x3⟩ := add_clash HD.out.1.symm HD.out.2.symm
              have e7 : n7 = 0 := by rw [HN7.out, x1]; rfl
              subst e7
              rw [x2]
              have HX := Lib.hid x3
              clear x1 x2 x3
              go_wp2_with fail
              go_roundw
              case rel => exact ⟨i + 1, by go_num, by omega, by rw [HS.out, ← HQ.out, HX.out, HNN.out]; exact HROW.out.later HB12.out.2.1⟩
              case measure => simp [intOf]; omega
          · obtain ⟨x1, x2, x3⟩ := add_in (q := qq) HD.out.1.symm
            have hp7 := HP7.out.below HB12.out.1
            rw [x1] at hp7
            have e7 : n7 = k := by rw [HN7.out, x1, HNN.out]
            subst e7
            have C16 := as_any hp7 (by rw [← HNN.out]; omega)
            rw [← HNN.out] at C16
            rw [x2]
            have HX := Lib.hid (And.intro x1 x3)
            clear x1 x2 x3 hp7
            go_wp2_with fail
            refine C16.mono ?_
            rintro e w13 ⟨v13, rfl, ho13⟩
            obtain ⟨a13, c13, rfl, hp13⟩ := ho13.ps
            have hb13 := HB12.out.1.trans (ho13.frame.mono HB12.out.1.size)
            obtain ⟨aw', cw', ew, hpw⟩ := (HOW7.out.later hb13).ps
            injection ew with ew1 ew2 ew3
            subst ew1 ew3
            have C17 := same_any hp13 hpw
            rw [← HNN.out] at C17 ⊢
            have ed : decide (now = now) = true := decide_eq_true rfl
            rw [ed] at C17
            have HB13 := Lib.hid hb13
            clear C16 ho13 hp13 hb13 hpw ed ew2
            go_wp2_with fail
            refine C17.mono ?_
            rintro e w14 ⟨rfl, hb14⟩
            have HB14 := Lib.hid (HB13.out.trans (hb14.mono HB13.out.size))
            clear C17 hb14
            go_wp2_with fail
            go_roundw
            case rel =>
              refine ⟨i + 1, by go_num, by omega, ?_⟩
              rw [HS.out, ← HQ.out, HX.out.2]
              have h7 := (HO7.out.rebase HF6.out.2).later HB14.out
              rw [HX.out.1] at h7
              rw [HN7.out, HX.out.1]; exact h7
            case measure => simp [intOf]; omega
    · obtain rfl : i = n := by omega
      have t1 : decide ((i : Int) < (i : Int)) = false := decide_eq_false (by omega)
      have t1' : decide (i < i) = false := decide_eq_false (by omega)
      clear hin
      generalize nowsL (m.take i) = now at *
      obtain ⟨nn, hnn⟩ : ∃ nn, nn = now.length := ⟨_, rfl⟩
      have HNN := Lib.hid hnn
      have hnn40 : nn ≤ 40 := by omega
      rw [← hnn]
      have HF := Lib.hid hF
      have hBr : Below wr.heap.size wr wr := Below.refl _ _
      clear hnl hrow hpn hpln hF hnn hrt
      go_wp2_with fail
      go_loopw [12] (fun s12 wq => ∃ j : Nat, s12 = .int .i64 (j : Int) ∧ j ≤ nn ∧ Below wr.heap.size wr wq) (fun s12 _ => nn - (intOf s12).toNat)
      case atStart => exact ⟨0, rfl, Nat.zero_le _, hBr⟩
      case round =>
        clear hBr
        obtain ⟨j, rfl, hj, hbr⟩ := hrel
        by_cases hjn : j < nn
        · have u1 : decide ((j : Int) < (nn : Int)) = true := decide_eq_true (by omega)
          have u1' : decide (j < nn) = true := decide_eq_true (by omega)
          have hjl : j < now.length := by rw [← HNN.out]; omega
          obtain ⟨r1, r2, r3, r4⟩ := rt_find HRT.out hjl
          obtain ⟨b1, q1, IX, -, L0, L1⟩ := (HPN.out.below hbr).at tyG (j : Int) j rfl hjl
          have C28 := hg_any (HPN.out.below hbr) now[j]!.1
          rw [← HNN.out] at IX C28
          rw [r1, r2] at C28
          have HR := Lib.hid (And.intro r3 r4)
          have HL := Lib.hid (And.intro L0 L1)
          have L0' := L0 _ (Below.refl _ _)
          have HBR := Lib.hid hbr
          obtain ⟨x, hx⟩ : ∃ x, x = now[j]!.1 := ⟨_, rfl⟩
          obtain ⟨y, hy⟩ : ∃ y, y = now[j]!.2 := ⟨_, rfl⟩
          have HXY := Lib.hid (And.intro hx hy)
          rw [← hx] at C28 L0'
          rw [← hy] at C28
          clear r1 r2 r3 r4 L0 L1 hbr hjl hx hy
          go_wp2_with (refine wpList_load_at rfl _ _ rfl _ _ rfl L0' ?_)
          refine C28.mono ?_
          rintro e w5 ⟨rfl, hb5⟩
          have hz5 : (w5.alloc (.cells Z 30)).heap[w5.heap.size]? = some (.cells Z 30 (0, 0)) := heap_alloc_last _ _ _ rfl
          have hbw6 : Below w5.heap.size w5 ((w5.alloc (.cells Z 30)).setRow w5.heap.size (idA y)) := below_setRow ((Below.refl _ _).alloc (Nat.le_refl _) _) (Nat.le_refl _) _
          have hk6 : ((w5.alloc (.cells Z 30)).setRow w5.heap.size (idA y)).heap[w5.heap.size]? = some (.cells (idA y) 30 (0, 0)) := setRow_heap _ _ _ _ _ _ hz5
          have HB6 := Lib.hid (Below.trans hb5 (hbw6.mono hb5.size))
          have zs : Z.size = (idA y).size := by rw [HZ.out]; simp [idA, idc_len]
          have zi : (Try.prog.info? 30).map (·.size) = some (idA y).size := by rw [show (idA y).size = 20 by simp [idA, idc_len]]; exact tyG.fi
          have z1 : (idA y).all (·.oneCell') = true := all_oneCell_toArray (bcells_one _)
          have HK6 := Lib.hid hk6
          clear C28 L0' hb5 hbw6 hk6
          go_upto_region 29 with (refine wpList_store_row rfl 30 _ _ rfl w5.heap.size (idA y) rfl rfl 30 Z hz5 zi zs z1 ?_)
          have hk6 := HK6.out
          have hb6 := HB6.out
          clear HK6 HB6 zs zi z1 hz5
          generalize (w5.alloc (.cells Z 30)).setRow w5.heap.size (idA y) = w6 at *
          have C29 := git_any (HPN.out.below (HBR.out.trans (hb6.mono HBR.out.size))) now[j]!.2
          rw [← HNN.out, HR.out.1, HR.out.2] at C29
          have L1' := HL.out.2 _ hb6
          rw [← HXY.out.1, ← HXY.out.2] at C29
          rw [← HXY.out.2] at L1'
          have HB6 := Lib.hid hb6
          have HK6 := Lib.hid hk6
          clear hb6 hk6
          go_wp2_with (refine wpList_load_at rfl _ _ rfl _ _ rfl L1' ?_)
          refine C29.mono ?_
          rintro e w7 ⟨rfl, hb7⟩
          have hz7 : (w7.alloc (.cells Z 30)).heap[w7.heap.size]? = some (.cells Z 30 (0, 0)) := heap_alloc_last _ _ _ rfl
          have hbw8 : Below w7.heap.size w7 ((w7.alloc (.cells Z 30)).setRow w7.heap.size (idA x)) := below_setRow ((Below.refl _ _).alloc (Nat.le_refl _) _) (Nat.le_refl _) _
          have hk8 : ((w7.alloc (.cells Z 30)).setRow w7.heap.size (idA x)).heap[w7.heap.size]? = some (.cells (idA x) 30 (0, 0)) := setRow_heap _ _ _ _ _ _ hz7
          have hb68 : Below w6.heap.size w6 ((w7.alloc (.cells Z 30)).setRow w7.heap.size (idA x)) := Below.trans hb7 (hbw8.mono hb7.size)
          have HB8 := Lib.hid (HB6.out.trans (hb68.mono HB6.out.size))
          have HK9 := Lib.hid (block_below HK6.out hb68)
          have zs : Z.size = (idA x).size := by rw [HZ.out]; simp [idA, idc_len]
          have zi : (Try.prog.info? 30).map (·.size) = some (idA x).size := by rw [show (idA x).size = 20 by simp [idA, idc_len]]; exact tyG.fi
          have z1 : (idA x).all (·.oneCell') = true := all_oneCell_toArray (bcells_one _)
          have HK8 := Lib.hid hk8
          clear C29 L1' hb7 hbw8 hk8 hb68
          go_upto_region 30 with (refine wpList_store_row rfl 30 _ _ rfl w7.heap.size (idA x) rfl rfl 30 Z hz7 zi zs z1 ?_)
          have hk8 := HK8.out
          have hk9 := HK9.out
          have hb8 := HB8.out
          clear HK8 HK9 HB8 zs zi z1 hz7 HB6 HK6
          generalize (w7.alloc (.cells Z 30)).setRow w7.heap.size (idA x) = w8 at *
          refine wp_code_eq (by kernel_rfl : _ = adds30Code) ?_
          refine adds30 (x := x) (y := y) IX (fun yy => loadId_box tyG (block_below hk9 yy.2)) (fun yy => by rw [HXY.out.2]; exact HL.out.2 _ (hb8.trans (yy.2.mono hb8.size))) (fun yy => loadId_box tyG (block_below hk8 yy.2)) (fun yy => by rw [HXY.out.1]; exact HL.out.1 _ (hb8.trans (yy.2.mono hb8.size))) _ _ _ _ _ _ _ _ _ _ _ _ _ _ _ _ _ _ _ _ _ _ _ _ _ _ _ _ _ _ _ _ _ _ _ _ _ _ _ _ _ _ _ _ _ _ _ _ _ _ _ _ _ _ _ _ _ _ _ _ _ _ _ _ _ _ _ _ _ _ _ _ _ _ _ _ _ _ _ _ _ _ _ _ _ _ _ _ _ _ _ _ _ _ _ _ _ _ _ _ _ _ _ _ _ _ _ _ _ _ _ _ _ _ _ _ _ _ _ _ _ _ _ _ _ _ _ _ _ _ _ _ _ _ _ _ _ _ _ _ _ _ _ _ _ _ _ _ _ _ _ _ _ _ _ _ _ _ _ _ _ _ _ _ _ _ _ _ _ _ _ _ _ ?_
          intro _ _ _ _ _ _ _ _ _ _ _ _ _ _ _ _ _ _ _ _ _ _ _ w9 hw9
          have HB9 := Lib.hid (HBR.out.trans ((hb8.trans (Below.mono hw9 hb8.size)).mono HBR.out.size))
          clear hw9 IX hk8 hk9 hb8
          go_wp2_with fail
          go_roundw
          case rel => exact ⟨j + 1, by go_num, by omega, HB9.out⟩
          case measure => simp [intOf]; omega
        · obtain rfl : j = nn := by omega
          have u1 : decide ((j : Int) < (j : Int)) = false := decide_eq_false (by omega)
          have u1' : decide (j < j) = false := decide_eq_false (by omega)
          have HBR := Lib.hid hbr
          clear hbr hjn
          go_wp2_with fail
          refine (known_any _).mono ?_
          rintro e w5 ⟨rfl, hb5⟩
          have hb5' := HBR.out.trans (hb5.mono HBR.out.size)
          have C1 := as_any (HPN.out.below hb5') (by rw [← HNN.out]; omega)
          rw [← HNN.out] at C1
          have HB5 := Lib.hid hb5'
          clear hb5 hb5'
          go_wp2_with fail
          refine C1.mono ?_
          rintro e w6 ⟨v6, rfl, ho6⟩
          obtain ⟨a6, c6, rfl, hp6⟩ := ho6.ps
          have C2 := refRight_any hp6
          rw [← HNN.out] at C2 ⊢
          have HB6 := Lib.hid (HB5.out.trans (ho6.frame.mono HB5.out.size))
          clear C1 ho6 hp6
          go_wp2_with fail
          refine C2.mono ?_
          rintro e w7 ⟨r, rfl, hr, hb7⟩
          obtain rfl : r = true := hr.2 HRT.out
          have HB7 := Lib.hid (HB6.out.trans (hb7.mono HB6.out.size))
          clear C2 hr hb7
          go_wp2_with fail
          go_ret
          exact ⟨rfl, HB.out.trans ((HF.out.trans (HB7.out.mono HF.out.size)).mono HB.out.size)⟩
theorem marksAdds_walk (a : Option Addr) (len cap : Nat) (l : List Pr) (W : World) (hl : l.length = len) (hw : PsAt W a cap l) :
    Calls Try.prog 3 #[.slice a len cap] W fun e w' => e = .returned (.bool true) ∧ Below W.heap.size W w' := by
  subst hl
  exact marksAdds_at hw
end Go.Proofs.Ytnlkanhakmkejaa
