/-
  The law's As, the document's Same and Right: the walks.
-/
import Derived.Test.YtnlkanhakmkejaaKnown24
import Derived.Test.YtnlkanhakmkejaaMixG
namespace Go.Proofs.Ytnlkanhakmkejaa
open Go.RowKit Go.Mix Go.WideMaps Go.Proofs

set_option maxRecDepth 100000 in
set_option maxHeartbeats 2000000 in
theorem as_any {w : World} {l : List Pr} {a : Option Addr} {cap : Nat} (hg : PsAt w a cap l) (hlen : l.length ≤ 1000000) :
    Calls Try.prog 8 #[.slice a l.length cap] w fun e w' => ∃ v, e = .returned v ∧ OwnP 50 w w' v l := by
  obtain ⟨n, hn⟩ : ∃ n, n = l.length := ⟨_, rfl⟩
  have HN := Lib.hid hn
  have HG := Lib.hid hg
  have HLEN := Lib.hid hlen
  rw [← hn]
  clear hn hg hlen
  have hF0 : Below w.heap.size w w := Below.refl _ _
  go_enter Try.func8, Try.ntmps8
  go_wp2_with fail
  go_loopw [3, 4] (fun s3 s4 wr => ∃ i : Nat, s4 = .int .i64 (i : Int) ∧ i ≤ n ∧ OwnP 50 w wr s3 (l.take i)) (fun _ s4 _ => n - (intOf s4).toNat)
  case atStart => exact ⟨0, rfl, Nat.zero_le _, OwnP.nil hF0⟩
  case round =>
    obtain ⟨i, rfl, hi, hrow⟩ := hrel
    by_cases him : i < n
    · have t1 : decide ((i : Int) < (n : Int)) = true := decide_eq_true (by omega)
      have t1' : decide (i < n) = true := decide_eq_true (by omega)
      have hil : i < l.length := by rw [← HN.out]; omega
      obtain ⟨b, q, IX, -, L0, L1⟩ := (HG.out.below hrow.frame).at tyG (i : Int) i rfl hil
      rw [← HN.out] at IX
      have L0' : ∀ y : Later wr, (Instr.loadAt 30 (.pointer (some ⟨b, q, none⟩))).run Try.prog y.1 = .ok (.agg (idA l[i]!.1)) y.1 := fun y => L0 y.1 y.2
      have L1' : ∀ y : Later wr, (Instr.loadAt 30 (.pointer (some ⟨b, q + 20, none⟩))).run Try.prog y.1 = .ok (.agg (idA l[i]!.2)) y.1 := fun y => L1 y.1 y.2
      have B := fun W : World => tyR.build l[i]!.1 l[i]!.2 W
      have B1 := fun W : World => tyR.one (l[i]!.1, l[i]!.2) W
      have HS := Lib.hid (take_succ hil)
      have HL := Lib.hid (show (l.take i).length ≤ 1000000 by have := HLEN.out; rw [List.length_take]; omega)
      have hi6 : i ≤ 1000000 := by have := HLEN.out; omega
      clear L0 L1
      generalize l[i]! = p at *
      generalize l.take i = xs at *
      obtain ⟨x, y⟩ := p
      simp only [] at L0' L1' B B1
      clear hil
      go_upto_region 5 with (fail)
      refine wp_region_mix [(0, 0), (1, 0), (2, 0), (3, 0), (4, 0), (5, 0), (6, 0), (7, 0), (8, 0), (9, 0), (10, 0), (11, 0), (12, 1), (13, 2), (14, 0)] (by kernel_rfl) (by kernel_rfl) ?_
      iterate 5 (refine mix_calm rfl (fun K hK => ?_); go_simp; (refine hK _ ?_; clear hK K))
      refine mix_load rfl rfl _ _ rfl _ _ rfl L0' ?_
      iterate 4 (refine mix_calm rfl (fun K hK => ?_); go_simp; (refine hK _ ?_; clear hK K))
      refine mix_load rfl rfl _ _ rfl _ _ rfl L1' ?_
      refine mix_build rfl rfl _ _ rfl [(0, .agg (idA x)), (1, .agg (idA y))] _ rfl B ?_
      refine mix_loud rfl rfl (fun w8 hw8 K hK => ?_)
      have hrow8 := hrow.later hw8
      refine wpList_buildSlice_at rfl _ _ _ rfl [(0, .agg (encA (x, y)))] _ rfl (B1 w8) ?_
      refine hK _ _ ((Below.refl _ _).alloc (Nat.le_refl _) _) ?_
      clear hK K
      have hp9 := PsAt.one w8 50 (x, y)
      have hrow9 := hrow8.later ((Below.refl _ _).alloc (Nat.le_refl _) (.cells (encA (x, y)) 50))
      generalize w8.alloc (.cells (encA (x, y)) 50) = w9 at *
      clear L0' L1' IX B B1 hrow hrow8 hw8
      refine mix_sync rfl rfl (fun w10 hw10 K hK => ?_)
      have hrow10 := hrow9.later hw10
      have hp10 := hp9.below hw10
      clear hrow9 hp9 hw10
      refine wpList_append_p tyR rfl (.tmp 11) (.tmp 23) rfl _ xs rfl hrow10 (some ⟨w8.heap.size, 0, none⟩) 1 1 [(x, y)] rfl rfl hp10 (by have := HL.out; simp; omega) ?_
      intro v5 w5 hb5 hgr5 hgr0
      rw [← HS.out] at hb5
      clear hgr5 hgr0 hrow10 hp10
      go_wp2_with fail
      iterate 1 (refine mix_calm rfl (fun K hK => ?_); go_simp; (refine hK _ ?_; clear hK K))
      refine mix_nil fun w12 hw12 => ?_
      have hb12 := hb5.later hw12
      clear hb5 hw12
      go_wp2_with fail
      go_roundw
      case rel => exact ⟨i + 1, by go_num, by omega, hb12⟩
      case measure => simp [intOf]; omega
    · obtain rfl : i = n := by omega
      have e : l.take i = l := by rw [HN.out]; exact List.take_of_length_le (Nat.le_refl _)
      have hres := hrow
      rw [e] at hres
      have HRES := Lib.hid hres
      clear hres hrow
      have t1 : decide ((i : Int) < (i : Int)) = false := decide_eq_false (by omega)
      have t1' : decide (i < i) = false := decide_eq_false (by omega)
      go_wp2_with fail
      go_ret
      exact ⟨_, rfl, HRES.out⟩

set_option maxRecDepth 100000 in
set_option maxHeartbeats 2000000 in
theorem same_any {w : World} {l m : List Pr} {a b : Option Addr} {ca cb : Nat} (hl : PsAt w a ca l) (hm : PsAt w b cb m) :
    Calls Try.prog 10 #[.slice a l.length ca, .slice b m.length cb] w fun e w' => e = .returned (.bool (decide (l = m))) ∧ Below w.heap.size w w' := by
  obtain ⟨n, hn⟩ : ∃ n, n = l.length := ⟨_, rfl⟩
  obtain ⟨k, hk⟩ : ∃ n, n = m.length := ⟨_, rfl⟩
  have HN := Lib.hid (And.intro hn hk)
  have HG := Lib.hid (And.intro hl hm)
  have hnb : n ≤ 9223372036854775807 := by rw [hn]; exact Nat.le_trans hl.le hl.big
  rw [← hn, ← hk]
  clear hn hk hl hm
  obtain ⟨R, hR⟩ : ∃ R, R = decide (l = m) := ⟨_, rfl⟩
  have HR := Lib.hid hR
  rw [← hR]
  clear hR
  go_enter Try.func10, Try.ntmps10
  by_cases hnk : n = k
  · subst hnk
    have tt : ((n : Int) != (n : Int)) = false := by simp
    have tt' : (n != n) = false := by simp
    have hF0 : Below w.heap.size w w := Below.refl _ _
    go_wp2_with fail
    go_loopw [5] (fun s5 wr => ∃ i : Nat, s5 = .int .i64 (i : Int) ∧ i ≤ n ∧ l.take i = m.take i ∧ Below w.heap.size w wr) (fun s5 _ => n - (intOf s5).toNat)
    case atStart => exact ⟨0, rfl, Nat.zero_le _, rfl, hF0⟩
    case round =>
      obtain ⟨i, rfl, hi, he, hb⟩ := hrel
      by_cases hin : i < n
      · have t1 : decide ((i : Int) < (n : Int)) = true := decide_eq_true (by omega)
        have t1' : decide (i < n) = true := decide_eq_true (by omega)
        have hil : i < l.length := by rw [← HN.out.1]; omega
        have him : i < m.length := by rw [← HN.out.2]; omega
        obtain ⟨b1, q1, IX1, L1, -, -⟩ := (HG.out.1.below hb).at tyR (i : Int) i rfl hil
        obtain ⟨b2, q2, IX2, L2, -, -⟩ := (HG.out.2.below hb).at tyR (i : Int) i rfl him
        rw [← HN.out.1] at IX1
        rw [← HN.out.2] at IX2
        have L1' : ∀ y : Later wr, (Instr.loadAt 50 (.pointer (some ⟨b1, q1, none⟩))).run Try.prog y.1 = .ok (.agg (encA l[i]!)) y.1 := fun y => L1 y.1 y.2
        have L2' : ∀ y : Later wr, (Instr.loadAt 50 (.pointer (some ⟨b2, q2, none⟩))).run Try.prog y.1 = .ok (.agg (encA m[i]!)) y.1 := fun y => L2 y.1 y.2
        have E := tyR.eq_run l[i]! m[i]!
        have G := fun op x y => tyR.eqE.2 op x y l[i]! m[i]!
        simp only [] at G
        have S1 := take_succ hil
        have S2 := take_succ him
        obtain ⟨d, hd⟩ : ∃ d, d = decide (l[i]! = m[i]!) := ⟨_, rfl⟩
        rw [← hd] at E
        have HS := Lib.hid (And.intro S1 (And.intro S2 (And.intro he hd)))
        have HBR := Lib.hid hb
        clear S1 S2 he L1 L2 hil him hd hb
        generalize l[i]! = p1 at *
        generalize m[i]! = p2 at *
        go_upto_region 6 with (fail)
        refine wp_region_mg [(0, 0), (1, 0), (2, 0), (3, 0), (4, 0), (5, 0), (6, 0), (7, 0), (8, 0)] (by kernel_rfl) (by kernel_rfl) ?_
        iterate 9 (first | (refine mg_load rfl rfl _ _ rfl _ _ rfl L1' ?_) | (refine mg_load rfl rfl _ _ rfl _ _ rfl L2' ?_) | (refine mg_calm rfl (fun K hK => ?_); go_simp; (refine hK _ ?_; clear hK K)))
        refine mg_nil fun w7 hw7 => ?_
        have HB7 := Lib.hid (HBR.out.trans (Below.mono hw7 HBR.out.size))
        clear L1' L2' IX1 IX2 E G hw7
        cases d
        · go_wp2_with fail
          go_ret
          refine ⟨?_, HB7.out⟩
          show Ending.returned (.bool false) = _
          rw [HR.out]
          have hne : ¬ p1 = p2 := of_decide_eq_false HS.out.2.2.2.symm
          rw [decide_eq_false (p := l = m)]
          intro hlm
          obtain ⟨s1, s2, s3, -⟩ := HS.out
          subst hlm
          have := s1.symm.trans s2
          simp at this
          exact hne this
        · go_wp2_with fail
          go_roundw
          case rel =>
            refine ⟨i + 1, by go_num, by omega, ?_, HB7.out⟩
            obtain ⟨s1, s2, s3, s4⟩ := HS.out
            rw [s1, s2, s3, of_decide_eq_true s4.symm]
          case measure => simp [intOf]; omega
      · obtain rfl : i = n := by omega
        have t1 : decide ((i : Int) < (i : Int)) = false := decide_eq_false (by omega)
        have t1' : decide (i < i) = false := decide_eq_false (by omega)
        have heq : l = m := by
          rw [List.take_of_length_le (by rw [← HN.out.1]; exact Nat.le_refl _), List.take_of_length_le (by rw [← HN.out.2]; exact Nat.le_refl _)] at he; exact he
        have hres : R = true := by rw [HR.out]; exact decide_eq_true heq
        clear heq he
        subst hres
        go_wp2_with fail
        go_ret
        exact ⟨rfl, hb⟩
  · have tt : ((n : Int) != (k : Int)) = true := by rw [bne_iff_ne]; omega
    have tt' : (n != k) = true := by rw [bne_iff_ne]; omega
    have hres : R = false := by
      rw [HR.out]; refine decide_eq_false fun h => hnk ?_
      rw [HN.out.1, HN.out.2, h]
    subst hres
    go_wp2_with fail
    go_ret
    exact ⟨rfl, Below.refl _ _⟩

/-- They are marks: no commit twice, no change twice. -/
def Rt (l : List Pr) : Prop := ∀ i k, k < i → i < l.length → l[i]!.1 ≠ l[k]!.1 ∧ l[i]!.2 ≠ l[k]!.2

set_option maxRecDepth 100000 in
set_option maxHeartbeats 2000000 in
theorem refRight_any {w : World} {l : List Pr} {a : Option Addr} {cap : Nat} (hg : PsAt w a cap l) :
    Calls Try.prog 14 #[.slice a l.length cap] w fun e w' => ∃ r : Bool, e = .returned (.bool r) ∧ (r = true ↔ Rt l) ∧ Below w.heap.size w w' := by
  obtain ⟨n, hn⟩ : ∃ n, n = l.length := ⟨_, rfl⟩
  have HN := Lib.hid hn
  have HG := Lib.hid hg
  have hnb : n ≤ 9223372036854775807 := by rw [hn]; exact Nat.le_trans hg.le hg.big
  rw [← hn]
  clear hn hg
  have hF0 : Below w.heap.size w w := Below.refl _ _
  go_enter Try.func14, Try.ntmps14
  go_wp2_with fail
  go_loopw [3] (fun s3 wr => ∃ i : Nat, s3 = .int .i64 (i : Int) ∧ i ≤ n ∧ (∀ j k, k < j → j < i → l[j]!.1 ≠ l[k]!.1 ∧ l[j]!.2 ≠ l[k]!.2) ∧ Below w.heap.size w wr) (fun s3 _ => n - (intOf s3).toNat)
  case atStart => exact ⟨0, rfl, Nat.zero_le _, fun _ _ _ h => absurd h (Nat.not_lt_zero _), hF0⟩
  case round =>
    obtain ⟨i, rfl, hi, hpre, hb⟩ := hrel
    have HP := Lib.hid hpre
    clear hpre
    by_cases hin : i < n
    · have t1 : decide ((i : Int) < (n : Int)) = true := decide_eq_true (by omega)
      have t1' : decide (i < n) = true := decide_eq_true (by omega)
      go_wp2_with fail
      go_loopw [4] (fun s4 wq => ∃ k : Nat, s4 = .int .i64 (k : Int) ∧ k ≤ i ∧ (∀ j, j < k → l[i]!.1 ≠ l[j]!.1 ∧ l[i]!.2 ≠ l[j]!.2) ∧ Below w.heap.size w wq) (fun s4 _ => i - (intOf s4).toNat)
      case atStart => exact ⟨0, rfl, Nat.zero_le _, fun _ h => absurd h (Nat.not_lt_zero _), hb⟩
      case round =>
        obtain ⟨k, rfl, hk, hpk, hbq⟩ := hrel
        have HPK := Lib.hid hpk
        clear hpk
        by_cases hki : k < i
        · have u1 : decide ((k : Int) < (i : Int)) = true := decide_eq_true (by omega)
          have u1' : decide (k < i) = true := decide_eq_true (by omega)
          have hil : i < l.length := by rw [← HN.out]; omega
          have hkl : k < l.length := by omega
          obtain ⟨b1, q1, IX1, -, L1, L1b⟩ := (HG.out.below hbq).at tyR (i : Int) i rfl hil
          obtain ⟨b2, q2, IX2, -, L2, L2b⟩ := (HG.out.below hbq).at tyR (k : Int) k rfl hkl
          rw [← HN.out] at IX1 IX2
          have L1' : ∀ y : Later wr, (Instr.loadAt 29 (.pointer (some ⟨b1, q1, none⟩))).run Try.prog y.1 = .ok (.agg (idA l[i]!.1)) y.1 := fun y => L1 y.1 y.2
          have L2' : ∀ y : Later wr, (Instr.loadAt 29 (.pointer (some ⟨b1, q1 + 20, none⟩))).run Try.prog y.1 = .ok (.agg (idA l[i]!.2)) y.1 := fun y => L1b y.1 y.2
          have L3' : ∀ y : Later wr, (Instr.loadAt 29 (.pointer (some ⟨b2, q2, none⟩))).run Try.prog y.1 = .ok (.agg (idA l[k]!.1)) y.1 := fun y => L2 y.1 y.2
          have L4' : ∀ y : Later wr, (Instr.loadAt 29 (.pointer (some ⟨b2, q2 + 20, none⟩))).run Try.prog y.1 = .ok (.agg (idA l[k]!.2)) y.1 := fun y => L2b y.1 y.2
          have E1 := eq_id_run arrR l[i]!.1 l[k]!.1
          have E2 := eq_id_run arrR l[i]!.2 l[k]!.2
          have G1 := fun op x y => tyR.eqF.2 op x y l[i]!.1 l[k]!.1
          have G2 := fun op x y => tyR.eqF.2 op x y l[i]!.2 l[k]!.2
          simp only [] at G1 G2
          obtain ⟨d1, hd1⟩ : ∃ d, d = decide (l[i]!.1 = l[k]!.1) := ⟨_, rfl⟩
          obtain ⟨d2, hd2⟩ : ∃ d, d = decide (l[i]!.2 = l[k]!.2) := ⟨_, rfl⟩
          rw [← hd1] at E1
          rw [← hd2] at E2
          have HD := Lib.hid (And.intro hd1 hd2)
          have HBQ := Lib.hid hbq
          clear L1 L2 L1b L2b hd1 hd2 hbq hil hkl
          generalize hx1 : l[i]!.1 = x1 at *
          generalize hx2 : l[i]!.2 = x2 at *
          generalize hy1 : l[k]!.1 = y1 at *
          generalize hy2 : l[k]!.2 = y2 at *
          have HX := Lib.hid (And.intro (And.intro hx1 hx2) (And.intro hy1 hy2))
          clear hx1 hx2 hy1 hy2
          cases d1
          · go_upto_region 7 with (fail)
            refine wp_region_mg [(0, 0), (1, 0), (2, 0), (3, 0), (4, 0), (5, 0), (6, 0), (7, 0), (8, 0), (9, 0), (10, 0), (11, 0), (12, 0), (13, 0), (14, 0), (15, 0), (16, 0), (17, 0), (18, 0), (19, 0), (20, 0), (21, 0), (22, 0), (23, 0)] (by kernel_rfl) (by kernel_rfl) ?_
            iterate 24 (first | (refine mg_load rfl rfl _ _ rfl _ _ rfl L1' ?_) | (refine mg_load rfl rfl _ _ rfl _ _ rfl L2' ?_) | (refine mg_load rfl rfl _ _ rfl _ _ rfl L3' ?_) | (refine mg_load rfl rfl _ _ rfl _ _ rfl L4' ?_) | (refine mg_calm rfl (fun K hK => ?_); go_simp; (refine hK _ ?_; clear hK K)))
            refine mg_nil fun w7 hw7 => ?_
            have HB7 := Lib.hid (HBQ.out.trans (Below.mono hw7 HBQ.out.size))
            clear L1' L2' L3' L4' IX1 IX2 E1 E2 G1 G2 hw7
            cases d2
            · go_wp2_with fail
              go_roundw
              case rel =>
                refine ⟨k + 1, by go_num, by omega, fun j hj => ?_, HB7.out⟩
                rcases Nat.lt_or_ge j k with h | h
                · exact HPK.out j h
                · obtain rfl : j = k := by omega
                  rw [HX.out.2.1, HX.out.2.2]
                  have := HPK
                  obtain ⟨⟨e1, e2⟩, -⟩ := HX.out
                  first
                    | exact ⟨of_decide_eq_false HD.out.1.symm, of_decide_eq_false HD.out.2.symm⟩
                    | (rw [e1, e2]; exact ⟨of_decide_eq_false HD.out.1.symm, of_decide_eq_false HD.out.2.symm⟩)
              case measure => simp [intOf]; omega
            · go_wp2_with fail
              go_ret
              refine ⟨_, rfl, ⟨fun h => (by cases h), fun h => absurd (h i k hki (by rw [← HN.out]; omega)).2 ?_⟩, HB7.out⟩
              rw [HX.out.1.2, HX.out.2.2]
              exact fun hc => hc (of_decide_eq_true HD.out.2.symm)
          · go_upto_region 7 with (fail)
            refine wp_region_mg [(0, 0), (1, 0), (2, 0), (3, 0), (4, 0), (5, 0), (6, 0), (7, 0), (8, 0), (9, 0), (10, 0), (11, 0), (12, 0), (13, 0), (14, 0), (15, 0), (16, 0), (17, 0), (18, 0), (19, 0), (20, 0), (21, 0), (22, 0), (23, 0)] (by kernel_rfl) (by kernel_rfl) ?_
            iterate 24 (first | (refine mg_load rfl rfl _ _ rfl _ _ rfl L1' ?_) | (refine mg_load rfl rfl _ _ rfl _ _ rfl L3' ?_) | (refine mg_calm rfl (fun K hK => ?_); go_simp; (refine hK _ ?_; clear hK K)))
            refine mg_nil fun w7 hw7 => ?_
            have HB7 := Lib.hid (HBQ.out.trans (Below.mono hw7 HBQ.out.size))
            clear L1' L2' L3' L4' IX1 IX2 E1 E2 G1 G2 hw7
            go_wp2_with fail
            go_ret
            refine ⟨_, rfl, ⟨fun h => (by cases h), fun h => absurd (h i k hki (by rw [← HN.out]; omega)).1 ?_⟩, HB7.out⟩
            rw [HX.out.1.1, HX.out.2.1]
            exact fun hc => hc (of_decide_eq_true HD.out.1.symm)
        · obtain rfl : k = i := by omega
          have u1 : decide ((k : Int) < (k : Int)) = false := decide_eq_false (by omega)
          have u1' : decide (k < k) = false := decide_eq_false (by omega)
          go_wp2_with fail
          go_roundw
          case rel =>
            refine ⟨k + 1, by go_num, by omega, fun j m hm hj => ?_, hbq⟩
            rcases Nat.lt_or_ge j k with h | h
            · exact HP.out j m hm h
            · obtain rfl : j = k := by omega
              exact HPK.out m hm
          case measure => simp [intOf]; omega
    · obtain rfl : i = n := by omega
      have t1 : decide ((i : Int) < (i : Int)) = false := decide_eq_false (by omega)
      have t1' : decide (i < i) = false := decide_eq_false (by omega)
      go_wp2_with fail
      go_ret
      refine ⟨_, rfl, ⟨fun _ j k hk hj => HP.out j k hk (by rw [HN.out]; exact hj), fun _ => rfl⟩, hb⟩
end Go.Proofs.Ytnlkanhakmkejaa
