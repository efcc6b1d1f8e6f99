/-
  The document's Right: the walk. (Printed by gen/gen_refright10.py.)
-/
import Derived.Test.YtbllpjphlanchaaRight10
import Derived.Test.YtbllpjphlanchaaRefLess
namespace Go.Proofs.Ytbllpjphlanchaa
open Go.RowKit Go.Mix Go.Maps Go.WideMaps

set_option maxRecDepth 100000 in
set_option maxHeartbeats 4000000 in
theorem refRight_any {w : World} {l : List Ent} {a : Option Addr} {cap : Nat} (hg : RsAt encE 22 w a cap l) (hlen : l.length ≤ 1000000) (hnm : ∀ p ∈ l, p.name.length ≤ 1000000) :
    Calls Try.prog 11 #[.slice a l.length cap] w fun e w' => ∃ r : Bool, e = .returned (.bool r) ∧ (r = true ↔ RightE l) ∧ Below w.heap.size w w' := by
  obtain ⟨n, hn⟩ : ∃ n, n = l.length := ⟨_, rfl⟩
  have HN := Lib.hid (And.intro hn hnm)
  have HG := Lib.hid hg
  rw [← hn] at hlen ⊢
  clear hn hg hnm
  have hb0 := Lib.hid (Below.refl w.heap.size w)
  go_enter Try.func11, Try.ntmps11
  go_wp2_with fail
  go_loopw [3, 4] (fun s3 _ wr => ∃ i : Nat, s3 = .int .i64 (i : Int) ∧ i ≤ n ∧ (∀ j, j < i → stepOk l j = true) ∧ Below w.heap.size w wr) (fun s3 _ _ => n - (intOf s3).toNat)
  case atStart => exact ⟨0, rfl, Nat.zero_le _, fun _ h => absurd h (Nat.not_lt_zero _), hb0.out⟩
  case round =>
    obtain ⟨i, rfl, hi, hpre, hb⟩ := hrel
    have HP := Lib.hid hpre
    have HB := Lib.hid hb
    clear hpre
    by_cases hin : i < n
    · have t1 : (i : Int) < (n : Int) := by omega
      have hil : i < l.length := by rw [← HN.out.1]; exact hin
      obtain ⟨b, q, IX, R, LL⟩ := (HG.out.below hb).at tyF (i : Int) i rfl hil
      rw [← HN.out.1] at IX
      obtain ⟨f0, f1, -⟩ := ent_fields R
      have hpn : l[i]!.name.length ≤ 1000000 := HN.out.2 _ (by rw [getElem!_pos l i hil]; exact List.getElem_mem hil)
      have hso : stepOk l i = (!decide (digs l[i]!.mode = []) && namedL l[i]!.name && !namesL (l.take i) l[i]!.name && (!decide (0 < i) || !decide (0 ≤ Lib.compareBytes (thoughtL l[i - 1]!) (thoughtL l[i]!)))) := rfl
      have HSO := Lib.hid (And.intro hso hil)
      have HPN := Lib.hid hpn
      have LE : ∀ y : Later wr, (Instr.loadAt 43 (.pointer (some ⟨b, q, none⟩))).run Try.prog y.1 = .ok (.agg (recA encE l[i]!)) y.1 := fun y => LL y.1 y.2
      have L0 : ∀ y : Later wr, (Instr.loadAt 3 (.pointer (some ⟨b, q, none⟩))).run Try.prog y.1 = .ok (.int .i64 l[i]!.mode) y.1 := fun y => by
        have c := load_later f0 y
        clear IX t1
        go_simp
      have L1 : ∀ y : Later wr, (Instr.loadAt 9 (.pointer (some ⟨b, q + 1, none⟩))).run Try.prog y.1 = .ok (.string (strOf l[i]!.name)) y.1 := fun y => by
        have c := load_later f1 y
        clear IX t1
        go_simp
      have CD := fun W => refDigits_any l[i]!.mode W
      have CN := fun W => refNamed_any l[i]!.name HPN.out W
      have E0 : ((strOf (digs l[i]!.mode)).toList.isEmpty) = decide (digs l[i]!.mode = []) := strOf_empty _
      obtain ⟨d0, hd0⟩ : ∃ d0, d0 = decide (digs l[i]!.mode = []) := ⟨_, rfl⟩
      obtain ⟨d1, hd1⟩ : ∃ d1, d1 = namedL l[i]!.name := ⟨_, rfl⟩
      rw [← hd0] at E0
      rw [← hd1] at CN
      have HD0 := Lib.hid hd0
      have HD1 := Lib.hid hd1
      generalize strOf (digs l[i]!.mode) = DS at *
      generalize hNS : strOf l[i]!.name = NS at L1 CN
      clear hNS
      generalize l[i]!.mode = MD at L0 CD
      clear hso hpn hil hd0 hd1 LL R f0 f1 hb
      go_upto_region 4 with (fail)
      cases d0
      case true =>
        refine wp_region_mg [(0, 0), (1, 0), (2, 0), (3, 0), (4, 0), (5, 0), (6, 0), (7, 0), (8, 0), (9, 0), (10, 0), (11, 0), (12, 0), (13, 0), (14, 0), (15, 0), (16, 0), (17, 0), (18, 0), (19, 0), (20, 0), (21, 0), (22, 0), (23, 0), (24, 0), (25, 0), (26, 0), (27, 0), (28, 0), (29, 0), (30, 0), (31, 0), (32, 0)] (by kernel_rfl) (by kernel_rfl) ?_
        iterate 4 ((refine mg_calm rfl (fun K hK => ?_); go_simp; (refine hK _ ?_; clear hK K)))
        refine mg_load rfl rfl _ _ rfl _ _ rfl L0 ?_
        (refine mg_calm rfl (fun K hK => ?_); go_simp; apply Exists.intro; refine ⟨fun z => CD z.1, hK _ ?_⟩; clear hK K)
        iterate 27 ((refine mg_calm rfl (fun K hK => ?_); go_simp; (refine hK _ ?_; clear hK K)))
        refine mg_nil fun w7 hw7 => ?_
        have HB7 := Lib.hid (HB.out.trans (hw7.mono HB.out.size))
        clear hw7 L0 L1 CD CN E0
        go_wp2_with fail
        go_ret
        exact ⟨_, rfl, ⟨fun h => (by cases h), fun h => absurd (h i HSO.out.2) (by rw [HSO.out.1, ← HD0.out]; simp)⟩, HB7.out⟩
      cases d1
      case false =>
        refine wp_region_mg [(0, 0), (1, 0), (2, 0), (3, 0), (4, 0), (5, 0), (6, 0), (7, 0), (8, 0), (9, 0), (10, 0), (11, 0), (12, 0), (13, 0), (14, 0), (15, 0), (16, 0), (17, 0), (18, 0), (19, 0), (20, 0), (21, 0), (22, 0), (23, 0), (24, 0), (25, 0), (26, 0), (27, 0), (28, 0), (29, 0), (30, 0), (31, 0), (32, 0)] (by kernel_rfl) (by kernel_rfl) ?_
        iterate 4 ((refine mg_calm rfl (fun K hK => ?_); go_simp; (refine hK _ ?_; clear hK K)))
        refine mg_load rfl rfl _ _ rfl _ _ rfl L0 ?_
        (refine mg_calm rfl (fun K hK => ?_); go_simp; apply Exists.intro; refine ⟨fun z => CD z.1, hK _ ?_⟩; clear hK K)
        iterate 6 ((refine mg_calm rfl (fun K hK => ?_); go_simp; (refine hK _ ?_; clear hK K)))
        refine mg_load rfl rfl _ _ rfl _ _ rfl L1 ?_
        (refine mg_calm rfl (fun K hK => ?_); go_simp; apply Exists.intro; refine ⟨fun z => calls_calm (CN z.1), hK _ ?_⟩; clear hK K)
        iterate 19 ((refine mg_calm rfl (fun K hK => ?_); go_simp; (refine hK _ ?_; clear hK K)))
        refine mg_nil fun w7 hw7 => ?_
        have HB7 := Lib.hid (HB.out.trans (hw7.mono HB.out.size))
        clear hw7 L0 L1 CD CN E0
        go_wp2_with fail
        go_ret
        exact ⟨_, rfl, ⟨fun h => (by cases h), fun h => absurd (h i HSO.out.2) (by rw [HSO.out.1, ← HD1.out]; simp)⟩, HB7.out⟩
      by_cases hi0 : i = 0
      · have hgt : decide (0 < i) = false := decide_eq_false (by omega)
        have HI0 := Lib.hid hi0
        clear hi0
        refine wp_region_mg [(0, 0), (1, 0), (2, 0), (3, 0), (4, 0), (5, 0), (6, 0), (7, 0), (8, 0), (9, 0), (10, 0), (11, 0), (12, 0), (13, 0), (14, 0), (15, 0), (16, 0), (17, 0), (18, 0), (19, 0), (20, 0), (21, 0), (22, 0), (23, 0), (24, 0), (25, 0), (26, 0), (27, 0), (28, 0), (29, 0), (30, 0), (31, 0), (32, 0)] (by kernel_rfl) (by kernel_rfl) ?_
        iterate 4 ((refine mg_calm rfl (fun K hK => ?_); go_simp; (refine hK _ ?_; clear hK K)))
        refine mg_load rfl rfl _ _ rfl _ _ rfl L0 ?_
        (refine mg_calm rfl (fun K hK => ?_); go_simp; apply Exists.intro; refine ⟨fun z => CD z.1, hK _ ?_⟩; clear hK K)
        iterate 6 ((refine mg_calm rfl (fun K hK => ?_); go_simp; (refine hK _ ?_; clear hK K)))
        refine mg_load rfl rfl _ _ rfl _ _ rfl L1 ?_
        (refine mg_calm rfl (fun K hK => ?_); go_simp; apply Exists.intro; refine ⟨fun z => calls_calm (CN z.1), hK _ ?_⟩; clear hK K)
        iterate 19 ((refine mg_calm rfl (fun K hK => ?_); go_simp; (refine hK _ ?_; clear hK K)))
        refine mg_nil fun w7 hw7 => ?_
        have hb7 := HB.out.trans (hw7.mono HB.out.size)
        have HB7 := Lib.hid hb7
        clear hw7 hb7 L0 L1 CD CN E0 hgt
        go_wp2_with fail
        go_loopw [4] (fun s4 wk => ∃ k : Nat, s4 = .int .i64 (k : Int) ∧ k ≤ i ∧ (∀ j, j < k → l[j]!.name ≠ l[i]!.name) ∧ Below w.heap.size w wk) (fun s4 _ => i - (intOf s4).toNat)
        case atStart => exact ⟨0, rfl, Nat.zero_le _, fun _ h => absurd h (Nat.not_lt_zero _), HB7.out⟩
        case round =>
          obtain ⟨k, rfl, hk, hnk, hbk⟩ := hrel
          have HNK := Lib.hid hnk
          have HBK := Lib.hid hbk
          clear hnk
          by_cases hki : k < i
          · have tk : (k : Int) < (i : Int) := by omega
            obtain ⟨b4, q4, IX4, R4, -⟩ := (HG.out.below hbk).at tyF (k : Int) k rfl (by rw [← HN.out.1]; omega)
            obtain ⟨b5, q5, IX5, R5, -⟩ := (HG.out.below hbk).at tyF (i : Int) i rfl HSO.out.2
            rw [← HN.out.1] at IX4 IX5
            obtain ⟨-, c4, -⟩ := ent_fields R4
            obtain ⟨-, c5, -⟩ := ent_fields R5
            have hE : ((strOf l[k]!.name).toList == (strOf l[i]!.name).toList) = decide (l[k]!.name = l[i]!.name) := by
              rw [strOf_list, strOf_list, Bool.eq_iff_iff, beq_iff_eq, decide_eq_true_eq]
            obtain ⟨d, hd⟩ : ∃ d, d = decide (l[k]!.name = l[i]!.name) := ⟨_, rfl⟩
            rw [← hd] at hE
            have HD := Lib.hid hd
            generalize strOf l[k]!.name = SK at *
            generalize strOf l[i]!.name = SI at *
            clear R4 R5 hd hbk IX
            go_wp2_with fail
            go_region
            cases d
            · all_goals go_wp2_with fail
              go_roundw
              case rel =>
                refine ⟨k + 1, by go_num, by omega, fun j hj => ?_, HBK.out.drew⟩
                rcases Nat.lt_or_ge j k with h | h
                · exact HNK.out j h
                · obtain rfl : j = k := by omega
                  exact of_decide_eq_false HD.out.symm
              case measure => simp [intOf]; omega
            · all_goals go_wp2_with fail
              go_ret
              refine ⟨_, rfl, ⟨fun h => (by cases h), fun h => absurd (h i HSO.out.2) ?_⟩, HBK.out.drew⟩
              have hm : namesL (l.take i) l[i]!.name = true := by
                unfold namesL
                have e := of_decide_eq_true HD.out.symm
                have hkl : k < (l.take i).length := by rw [List.length_take, ← HN.out.1]; omega
                refine List.any_eq_true.2 ⟨(l.take i)[k], List.getElem_mem hkl, ?_⟩
                rw [decide_eq_true_eq, List.getElem_take, ← e, getElem!_pos l k (by rw [← HN.out.1]; omega)]
              unfold stepOk
              rw [hm]
              simp
          · obtain rfl : k = i := by omega
            have tk : ¬ (k : Int) < (k : Int) := by omega
            clear hbk IX
            go_wp2_with fail
            go_roundw
            case rel =>
              refine ⟨k + 1, by go_num, by omega, fun j hj => ?_, HBK.out⟩
              rcases Nat.lt_or_ge j k with h | h
              · exact HP.out j h
              · obtain rfl : j = k := by omega
                have hm : namesL (l.take j) l[j]!.name = false := by
                  unfold namesL
                  rw [List.any_eq_false]
                  intro x hx
                  obtain ⟨i2, h2, rfl⟩ := List.getElem_of_mem hx
                  rw [List.length_take] at h2
                  rw [List.getElem_take, decide_eq_true_eq]
                  have := HNK.out i2 (by omega)
                  rw [getElem!_pos l i2 (by omega)] at this
                  exact this
                have h3 := HSO.out.1
                rw [hm] at h3
                rw [h3]
                rw [← HD0.out, ← HD1.out, decide_eq_false (show ¬ 0 < j by have := HI0.out; omega)]; simp
            case measure => simp [intOf]; omega
      have hi1 : 0 < i := by omega
      obtain ⟨b2, q2, IX2, -, LW2⟩ := (HG.out.below HB.out).at tyF ((i : Int) - 1) (i - 1) (by omega) (by rw [← HN.out.1]; omega)
      rw [← HN.out.1] at IX2
      have LP : ∀ y : Later wr, (Instr.loadAt 43 (.pointer (some ⟨b2, q2, none⟩))).run Try.prog y.1 = .ok (.agg (recA encE l[i - 1]!)) y.1 := fun y => LW2 y.1 y.2
      have hpn2 : l[i - 1]!.name.length ≤ 1000000 := HN.out.2 _ (by rw [getElem!_pos l (i - 1) (by rw [← HN.out.1]; omega)]; exact List.getElem_mem _)
      have CO := fun W => refLess_any l[i - 1]! l[i]! hpn2 HPN.out W
      have hwp : IntKind.i64.wrap ((i : Int) - 1) = (i : Int) - 1 := by rw [IntKind.wrap_i64]; omega
      have hgt : decide (0 < i) = true := decide_eq_true (by omega)
      clear hpn2 LW2 hi0
      obtain ⟨dc, hdc⟩ : ∃ dc, dc = lessE l[i - 1]! l[i]! := ⟨_, rfl⟩
      rw [← hdc] at CO
      have HDC := Lib.hid (show decide (0 ≤ Lib.compareBytes (thoughtL l[i - 1]!) (thoughtL l[i]!)) = !dc by rw [hdc, lessB_ge]; rfl)
      clear hdc
      obtain ⟨p1, hp1⟩ : ∃ p1, p1 = l[i]! := ⟨_, rfl⟩
      obtain ⟨p2, hp2⟩ : ∃ p2, p2 = l[i - 1]! := ⟨_, rfl⟩
      rw [← hp2] at LP CO
      rw [← hp1] at CO LE
      clear hp1 hp2
      cases dc
      case false =>
        refine wp_region_mg [(0, 0), (1, 0), (2, 0), (3, 0), (4, 0), (5, 0), (6, 0), (7, 0), (8, 0), (9, 0), (10, 0), (11, 0), (12, 0), (13, 0), (14, 0), (15, 0), (16, 0), (17, 0), (18, 0), (19, 0), (20, 0), (21, 0), (22, 0), (23, 0), (24, 0), (25, 0), (26, 0), (27, 0), (28, 0), (29, 0), (30, 0), (31, 0), (32, 0)] (by kernel_rfl) (by kernel_rfl) ?_
        iterate 4 ((refine mg_calm rfl (fun K hK => ?_); go_simp; (refine hK _ ?_; clear hK K)))
        refine mg_load rfl rfl _ _ rfl _ _ rfl L0 ?_
        (refine mg_calm rfl (fun K hK => ?_); go_simp; apply Exists.intro; refine ⟨fun z => CD z.1, hK _ ?_⟩; clear hK K)
        iterate 6 ((refine mg_calm rfl (fun K hK => ?_); go_simp; (refine hK _ ?_; clear hK K)))
        refine mg_load rfl rfl _ _ rfl _ _ rfl L1 ?_
        (refine mg_calm rfl (fun K hK => ?_); go_simp; apply Exists.intro; refine ⟨fun z => calls_calm (CN z.1), hK _ ?_⟩; clear hK K)
        iterate 10 ((refine mg_calm rfl (fun K hK => ?_); go_simp; (refine hK _ ?_; clear hK K)))
        refine mg_load rfl rfl _ _ rfl _ _ rfl LP ?_
        iterate 3 ((refine mg_calm rfl (fun K hK => ?_); go_simp; (refine hK _ ?_; clear hK K)))
        refine mg_load rfl rfl _ _ rfl _ _ rfl LE ?_
        (refine mg_calm rfl (fun K hK => ?_); go_simp; apply Exists.intro; refine ⟨fun z => CO z.1, hK _ ?_⟩; clear hK K)
        iterate 3 ((refine mg_calm rfl (fun K hK => ?_); go_simp; (refine hK _ ?_; clear hK K)))
        refine mg_nil fun w7 hw7 => ?_
        have HB7 := Lib.hid (HB.out.trans (hw7.mono HB.out.size))
        clear hw7 L0 L1 CD CN E0 IX2 LP CO hwp hgt LE
        go_wp2_with fail
        go_ret
        exact ⟨_, rfl, ⟨fun h => (by cases h), fun h => absurd (h i HSO.out.2) (by rw [HSO.out.1, HDC.out, decide_eq_true hi1]; simp)⟩, HB7.out⟩
      case true =>
        refine wp_region_mg [(0, 0), (1, 0), (2, 0), (3, 0), (4, 0), (5, 0), (6, 0), (7, 0), (8, 0), (9, 0), (10, 0), (11, 0), (12, 0), (13, 0), (14, 0), (15, 0), (16, 0), (17, 0), (18, 0), (19, 0), (20, 0), (21, 0), (22, 0), (23, 0), (24, 0), (25, 0), (26, 0), (27, 0), (28, 0), (29, 0), (30, 0), (31, 0), (32, 0)] (by kernel_rfl) (by kernel_rfl) ?_
        iterate 4 ((refine mg_calm rfl (fun K hK => ?_); go_simp; (refine hK _ ?_; clear hK K)))
        refine mg_load rfl rfl _ _ rfl _ _ rfl L0 ?_
        (refine mg_calm rfl (fun K hK => ?_); go_simp; apply Exists.intro; refine ⟨fun z => CD z.1, hK _ ?_⟩; clear hK K)
        iterate 6 ((refine mg_calm rfl (fun K hK => ?_); go_simp; (refine hK _ ?_; clear hK K)))
        refine mg_load rfl rfl _ _ rfl _ _ rfl L1 ?_
        (refine mg_calm rfl (fun K hK => ?_); go_simp; apply Exists.intro; refine ⟨fun z => calls_calm (CN z.1), hK _ ?_⟩; clear hK K)
        iterate 10 ((refine mg_calm rfl (fun K hK => ?_); go_simp; (refine hK _ ?_; clear hK K)))
        refine mg_load rfl rfl _ _ rfl _ _ rfl LP ?_
        iterate 3 ((refine mg_calm rfl (fun K hK => ?_); go_simp; (refine hK _ ?_; clear hK K)))
        refine mg_load rfl rfl _ _ rfl _ _ rfl LE ?_
        (refine mg_calm rfl (fun K hK => ?_); go_simp; apply Exists.intro; refine ⟨fun z => CO z.1, hK _ ?_⟩; clear hK K)
        iterate 3 ((refine mg_calm rfl (fun K hK => ?_); go_simp; (refine hK _ ?_; clear hK K)))
        refine mg_nil fun w7 hw7 => ?_
        have hb7 := HB.out.trans (hw7.mono HB.out.size)
        have HB7 := Lib.hid hb7
        clear hw7 hb7 L0 L1 CD CN E0 IX2 LP CO hwp hgt LE
        go_wp2_with fail
        go_loopw [4] (fun s4 wk => ∃ k : Nat, s4 = .int .i64 (k : Int) ∧ k ≤ i ∧ (∀ j, j < k → l[j]!.name ≠ l[i]!.name) ∧ Below w.heap.size w wk) (fun s4 _ => i - (intOf s4).toNat)
        case atStart => exact ⟨0, rfl, Nat.zero_le _, fun _ h => absurd h (Nat.not_lt_zero _), HB7.out⟩
        case round =>
          obtain ⟨k, rfl, hk, hnk, hbk⟩ := hrel
          have HNK := Lib.hid hnk
          have HBK := Lib.hid hbk
          clear hnk
          by_cases hki : k < i
          · have tk : (k : Int) < (i : Int) := by omega
            obtain ⟨b4, q4, IX4, R4, -⟩ := (HG.out.below hbk).at tyF (k : Int) k rfl (by rw [← HN.out.1]; omega)
            obtain ⟨b5, q5, IX5, R5, -⟩ := (HG.out.below hbk).at tyF (i : Int) i rfl HSO.out.2
            rw [← HN.out.1] at IX4 IX5
            obtain ⟨-, c4, -⟩ := ent_fields R4
            obtain ⟨-, c5, -⟩ := ent_fields R5
            have hE : ((strOf l[k]!.name).toList == (strOf l[i]!.name).toList) = decide (l[k]!.name = l[i]!.name) := by
              rw [strOf_list, strOf_list, Bool.eq_iff_iff, beq_iff_eq, decide_eq_true_eq]
            obtain ⟨d, hd⟩ : ∃ d, d = decide (l[k]!.name = l[i]!.name) := ⟨_, rfl⟩
            rw [← hd] at hE
            have HD := Lib.hid hd
            generalize strOf l[k]!.name = SK at *
            generalize strOf l[i]!.name = SI at *
            clear R4 R5 hd hbk IX
            go_wp2_with fail
            go_region
            cases d
            · all_goals go_wp2_with fail
              go_roundw
              case rel =>
                refine ⟨k + 1, by go_num, by omega, fun j hj => ?_, HBK.out.drew⟩
                rcases Nat.lt_or_ge j k with h | h
                · exact HNK.out j h
                · obtain rfl : j = k := by omega
                  exact of_decide_eq_false HD.out.symm
              case measure => simp [intOf]; omega
            · all_goals go_wp2_with fail
              go_ret
              refine ⟨_, rfl, ⟨fun h => (by cases h), fun h => absurd (h i HSO.out.2) ?_⟩, HBK.out.drew⟩
              have hm : namesL (l.take i) l[i]!.name = true := by
                unfold namesL
                have e := of_decide_eq_true HD.out.symm
                have hkl : k < (l.take i).length := by rw [List.length_take, ← HN.out.1]; omega
                refine List.any_eq_true.2 ⟨(l.take i)[k], List.getElem_mem hkl, ?_⟩
                rw [decide_eq_true_eq, List.getElem_take, ← e, getElem!_pos l k (by rw [← HN.out.1]; omega)]
              unfold stepOk
              rw [hm]
              simp
          · obtain rfl : k = i := by omega
            have tk : ¬ (k : Int) < (k : Int) := by omega
            clear hbk IX
            go_wp2_with fail
            go_roundw
            case rel =>
              refine ⟨k + 1, by go_num, by omega, fun j hj => ?_, HBK.out⟩
              rcases Nat.lt_or_ge j k with h | h
              · exact HP.out j h
              · obtain rfl : j = k := by omega
                have hm : namesL (l.take j) l[j]!.name = false := by
                  unfold namesL
                  rw [List.any_eq_false]
                  intro x hx
                  obtain ⟨i2, h2, rfl⟩ := List.getElem_of_mem hx
                  rw [List.length_take] at h2
                  rw [List.getElem_take, decide_eq_true_eq]
                  have := HNK.out i2 (by omega)
                  rw [getElem!_pos l i2 (by omega)] at this
                  exact this
                have h3 := HSO.out.1
                rw [hm] at h3
                rw [h3]
                rw [← HD0.out, ← HD1.out, HDC.out]; simp
            case measure => simp [intOf]; omega
    · obtain rfl : i = n := by omega
      have t1 : ¬ (i : Int) < (i : Int) := by omega
      clear hb
      go_wp2_with fail
      go_ret
      first
        | exact ⟨_, rfl, ⟨fun _ j hj => HP.out j (by rw [HN.out.1]; exact hj), fun _ => rfl⟩, HB.out⟩
        | exact .inr ⟨rfl, fun j hj => HP.out j (by rw [HN.out.1]; exact hj), HB.out⟩
end Go.Proofs.Ytbllpjphlanchaa
