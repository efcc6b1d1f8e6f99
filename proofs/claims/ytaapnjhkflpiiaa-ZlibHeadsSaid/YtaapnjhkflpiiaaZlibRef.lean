/-
  The walk of the document's Open.
-/
import Derived.Test.YtaapnjhkflpiiaaZlib0
import Derived.Test.YtaapnjhkflpiiaaInfRawWalk
namespace Go.Proofs.Ytaapnjhkflpiiaa
open Go.RowKit Go.Mix

set_option maxRecDepth 100000 in
set_option maxHeartbeats 2000000 in
theorem refOpen_any {w : World} {a : Option Addr} {cap : Nat} {d : List UInt8} (most : Int) (hs : Sl w a cap d) (hl : d.length ≤ 1000000) (hroom : most ≤ 1000000) :
    Calls Try.prog 29 #[.slice a d.length cap, .int .i64 most] w (OpenEnds d most w) := by
  have hE0 : openOf d most = if d.length < 2 then ([], 0, 3) else if headBad (d.getD 0 0).toNat (d.getD 1 0).toNat = true then ([], 0, 4) else if (rawOf (d.drop 2) most).2.2 ≠ 0 then ([], 0, (rawOf (d.drop 2) most).2.2)
      else if (d.drop (2 + (rawOf (d.drop 2) most).2.1)).length < 4 then ([], 0, 3) else if (d.drop (2 + (rawOf (d.drop 2) most).2.1)).take 4 ≠ tailOf (rawOf (d.drop 2) most).1 then ([], 0, 5)
      else ((rawOf (d.drop 2) most).1, (rawOf (d.drop 2) most).2.1 + 6, 0) := rfl
  by_cases h2 : d.length < 2
  · have t1 : decide (d.length < 2) = true := decide_eq_true h2
    have t2 : decide ((d.length : Int) < 2) = true := decide_eq_true (by omega)
    rw [if_pos h2] at hE0
    have HE := Lib.hid hE0
    clear hE0
    go_enter Try.func29, Try.ntmps29
    go_wp2_with fail
    go_ret3
    exact OpenEnds.err HE.out rfl (Below.refl _ _)
  · have t1 : decide (d.length < 2) = false := decide_eq_false h2
    have t2 : decide ((d.length : Int) < 2) = false := decide_eq_false (by omega)
    rw [if_neg h2] at hE0
    have hx := (d.getD 0 0).toNat_lt
    have hy := (d.getD 1 0).toNat_lt
    obtain ⟨IK0, IC0⟩ := hs.at 0 0 rfl (by omega)
    obtain ⟨IK1, IC1⟩ := hs.at 1 1 rfl (by omega)
    have ex : d[0]'(by omega) = d.getD 0 0 := by rw [List.getD_eq_getElem?_getD, List.getElem?_eq_getElem]; rfl
    have ey : d[1]'(by omega) = d.getD 1 0 := by rw [List.getD_eq_getElem?_getD, List.getElem?_eq_getElem]; rfl
    rw [ex] at IC0
    rw [ey] at IC1
    clear ex ey
    generalize (d.getD 0 0).toNat = x at *
    generalize (d.getD 1 0).toNat = y at *
    obtain ⟨B, hB⟩ : ∃ B, B = headBad x y := ⟨_, rfl⟩
    rw [← hB] at hE0
    have HB := Lib.hid hB
    have HE := Lib.hid hE0
    clear hB hE0
    have hxl : ∀ z : Later w, z.1.cell? (elt a 0) = some (.int .u8 (x : Int)) := fun z => (z.2.cell (lt_of_cell IC0)).trans IC0
    have hyl : ∀ z : Later w, z.1.cell? (elt a 1) = some (.int .u8 (y : Int)) := fun z => (z.2.cell (lt_of_cell IC1)).trans IC1
    go_enter Try.func29, Try.ntmps29
    go_upto_region 3 with (fail)
    refine wp_region_mix [(0, 0), (1, 0), (2, 0), (3, 0), (4, 0), (5, 0), (6, 0), (7, 0), (8, 0), (9, 0)] (by kernel_rfl) (by kernel_rfl) ?_
    iterate 10 (refine mix_calm rfl (fun K hK => ?_); go_simp; (refine hK _ ?_; clear hK K))
    refine mix_nil fun w0 hw0 => ?_
    have g0 : Below w.heap.size w w0 := hw0
    clear hxl hyl IK0 IC0 IK1 IC1 hw0
    go_upto_region 4 with (fail)
    go_cut [44] from 23 to 73 (fun t wx => t = .bool B ∧ wx = w0)
    case first =>
      by_cases c1 : x % 16 = 8
      · have u1 : ((x : Int) % 16 != 8) = false := by rw [bne_eq_false_iff_eq]; omega
        by_cases c2 : 7 < x / 16
        · have u2 : decide (7 < (x : Int) / 16) = true := decide_eq_true (by omega)
          have HBB := Lib.hid (show B = true by rw [HB.out]; unfold headBad; simp [c2])
          clear c1 c2
          go_wp2_with fail
          go_meet
          exact ⟨by rw [HBB.out], rfl⟩
        · have u2 : decide (7 < (x : Int) / 16) = false := decide_eq_false (by omega)
          by_cases c3 : y / 32 % 2 = 1
          · have u3 : ((y : Int) / 32 % 2 == 1) = true := by rw [beq_iff_eq]; omega
            have HBB := Lib.hid (show B = true by rw [HB.out]; unfold headBad; simp [c3])
            clear c1 c2 c3
            go_wp2_with fail
            go_meet
            exact ⟨by rw [HBB.out], rfl⟩
          · have u3 : ((y : Int) / 32 % 2 == 1) = false := by rw [beq_eq_false_iff_ne]; omega
            have HBB := Lib.hid (show B = decide ((256 * x + y) % 31 ≠ 0) by rw [HB.out]; unfold headBad; simp [c1, c2, c3])
            clear c1 c2 c3
            have u4 : ((256 * (x : Int) + (y : Int)) % 31 != 0) = B := by
              rw [HBB.out, Bool.eq_iff_iff, bne_iff_ne, decide_eq_true_eq]
              omega
            have u5 : ((256 * (x : Int) + (y : Int)).tmod 31 != 0) = B := by
              rw [Int.tmod_eq_emod_of_nonneg (by omega)]; exact u4
            go_wp2_with fail
            go_meet
            exact ⟨rfl, rfl⟩
      · have u1 : ((x : Int) % 16 != 8) = true := by rw [bne_iff_ne]; omega
        have HBB := Lib.hid (show B = true by rw [HB.out]; unfold headBad; simp [c1])
        clear c1
        go_wp2_with fail
        go_meet
        exact ⟨by rw [HBB.out], rfl⟩
    case rest =>
      obtain ⟨rfl, rfl⟩ := hcut
      cases hBB : B with
      | true =>
        have hE := HE.out
        rw [if_pos hBB] at hE
        have HE2 := Lib.hid hE
        clear hE HE
        subst hBB
        go_wp2_with fail
        go_ret3
        exact OpenEnds.err HE2.out rfl g0
      | false =>
        have hE := HE.out
        rw [if_neg (by rw [hBB]; decide)] at hE
        obtain ⟨a2, l2, cap2, hl2, hs2, hsl2⟩ := hs.from 2 2 rfl (by omega)
        rw [← hl2] at hE
        have hll : l2.length + 2 = d.length := by rw [hl2, List.length_drop]; omega
        obtain ⟨x2, n2, e2, hR⟩ : ∃ x2 n2 e2, rawOf l2 most = (x2, n2, e2) := ⟨_, _, _, rfl⟩
        have hn2 : n2 ≤ l2.length := by
          rcases rawOf_cases l2 most with ⟨q, y, h1, h2, h3, h4⟩ | ⟨e, h1, h2, h3, h4⟩
          · rw [hR] at h2; simp only [Prod.mk.injEq] at h2; omega
          · rw [hR] at h2; simp only [Prod.mk.injEq] at h2; omega
        have hx2 : x2.length ≤ 1000000 := by
          have := rawOf_len l2 most
          rw [hR] at this
          simp only at this
          omega
        rw [hR] at hE
        simp only at hE
        have HE2 := Lib.hid hE
        have HRW := Lib.hid hR
        have hs20 := hs2.below g0
        have hs0 := hs.below g0
        have hl2s : l2.length ≤ 1000000 := by omega
        have HLL := Lib.hid hll
        clear hE HE hR hs2 hs hl2 hll
        subst hBB
        go_wp2_with fail
        have hll := HLL.out
        refine (refRaw_sl HRW.out hs20 (by omega) hroom).mono ?_
        rintro e w1 ⟨a3, c3, rfl, h3, g1⟩
        have hs1 := hs0.below g1
        have G1 := g0.trans (g1.mono g0.size)
        clear hs0 hs20 hsl2
        by_cases he : e2 = 0
        · have u1 : ((e2 : Int) != 0) = false := by rw [bne_eq_false_iff_eq]; omega
          have hE := HE2.out
          rw [if_neg (by omega), List.length_drop] at hE
          have w1' : IntKind.i64.wrap ((d.length : Int) - 2) = (d.length : Int) - 2 := IntWalk.i64_in _ (by omega)
          have w2' : IntKind.i64.wrap ((d.length : Int) - 2 - (n2 : Int)) = (d.length : Int) - 2 - (n2 : Int) := IntWalk.i64_in _ (by omega)
          clear he
          by_cases h4 : d.length - (2 + n2) < 4
          · have u3 : decide ((d.length : Int) - 2 - (n2 : Int) < 4) = true := decide_eq_true (by omega)
            rw [if_pos h4] at hE
            have HE3 := Lib.hid hE
            clear hE HE2
            go_wp2_with fail
            go_ret3
            exact OpenEnds.err HE3.out rfl G1
          · have u3 : decide ((d.length : Int) - 2 - (n2 : Int) < 4) = false := decide_eq_false (by omega)
            rw [if_neg h4] at hE
            obtain ⟨a4, l4, cap4, hl4, hl4n, hs4, hsl4⟩ := hs1.mid (2 + (n2 : Int)) (6 + (n2 : Int)) (2 + n2) (6 + n2) (by omega) (by omega) (by omega) (by omega)
            have e44 : 6 + n2 - (2 + n2) = 4 := by omega
            rw [e44] at hl4 hl4n
            rw [← hl4] at hE
            have HE3 := Lib.hid hE
            have v1' : IntKind.i64.wrap (2 + (n2 : Int)) = 2 + (n2 : Int) := IntWalk.i64_in _ (by omega)
            have v2' : IntKind.i64.wrap (6 + (n2 : Int)) = 6 + (n2 : Int) := IntWalk.i64_in _ (by omega)
            have CA := Lib.hid (fun W (h : Sl W a3 c3 x2) => tail_any h hx2)
            have st : ∀ z : Later w1, (convert 22 9 (.slice a4 l4.length cap4)).run Try.prog z.1 = .ok (.string ⟨l4.toArray⟩) z.1 := fun z => (hs4.below z.2).str
            generalize tailOf x2 = tl at *
            clear hE HE2 hl4 hl4n
            go_upto_region 11 with (fail)
            refine wp_region_mix [(0, 0), (1, 0), (2, 0), (3, 0), (4, 0), (5, 0), (6, 0), (7, 0), (8, 1), (9, 0), (10, 0)] (by kernel_rfl) (by kernel_rfl) ?_
            iterate 8 (refine mix_calm rfl (fun K hK => ?_); go_simp; (refine hK _ ?_; clear hK K))
            refine mix_loud rfl rfl (fun w5 hw5 K hK => ?_)
            go_wp2_with fail
            refine Calls.mono (CA.out _ (h3.below hw5)) ?_
            rintro e w6 ⟨a6, c6, rfl, h6, g6⟩
            go_wp2_with fail
            refine hK _ _ g6 ?_
            clear hK K
            have hw6 : Grow w1 w6 := hw5.trans g6
            have st2 : ∀ z : Later w6, (convert 22 9 (.slice a6 tl.length c6)).run Try.prog z.1 = .ok (.string ⟨tl.toArray⟩) z.1 := fun z => (h6.below z.2).str
            clear st hsl4 v1' v2'
            iterate 2 (refine mix_calm rfl (fun K hK => ?_); go_simp; (refine hK _ ?_; clear hK K))
            refine mix_nil fun w8 hw8 => ?_
            have h38 := h3.below (hw6.trans hw8)
            have G8 : Below w.heap.size w w8 := G1.trans ((hw6.trans hw8 : Below w1.heap.size w1 w8).mono G1.size)
            clear st2 CA h3 hs4 h6 g6 hw5 hw6 hw8 G1 hs1
            go_upto_if 72 with (fail)
            refine wp_cond_split rfl (fun h => ?_) (fun h => ?_)
            · have hne : l4 ≠ tl := by intro e; rw [e] at h; simp at h
              have HE4 := Lib.hid (HE3.out.trans (if_pos hne))
              clear h hne
              go_wp2_with fail
              go_ret3
              exact OpenEnds.err HE4.out rfl G8
            · have heq : l4 = tl := by simpa using h
              have HE4 := Lib.hid (HE3.out.trans (if_neg fun h => h heq))
              clear h heq
              go_wp2_with fail
              go_ret3
              unfold OpenEnds
              rw [HE4.out]
              exact ⟨a3, c3, rfl, h38, G8⟩
        · have u1 : ((e2 : Int) != 0) = true := by rw [bne_iff_ne]; omega
          have hE := HE2.out
          rw [if_pos he] at hE
          have HE3 := Lib.hid hE
          clear hE HE2 he hll
          go_wp2_with fail
          go_ret3
          exact OpenEnds.err HE3.out rfl G1

theorem refOpen_sl {d : List UInt8} {most : Int} {x : List UInt8} {n e : Nat} (hE : openOf d most = (x, n, e)) {w : World} {a : Option Addr} {cap : Nat} (hs : Sl w a cap d) (hl : d.length ≤ 1000000) (hroom : most ≤ 1000000) :
    Calls Try.prog 29 #[.slice a d.length cap, .int .i64 most] w fun en w' =>
      ∃ a2 c2, en = .returned (.tuple #[.slice a2 x.length c2, .int .i64 (n : Int), .int .i64 (e : Int)]) ∧ Sl w' a2 c2 x ∧ Below w.heap.size w w' := by
  refine (refOpen_any most hs hl hroom).mono fun en w' h => ?_
  unfold OpenEnds at h
  rw [hE] at h
  exact h

end Go.Proofs.Ytaapnjhkflpiiaa
