/-
  The law WalkReaches, walked.
-/
import Derived.Test.YtkkfolfplpafhaaWalkOrdersWalk
import Derived.Test.YtkkfolfplpafhaaClosedRef
import Derived.Test.YtkkfolfplpafhaaHeadsRef
import Derived.Test.YtkkfolfplpafhaaReachRef
namespace Go.Proofs.Ytkkfolfplpafhaa
open Go.RowKit Go.Mix

theorem sizeOf_graph (w : World) : (sizeOf 22).run Try.prog w = .ok 1 w := by kernel_rfl
theorem all_inG {g : List (List Int)} {F : List Int} : F.all (inG g) = true ↔ ∀ z ∈ F, 0 ≤ z ∧ z < (g.length : Int) := by
  rw [List.all_eq_true]
  unfold inG
  simp [Bool.and_eq_true]
theorem closed_reach {g : List (List Int)} {F : List Int} (hg : InRange g) : closedG g (natsZ (reachL g F)) = true := by
  unfold closedG
  rw [List.all_eq_true]
  intro x hx
  obtain ⟨i, hi, rfl⟩ := List.mem_map.1 hx
  obtain ⟨hi, hr⟩ := reachL_mem.1 hi
  unfold okX
  rw [Bool.or_eq_true]
  refine .inr ?_
  rw [List.all_eq_true]
  intro p hp
  unfold okP
  have hpr := hg i hi p hp
  obtain ⟨q, rfl⟩ := Int.eq_ofNat_of_zero_le hpr.1
  rw [Bool.or_eq_true]
  refine .inr (decide_eq_true ?_)
  exact List.mem_map.2 ⟨q, reachL_mem.2 ⟨by omega, .step hr hp⟩, rfl⟩
theorem natsZ_wf {l : List Nat} (h : ∀ x ∈ l, x ≤ 1000) : ∀ z ∈ natsZ l, (Lit.int .i64 z).wf = true := by
  intro z hz
  obtain ⟨x, hx, rfl⟩ := List.mem_map.1 hz
  have := h x hx
  exact WalkArith.wf_i64 (by omega)

set_option maxRecDepth 100000 in
set_option maxHeartbeats 4000000 in
theorem walkReaches_walk (a : Option Addr) (len cap : Nat) (g : List (List Int)) (es : List (Option Addr × Nat)) (b : Option Addr) (lb cb : Nat) (zs : List Int) (w : World) (hl : g.length = len) (hg : GraphAt w a cap g es)
    (hz : (b = none ∧ lb = 0 ∧ cb = 0 ∧ zs = []) ∨ ∃ x, b = some x ∧ lb ≤ cb ∧ cb ≤ maxLen ∧ zs.length = cb ∧ (∀ i, i < zs.length → w.cell? (x.add i) = some (.int .i64 (zs.getD i 0))) ∧ ∀ n ∈ zs, (Lit.int .i64 n).wf = true) :
    Calls Try.prog 6 #[.slice a len cap, .slice b lb cb] w fun e w' => e = .returned (.bool true) ∧ Below w.heap.size w w' := by
  subst hl
  obtain ⟨F, k, hk, hkl, hlc, hcap⟩ : ∃ (l : List Int) (k : Nat), k = min lb 10 ∧ l.length = k ∧ Cells w b (zcells l) ∧ lb ≤ cb ∧ (b = none → cb = 0) := by
    rcases hz with ⟨rfl, rfl, rfl, rfl⟩ | ⟨x, rfl, h1, h2, h3, h4, h5⟩
    · exact ⟨[], 0, rfl, rfl, cells_none _, Nat.le_refl _, fun _ => rfl⟩
    · refine ⟨zs.take (min lb 10), min lb 10, rfl, by rw [List.length_take]; omega, zcells_of (by omega) h4, h1, fun h => nomatch h⟩
  clear hz
  have hmin := min_run (lb : Int) 10 k (by split <;> omega)
  have SL : ∀ W : World, (Instr.slice 24 (.slice b lb cb) none (some (.int .i64 (k : Int))) none).run Try.prog W = .ok (.slice b k cb) W := fun W =>
    run_slice_to (P := Try.prog) 24 Try.underlying24 b lb cb k (by omega) hcap.2 sizeOf_int W
  have HKL := Lib.hid hkl
  have HLC := Lib.hid hlc
  have HGA := Lib.hid hg
  have hk10 : k ≤ 10 := by omega
  have hkc : k ≤ cb := by omega
  have HCN := Lib.hid hcap.2
  clear hk hkl hlc hcap
  go_enter Try.func6, Try.ntmps6
  go_wp2_with fail
  refine (few_any (HGA.out)).mono ?_
  rintro e w1 ⟨a1, c1, rfl, hF1, g1⟩
  go_wp2_with fail
  refine (right_any (HGA.out.below g1)).mono ?_
  rintro e w2 ⟨a2, c2, es2, rfl, hR2, g2⟩
  have G2 := g1.trans (Below.mono g2 g1.size)
  have hF2 := hF1.below g2
  obtain ⟨C, hC⟩ : ∃ C : Array Value, C = #[.slice a1 (fewG g).length c1, .slice a2 (rightG g).length c2] := ⟨_, rfl⟩
  have hblk : (w2.alloc (.cells C 22)).heap[w2.heap.size]? = some (.cells C 22 (0, 0)) := heap_alloc_last _ _ _ rfl
  have hal : Below w2.heap.size w2 (w2.alloc (.cells C 22)) := (Below.refl _ _).alloc (Nat.le_refl _) _
  have G3 := G2.trans (Below.mono hal G2.size)
  have hcl := cells_lit hblk
  have hfor : ∀ i, i < 2 → ∃ (a' : Option Addr) (c' : Nat) (G : List (List Int)) (E : List (Option Addr × Nat)), C.toList[i]? = some (.slice a' G.length c') ∧ GraphAt (w2.alloc (.cells C 22)) a' c' G E ∧ G.length ≤ 1000 ∧ ∀ k, (G.getD k []).length ≤ 1000 := by
    intro i hi
    subst hC
    match i, hi with
    | 0, _ => exact ⟨a1, c1, fewG g, es, rfl, hF2.below hal, (fewG_ok g).1, (fewG_ok g).2⟩
    | 1, _ => exact ⟨a2, c2, rightG g, es2, rfl, hR2.below hal, (rightG_ok g).1, (rightG_ok g).2⟩
  have hCl : C.toList.length = 2 := by rw [hC]; rfl
  have HFOR := Lib.hid hfor
  have HCL := Lib.hid hcl
  have HCLN := Lib.hid hCl
  have HLC3 := Lib.hid (HLC.out.below G3)
  have HG3 := Lib.hid G3
  obtain ⟨B, hB⟩ : ∃ B, B = w2.heap.size := ⟨_, rfl⟩
  clear hF1 hR2 g1 g2 G2 hF2 hblk hcl hfor hCl
  go_wp2_with fail
  rw [← hC]
  rw [← hB] at HCL ⊢
  generalize w2.alloc (.cells C 22) = wB at *
  clear hal hC hB HGA G3 HLC
  go_loopw [26] (fun s26 wr => ∃ i : Nat, s26 = .int .i64 (i : Int) ∧ i ≤ 2 ∧ Below wB.heap.size wB wr) (fun s26 _ => 2 - (intOf s26).toNat)
  case atStart => exact ⟨0, rfl, Nat.zero_le _, Below.refl _ _⟩
  case round =>
    obtain ⟨i, rfl, hi, hb0⟩ := hrel
    by_cases hi2 : i < 2
    · have t1 : decide ((i : Int) < 2) = true := decide_eq_true (by omega)
      have t1' : decide (i < 2) = true := decide_eq_true hi2
      obtain ⟨a', c', G, E, hcg, hGA, hG1, hG2⟩ := HFOR.out i hi2
      have HGW := Lib.hid (fun (W : World) (h : Below wB.heap.size wB W) => hGA.below h)
      have HLW := Lib.hid (fun (W : World) (h : Below wB.heap.size wB W) => HLC3.out.below h)
      have hcb := HCL.out.below hb0
      have IK : ∀ W : World, (Instr.indexAt 36 (.slice (some ⟨B, 0, none⟩) 2 2) (.int .i64 (i : Int))).run Try.prog W = .ok (.pointer (some ⟨B, i, none⟩)) W := fun W => by
        have := run_index_any (P := Try.prog) hcb 36 Try.underlying36 sizeOf_graph 2 (n := 2) hi2 (by rw [HCLN.out]; exact Nat.le_refl _) .i64 W
        rw [elt_own] at this
        exact this
      have IC : wr.cell? ⟨B, i, none⟩ = some (.slice a' G.length c') := by
        have := hcb.2 i (by rw [HCLN.out]; exact hi2)
        rw [elt_own] at this
        rw [this]
        rw [List.getElem?_eq_getElem (by rw [HCLN.out]; exact hi2)] at hcg
        exact hcg
      have HG1 := Lib.hid hG1
      have HG2 := Lib.hid hG2
      clear hcg hGA hcb hG1 hG2
      go_wp2_with fail
      refine Calls.mono (refOrder_any (HGW.out _ hb0) HG1.out HG2.out) ?_
      intro e w3 hO
      unfold RefOrderEnds at hO
      cases ho : orderG G with
      | none =>
        rw [ho] at hO
        obtain ⟨rfl, g3⟩ := hO
        have b3 := hb0.trans (Below.mono g3 hb0.size)
        have HO := Lib.hid ho
        clear ho hb0 g3 IK IC
        go_wp2_with fail
        refine Calls.mono (heads_any (HGW.out _ b3) HG1.out HG2.out) ?_
        intro e w4 hO
        unfold HeadsEnds at hO
        rw [HO.out] at hO
        obtain ⟨rfl, g4⟩ := hO
        have b4 := b3.trans (Below.mono g4 b3.size)
        have C5 := reach_any (cb := cb) (HGW.out _ b4) HG1.out HG2.out (HLW.out _ b4) (by rw [HKL.out]; omega) (by rw [HKL.out]; exact hkc) HCN.out
        rw [HKL.out] at C5
        have HC5 := Lib.hid C5
        clear b3 g4 C5
        go_wp2_with fail
        refine Calls.mono HC5.out ?_
        intro e w5 hO
        have hO2 : e = .returned (.tuple #[.slice none 0 0, .int .i64 4]) ∧ Below w4.heap.size w4 w5 := by
          rcases hO with ⟨⟨h1, -⟩, -⟩ | ⟨-, h2⟩
          · rw [HO.out] at h1; cases h1
          · exact h2
        obtain ⟨rfl, g5⟩ := hO2
        have b5 := b4.trans (Below.mono g5 b4.size)
        clear hO HC5 b4 g5
        have HB5 := Lib.hid b5
        go_wp2_with fail
        go_loop [13, 14] (fun s13 s14 => ∃ k' : Nat, s14 = .int .i64 (k' : Int) ∧ k' ≤ k ∧ s13 = .bool ((F.take k').all (inG G))) (fun _ s14 => k - (intOf s14).toNat)
        case atStart => exact ⟨0, rfl, Nat.zero_le _, by simp⟩
        case round =>
          obtain ⟨q, rfl, hq, rfl⟩ := hrel
          by_cases hqk : q < k
          · have u1 : decide ((q : Int) < (k : Int)) = true := decide_eq_true (by omega)
            have u1' : decide (q < k) = true := decide_eq_true hqk
            have hqF : q < F.length := by rw [HKL.out]; exact hqk
            obtain ⟨JK, JC⟩ := zs_at (HLW.out _ HB5.out) cb (q : Int) q rfl hqF
            rw [HKL.out] at JK
            have HSN := Lib.hid (all_snocT (f := inG G) hqF)
            have hix : inG G (F.getD q 0) = (decide (0 ≤ F.getD q 0) && decide (F.getD q 0 < (G.length : Int))) := rfl
            have HIX := Lib.hid hix
            clear hqF hix
            generalize F.getD q 0 = z at *
            generalize hA1 : (F.take (q + 1)).all (inG G) = A1 at *
            generalize (F.take q).all (inG G) = A0 at *
            cases A0 with
            | false =>
              have HA := Lib.hid (show A1 = false from HSN.out)
              clear HSN HIX
              go_wp2_with fail
              go_round
              case rel => exact ⟨q + 1, by go_num, by omega, by rw [hA1, HA.out]⟩
              case measure => simp [intOf]; omega
            | true =>
              by_cases hz0 : 0 ≤ z
              · have z1 : decide (0 ≤ z) = true := decide_eq_true hz0
                have HA := Lib.hid (show A1 = decide (z < (G.length : Int)) by rw [HSN.out, HIX.out, z1]; rfl)
                clear HSN HIX
                go_wp2_with fail
                go_round
                case rel => exact ⟨q + 1, by go_num, by omega, by rw [hA1, HA.out]⟩
                case measure => simp [intOf]; omega
              · have z1 : decide (0 ≤ z) = false := decide_eq_false hz0
                have HA := Lib.hid (show A1 = false by rw [HSN.out, HIX.out, z1]; rfl)
                clear HSN HIX
                go_wp2_with fail
                go_round
                case rel => exact ⟨q + 1, by go_num, by omega, by rw [hA1, HA.out]⟩
                case measure => simp [intOf]; omega
          · obtain rfl : q = k := by omega
            have u1 : decide ((q : Int) < (q : Int)) = false := decide_eq_false (by omega)
            have u1' : decide (q < q) = false := decide_eq_false (by omega)
            rw [List.take_of_length_le (by rw [HKL.out]; exact Nat.le_refl _)]
            generalize F.all (inG G) = IA
            go_wp2_with fail
            go_roundw
            case rel => exact ⟨i + 1, by go_num, by omega, HB5.out⟩
            case measure => simp [intOf]; omega
      | some l =>
        rw [ho] at hO
        obtain ⟨v3, rfl, hr3⟩ := hO
        have b3 := hb0.trans (Below.mono (hr3.frame.toBelow fun _ hk => hk) hb0.size)
        have HO := Lib.hid ho
        have HIN := Lib.hid (order_in ho)
        clear ho hb0 hr3 IK IC
        go_wp2_with fail
        refine Calls.mono (heads_any (HGW.out _ b3) HG1.out HG2.out) ?_
        intro e w4 hO
        unfold HeadsEnds at hO
        rw [HO.out] at hO
        obtain ⟨v4, rfl, hr4⟩ := hO
        have b4 := b3.trans (Below.mono (hr4.frame.toBelow fun _ hk => hk) b3.size)
        obtain ⟨a4, c4, hv4, hc4, -, -, -⟩ := hr4.slice
        rw [icells_z] at hc4
        rw [icells_length, ← natsZ_len] at hv4
        subst hv4
        have HHL := Lib.hid (show (natsZ (headsL G)).length ≤ 1000 by rw [natsZ_len]; exact Nat.le_trans (headsL_len G) HG1.out)
        have HRH := Lib.hid (fun (W : World) (h : Below wB.heap.size wB W) => refHeads_any (HGW.out _ h) HG1.out HG2.out)
        have C5 := reach_any (cb := cb) (HGW.out _ b4) HG1.out HG2.out (HLW.out _ b4) (by rw [HKL.out]; omega) (by rw [HKL.out]; exact hkc) HCN.out
        rw [HKL.out] at C5
        have HC5 := Lib.hid C5
        have hHz : ∀ l, l = headsL G → icells l = zcells (natsZ (headsL G)) := fun l h => by rw [h]; exact icells_z _
        have HHZ := Lib.hid (hHz (headsL G) rfl)
        clear b3 C5 hHz hr4
        generalize natsZ (headsL G) = H at *
        go_wp2_with fail
        refine Calls.mono HC5.out ?_
        intro e w5 hO
        rcases hO with ⟨⟨-, hin⟩, v5, rfl, hr5⟩ | ⟨hno, rfl, g5⟩
        · have g5 := hr5.frame.toBelow fun _ hk => hk
          have b5 := b4.trans (Below.mono g5 b4.size)
          have HI := Lib.hid (all_inG.2 hin)
          have HFI := Lib.hid hin
          have h45 := hc4.below g5
          obtain ⟨a5, c5, hv5, hc5, -, -, -⟩ := hr5.slice
          rw [icells_z] at hc5
          rw [icells_length, ← natsZ_len] at hv5
          subst hv5
          have HRL := Lib.hid (show (natsZ (reachL G F)).length ≤ 1000 by rw [natsZ_len]; exact Nat.le_trans (reachL_len G F) HG1.out)
          have HRZ := Lib.hid (icells_z (reachL G F))
          have HCLO := Lib.hid (closed_reach (F := F) HIN.out)
          have HWF := Lib.hid (natsZ_wf (l := reachL G F) (fun x hx => by have := (reachL_mem.1 hx).1; have := HG1.out; omega))
          generalize natsZ (reachL G F) = R at *
          clear hin hc4 g5 b4 HC5 hr5
          have HB5 := Lib.hid b5
          go_wp2_with fail
          go_loop [13, 14] (fun s13 s14 => ∃ k' : Nat, s14 = .int .i64 (k' : Int) ∧ k' ≤ k ∧ s13 = .bool ((F.take k').all (inG G))) (fun _ s14 => k - (intOf s14).toNat)
          case atStart => exact ⟨0, rfl, Nat.zero_le _, by simp⟩
          case round =>
            obtain ⟨q, rfl, hq, rfl⟩ := hrel
            by_cases hqk : q < k
            · have u1 : decide ((q : Int) < (k : Int)) = true := decide_eq_true (by omega)
              have u1' : decide (q < k) = true := decide_eq_true hqk
              have hqF : q < F.length := by rw [HKL.out]; exact hqk
              obtain ⟨JK, JC⟩ := zs_at (HLW.out _ HB5.out) cb (q : Int) q rfl hqF
              rw [HKL.out] at JK
              have HSN := Lib.hid (all_snocT (f := inG G) hqF)
              have hix : inG G (F.getD q 0) = (decide (0 ≤ F.getD q 0) && decide (F.getD q 0 < (G.length : Int))) := rfl
              have HIX := Lib.hid hix
              clear hqF hix
              generalize F.getD q 0 = z at *
              generalize hA1 : (F.take (q + 1)).all (inG G) = A1 at *
              generalize (F.take q).all (inG G) = A0 at *
              cases A0 with
              | false =>
                have HA := Lib.hid (show A1 = false from HSN.out)
                clear HSN HIX
                go_wp2_with fail
                go_round
                case rel => exact ⟨q + 1, by go_num, by omega, by rw [hA1, HA.out]⟩
                case measure => simp [intOf]; omega
              | true =>
                by_cases hz0 : 0 ≤ z
                · have z1 : decide (0 ≤ z) = true := decide_eq_true hz0
                  have HA := Lib.hid (show A1 = decide (z < (G.length : Int)) by rw [HSN.out, HIX.out, z1]; rfl)
                  clear HSN HIX
                  go_wp2_with fail
                  go_round
                  case rel => exact ⟨q + 1, by go_num, by omega, by rw [hA1, HA.out]⟩
                  case measure => simp [intOf]; omega
                · have z1 : decide (0 ≤ z) = false := decide_eq_false hz0
                  have HA := Lib.hid (show A1 = false by rw [HSN.out, HIX.out, z1]; rfl)
                  clear HSN HIX
                  go_wp2_with fail
                  go_round
                  case rel => exact ⟨q + 1, by go_num, by omega, by rw [hA1, HA.out]⟩
                  case measure => simp [intOf]; omega
            · obtain rfl : q = k := by omega
              have u1 : decide ((q : Int) < (q : Int)) = false := decide_eq_false (by omega)
              have u1' : decide (q < q) = false := decide_eq_false (by omega)
              rw [List.take_of_length_le (by rw [HKL.out]; exact Nat.le_refl _)]
              rw [HI.out]
              clear hqk hq
              go_wp2_with fail
              refine (HRH.out _ HB5.out).mono ?_
              rintro e w6 ⟨v6, rfl, hr6⟩
              have g6 := hr6.frame.toBelow fun _ hk => hk
              have b6 := HB5.out.trans (Below.mono g6 HB5.out.size)
              obtain ⟨a6, c6, hv6, hc6, -, -, -⟩ := hr6.slice
              rw [HHZ.out] at hc6 hv6
              rw [zcells_length] at hv6
              subst hv6
              have h46 := h45.below g6
              have h56 := hc5.below g6
              have C7 := same_any (ca := c4) (cb := c6) h46 hc6 (by have := HHL.out; omega)
              have hde : decide (H = H) = true := decide_eq_true rfl
              rw [hde] at C7
              have HC7 := Lib.hid C7
              clear C7 hde hc6 h46 hr6 g6 h45 hc5
              go_wp2_with fail
              refine Calls.mono HC7.out ?_
              rintro e w7 ⟨rfl, g7⟩
              have b7 := b6.trans (Below.mono g7 b6.size)
              have h57 := h56.below g7
              have C8 := refReach_any (cb := cb) (HGW.out _ b7) HG1.out HG2.out HIN.out (HLW.out _ b7) (by rw [HKL.out]; omega) HCN.out HFI.out
              rw [HKL.out] at C8
              have HC8 := Lib.hid C8
              clear HC7 g7 b6 h56 C8
              go_wp2_with fail
              refine Calls.mono HC8.out ?_
              rintro e w8 ⟨v8, rfl, hr8⟩
              have g8 := hr8.frame.toBelow fun _ hk => hk
              have b8 := b7.trans (Below.mono g8 b7.size)
              obtain ⟨a8, c8, hv8, hc8, -, -, -⟩ := hr8.slice
              rw [HRZ.out] at hc8 hv8
              rw [zcells_length] at hv8
              subst hv8
              have h58 := h57.below g8
              have C9 := same_any (ca := c5) (cb := c8) h58 hc8 (by have := HRL.out; omega)
              have hde : decide (R = R) = true := decide_eq_true rfl
              rw [hde] at C9
              have HC9 := Lib.hid C9
              clear C9 hde hc8 hr8 g8 h57 HC8 b7
              go_wp2_with fail
              refine Calls.mono HC9.out ?_
              rintro e w9 ⟨rfl, g9⟩
              have b9 := b8.trans (Below.mono g9 b8.size)
              have C10 := closed_any (cb := c5) (HGW.out _ b9) HG1.out HG2.out (h58.below g9) HRL.out HWF.out
              rw [HCLO.out] at C10
              have HC10 := Lib.hid C10
              clear HC9 g9 b8 h58 C10
              go_wp2_with fail
              refine Calls.mono HC10.out ?_
              rintro e w10 ⟨rfl, g10⟩
              have b10 := b9.trans (Below.mono g10 b9.size)
              clear HC10 g10 b9
              go_wp2_with fail
              go_roundw
              case rel => exact ⟨i + 1, by go_num, by omega, b10⟩
              case measure => simp [intOf]; omega
        · have b5 := b4.trans (Below.mono g5 b4.size)
          have HI := Lib.hid (show F.all (inG G) = false from Bool.eq_false_iff.2 fun h => hno ⟨by rw [HO.out]; rfl, all_inG.1 h⟩)
          have h45 := hc4.below g5
          clear hno hc4 g5 b4 HC5
          have HB5 := Lib.hid b5
          go_wp2_with fail
          go_loop [13, 14] (fun s13 s14 => ∃ k' : Nat, s14 = .int .i64 (k' : Int) ∧ k' ≤ k ∧ s13 = .bool ((F.take k').all (inG G))) (fun _ s14 => k - (intOf s14).toNat)
          case atStart => exact ⟨0, rfl, Nat.zero_le _, by simp⟩
          case round =>
            obtain ⟨q, rfl, hq, rfl⟩ := hrel
            by_cases hqk : q < k
            · have u1 : decide ((q : Int) < (k : Int)) = true := decide_eq_true (by omega)
              have u1' : decide (q < k) = true := decide_eq_true hqk
              have hqF : q < F.length := by rw [HKL.out]; exact hqk
              obtain ⟨JK, JC⟩ := zs_at (HLW.out _ HB5.out) cb (q : Int) q rfl hqF
              rw [HKL.out] at JK
              have HSN := Lib.hid (all_snocT (f := inG G) hqF)
              have hix : inG G (F.getD q 0) = (decide (0 ≤ F.getD q 0) && decide (F.getD q 0 < (G.length : Int))) := rfl
              have HIX := Lib.hid hix
              clear hqF hix
              generalize F.getD q 0 = z at *
              generalize hA1 : (F.take (q + 1)).all (inG G) = A1 at *
              generalize (F.take q).all (inG G) = A0 at *
              cases A0 with
              | false =>
                have HA := Lib.hid (show A1 = false from HSN.out)
                clear HSN HIX
                go_wp2_with fail
                go_round
                case rel => exact ⟨q + 1, by go_num, by omega, by rw [hA1, HA.out]⟩
                case measure => simp [intOf]; omega
              | true =>
                by_cases hz0 : 0 ≤ z
                · have z1 : decide (0 ≤ z) = true := decide_eq_true hz0
                  have HA := Lib.hid (show A1 = decide (z < (G.length : Int)) by rw [HSN.out, HIX.out, z1]; rfl)
                  clear HSN HIX
                  go_wp2_with fail
                  go_round
                  case rel => exact ⟨q + 1, by go_num, by omega, by rw [hA1, HA.out]⟩
                  case measure => simp [intOf]; omega
                · have z1 : decide (0 ≤ z) = false := decide_eq_false hz0
                  have HA := Lib.hid (show A1 = false by rw [HSN.out, HIX.out, z1]; rfl)
                  clear HSN HIX
                  go_wp2_with fail
                  go_round
                  case rel => exact ⟨q + 1, by go_num, by omega, by rw [hA1, HA.out]⟩
                  case measure => simp [intOf]; omega
            · obtain rfl : q = k := by omega
              have u1 : decide ((q : Int) < (q : Int)) = false := decide_eq_false (by omega)
              have u1' : decide (q < q) = false := decide_eq_false (by omega)
              rw [List.take_of_length_le (by rw [HKL.out]; exact Nat.le_refl _)]
              rw [HI.out]
              clear hqk hq
              go_wp2_with fail
              refine (HRH.out _ HB5.out).mono ?_
              rintro e w6 ⟨v6, rfl, hr6⟩
              have g6 := hr6.frame.toBelow fun _ hk => hk
              have b6 := HB5.out.trans (Below.mono g6 HB5.out.size)
              obtain ⟨a6, c6, hv6, hc6, -, -, -⟩ := hr6.slice
              rw [HHZ.out] at hc6 hv6
              rw [zcells_length] at hv6
              subst hv6
              have h46 := h45.below g6
              have C7 := same_any (ca := c4) (cb := c6) h46 hc6 (by have := HHL.out; omega)
              have hde : decide (H = H) = true := decide_eq_true rfl
              rw [hde] at C7
              have HC7 := Lib.hid C7
              clear C7 hde hc6 h46 hr6 g6 h45
              go_wp2_with fail
              refine Calls.mono HC7.out ?_
              rintro e w7 ⟨rfl, g7⟩
              have b7 := b6.trans (Below.mono g7 b6.size)
              clear HC7 g7 b6
              go_wp2_with fail
              go_roundw
              case rel => exact ⟨i + 1, by go_num, by omega, b7⟩
              case measure => simp [intOf]; omega
    · obtain rfl : i = 2 := by omega
      have t1 : decide ((2 : Int) < 2) = false := by decide
      have G9 := HG3.out.trans (Below.mono hb0 HG3.out.size)
      clear hb0
      go_wp2_with fail
      refine (known22_any _).mono ?_
      rintro e w9 ⟨rfl, g9⟩
      have G10 := G9.trans (Below.mono g9 G9.size)
      clear G9 g9
      go_wp2_with fail
      go_ret
      exact ⟨rfl, G10⟩
end Go.Proofs.Ytkkfolfplpafhaa
