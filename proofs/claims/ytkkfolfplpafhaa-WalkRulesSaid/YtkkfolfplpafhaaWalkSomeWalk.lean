/-
  The law WalkSome, walked.
-/
import Derived.Test.YtkkfolfplpafhaaWalkOrdersWalk
import Derived.Test.YtkkfolfplpafhaaSomePure
namespace Go.Proofs.Ytkkfolfplpafhaa
open Go.RowKit Go.Mix

theorem GraphAt.take {w : World} {a : Option Addr} {cap : Nat} {g : List (List Int)} {es : List (Option Addr × Nat)} (h : GraphAt w a cap g es) (k : Nat) (hk : k ≤ g.length) : GraphAt w a cap (g.take k) es := by
  have hl : (g.take k).length = k := by rw [List.length_take]; omega
  have hle := h.le
  refine ⟨by omega, h.non, ?_, fun i hi => ?_, fun i hi => ?_, fun i hi => ?_⟩
  · have e : gcells (g.take k) es = (gcells g es).take k := by
      unfold gcells
      rw [hl, ← List.map_take, List.take_range, Nat.min_eq_left hk]
      refine List.map_congr_left fun i hi => ?_
      rw [getD_takeG g k i (List.mem_range.1 hi)]
    rw [e]; exact h.rows.take k
  · rw [hl] at hi; rw [getD_takeG g k i hi]; exact h.ints i (by omega)
  · rw [hl] at hi; rw [getD_takeG g k i hi]; exact h.caps i (by omega)
  · rw [hl] at hi; exact h.nons i (by omega)

set_option maxRecDepth 100000 in
set_option maxHeartbeats 2000000 in
theorem walkSome_walk (a : Option Addr) (len cap : Nat) (g : List (List Int)) (es : List (Option Addr × Nat)) (n : Int) (w : World) (hl : g.length = len) (hg : GraphAt w a cap g es) (_hw : (Lit.int .i64 n).wf = true) :
    Calls Try.prog 4 #[.slice a len cap, .int .i64 n] w fun e w' => e = .returned (.bool true) ∧ Below w.heap.size w w' := by
  subst hl
  have hrl30 := (rightG_ok g).1
  obtain ⟨em, hkm⟩ := u64_mod n ((rightG g).length + 1) (by omega) (by omega)
  obtain ⟨k, hk⟩ : ∃ k, k = modN n ((rightG g).length + 1) := ⟨_, rfl⟩
  rw [← hk] at em hkm
  obtain ⟨lr, hlr, hlrl, -, -⟩ := order_right (rightG_right g)
  have hsm := order_some (g := rightG g) (k := k) (fun i hi z hz => rightG_right g i hi z hz) (by omega) hlr
  have hgb : ∀ j, (((rightG g).take k).getD j []).length ≤ 1000 := fun j => by
    rcases Nat.lt_or_ge j k with h | h
    · rw [getD_takeG _ _ _ h]; exact (rightG_ok g).2 j
    · rw [List.getD_eq_getElem?_getD, List.getElem?_eq_none (by rw [List.length_take]; omega)]; simp
  have htl : ((rightG g).take k).length = k := by rw [List.length_take]; omega
  have HLR := Lib.hid hlr
  have HRL := Lib.hid hlrl
  have HSM := Lib.hid hsm
  have HTL := Lib.hid htl
  have C1 := right_any hg
  clear hlr hk hsm htl
  go_enter Try.func4, Try.ntmps4
  go_wp2_with fail
  refine C1.mono ?_
  rintro e w1 ⟨a1, c1, es1, rfl, hR, g1⟩
  have C2 := order_any hR (rightG_ok g).1 (rightG_ok g).2
  have hRt := Lib.hid (fun (W : World) (h : GraphAt W a1 c1 (rightG g) es1) => order_any (h.take k (by omega)) (by rw [HTL.out]; omega) hgb)
  have hRc : (rightG g).length ≤ c1 ∧ (a1 = none → c1 = 0) := ⟨hR.le, hR.non⟩
  have SL : ∀ W : World, (Instr.slice 22 (.slice a1 (rightG g).length c1) none (some (.int .i64 (k : Int))) none).run Try.prog W = .ok (.slice a1 k c1) W := fun W =>
    run_slice_to (P := Try.prog) 22 Try.underlying22 a1 (rightG g).length c1 k (by omega) hRc.2 sizeOf_row W
  rw [HTL.out] at hRt
  have HRG := Lib.hid hR
  have en : IntKind.u64.wrap (((rightG g).length + 1 : Nat) : Int) = (((rightG g).length + 1 : Nat) : Int) := by rw [IntKind.wrap_u64]; omega
  have hn0 : ¬ (((rightG g).length : Int) + 1) = 0 := by omega
  clear C1 hg hR
  obtain ⟨rl, hrl⟩ : ∃ rl, rl = (rightG g).length := ⟨_, rfl⟩
  rw [← hrl] at SL C2 em en hn0 hkm hrl30 ⊢
  have em' : wrap64 ((IntKind.u64.wrap n).tmod ((rl : Int) + 1)) = (k : Int) := em
  have en' : IntKind.u64.wrap ((rl : Int) + 1) = (rl : Int) + 1 := en
  have HRLN := Lib.hid hrl
  clear hrl em en
  go_upto_region 3 with (fail)
  simp only [em']
  go_wp2_with fail
  refine Calls.mono C2 ?_
  intro e w2 hO
  unfold OrderEnds at hO
  rw [HLR.out] at hO
  obtain ⟨v2, rfl, hr2⟩ := hO
  have g2 := hr2.frame.toBelow (fun _ hk => hk)
  have G2 := g1.trans (Below.mono g2 g1.size)
  obtain ⟨a2, c2, hv2, hc2, -, -, -⟩ := hr2.slice
  rw [icells_length, HRL.out, ← HRLN.out] at hv2
  subst hv2
  have hR2 := HRG.out.below g2
  clear C2 g1 g2 hr2 em' en' hn0
  go_wp2_with fail
  refine Calls.mono (hRt.out _ hR2) ?_
  intro e w3 hO
  unfold OrderEnds at hO
  rw [HSM.out] at hO
  obtain ⟨v3, rfl, hr3⟩ := hO
  have g3 := hr3.frame.toBelow (fun _ hk => hk)
  have G3 := G2.trans (Below.mono g3 G2.size)
  have hc23 := hc2.below g3
  obtain ⟨a3, c3, hv3, hc3, -, -, -⟩ := hr3.slice
  rw [icells_z] at hc3
  rw [icells_length, ← natsZ_len] at hv3
  subst hv3
  have hlr : lr.length = rl := by rw [HRL.out, ← HRLN.out]
  have HL := Lib.hid hlr
  clear hR2 hRt G2 g3 hr3 SL hc2 hlr
  go_wp2_with fail
  go_loopw [11, 12] (fun s11 s12 wr => ∃ i : Nat, s12 = .int .i64 (i : Int) ∧ i ≤ rl ∧ Row (· < w3.heap.size) 3 w3 wr s11 (icells ((lr.take i).filter fun x => decide (x < k)))) (fun _ s12 _ => rl - (intOf s12).toNat)
  case atStart => exact ⟨0, rfl, Nat.zero_le _, Row.nil (FrameS.refl fun _ hk => hk)⟩
  case round =>
    obtain ⟨i, rfl, hi, hrow⟩ := hrel
    have gr := hrow.frame.toBelow (fun _ hk => hk)
    have hc2r := hc23.below gr
    by_cases hil : i < rl
    · have t1 : decide ((i : Int) < (rl : Int)) = true := decide_eq_true (by omega)
      have t1' : decide (i < rl) = true := decide_eq_true hil
      obtain ⟨IK, IC⟩ := ints_at hc2r c2 (by rw [HL.out]; omega) (i : Int) i rfl (by rw [HL.out]; exact hil)
      rw [HL.out] at IK
      have hlt : i < lr.length := by rw [HL.out]; exact hil
      have htk : lr.take (i + 1) = lr.take i ++ [lr.getD i 0] := by
        rw [List.take_succ_eq_append_getElem hlt, List.getD_eq_getElem?_getD, List.getElem?_eq_getElem hlt]; rfl
      have hfl : (lr.take (i + 1)).filter (fun x => decide (x < k)) = if lr.getD i 0 < k then (lr.take i).filter (fun x => decide (x < k)) ++ [lr.getD i 0] else (lr.take i).filter (fun x => decide (x < k)) := by
        rw [htk, List.filter_append]
        split <;> simp_all
      have HFL := Lib.hid hfl
      have HLN := Lib.hid (show (icells ((lr.take i).filter fun x => decide (x < k))).length ≤ 1000 by
        rw [icells_length]
        have := List.length_filter_le (fun x => decide (x < k)) (lr.take i)
        rw [List.length_take] at this
        omega)
      clear hfl htk hlt
      generalize lr.getD i 0 = x at *
      generalize hF1 : (lr.take (i + 1)).filter (fun x => decide (x < k)) = F1 at *
      generalize (lr.take i).filter (fun x => decide (x < k)) = F0 at *
      by_cases hxk : x < k
      · have u1 : decide ((x : Int) < (k : Int)) = true := decide_eq_true (by omega)
        have u1' : decide (x < k) = true := decide_eq_true hxk
        have HF2 := Lib.hid (HFL.out.trans (if_pos hxk))
        clear HFL
        go_wp2_with (at_builtin; refine wpList_append_fresh elemInt rfl (.tmp 47) (.tmp 52) rfl _ _ rfl hrow _ [.int .i64 (x : Int)] rfl 1 1 rfl rfl (by simp [Value.oneCell']) (by have := HLN.out; simp only [List.length_singleton]; omega) (by have := HLN.out; simp only [List.length_singleton]; omega) ?_; intro v5 w5 hb5 hgr5)
        have hicx : icells F0 ++ [Value.int .i64 (x : Int)] = icells (F0 ++ [x]) := by simp [icells]
        rw [hicx, ← HF2.out] at hb5
        go_roundw
        case rel => exact ⟨i + 1, by go_num, by omega, by rw [hF1]; exact hb5⟩
        case measure => simp [intOf]; omega
      · have u1 : decide ((x : Int) < (k : Int)) = false := decide_eq_false (by omega)
        have u1' : decide (x < k) = false := decide_eq_false hxk
        have HF2 := Lib.hid (HFL.out.trans (if_neg hxk))
        clear HFL
        go_wp2_with fail
        go_roundw
        case rel => exact ⟨i + 1, by go_num, by omega, by rw [hF1, HF2.out]; exact hrow⟩
        case measure => simp [intOf]; omega
    · obtain rfl : i = rl := by omega
      have t1 : decide ((i : Int) < (i : Int)) = false := decide_eq_false (by omega)
      have htk : lr.take i = lr := List.take_of_length_le (by rw [HL.out]; exact Nat.le_refl _)
      rw [htk] at hrow
      obtain ⟨a4, c4, hv4, hc4, -, -, -⟩ := hrow.slice
      rw [icells_z] at hc4
      rw [icells_length, ← natsZ_len] at hv4
      subst hv4
      have hc3r := hc3.below gr
      have Gr := G3.trans (Below.mono gr G3.size)
      have hzl : (natsZ (lr.filter fun x => decide (x < k))).length ≤ 1000000 := by
        rw [natsZ_len]
        have := List.length_filter_le (fun x => decide (x < k)) lr
        rw [HL.out] at this
        omega
      generalize natsZ (lr.filter fun x => decide (x < k)) = Z at *
      clear hrow htk hc23 hc2r hc3 gr G3
      go_wp2_with fail
      refine (known22_any _).mono ?_
      rintro e w6 ⟨rfl, g6⟩
      have G6 := Gr.trans (Below.mono g6 Gr.size)
      have C7 := same_any (ca := c4) (cb := c3) (hc4.below g6) (hc3r.below g6) hzl
      have hde : decide (Z = Z) = true := decide_eq_true rfl
      rw [hde] at C7
      clear Gr g6 hc4 hc3r
      go_wp2_with fail
      refine Calls.mono C7 ?_
      rintro e w7 ⟨rfl, g7⟩
      have G7 := G6.trans (Below.mono g7 G6.size)
      clear C7
      go_wp2_with fail
      go_ret
      exact ⟨rfl, G7⟩
end Go.Proofs.Ytkkfolfplpafhaa
