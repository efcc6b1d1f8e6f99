/-
  The law WalkOrders, walked.
-/
import Derived.Test.YtkkfolfplpafhaaOpen22
namespace Go.Proofs.Ytkkfolfplpafhaa
open Go.RowKit Go.Mix

theorem fewG_ok (g : List (List Int)) : (fewG g).length ≤ 1000 ∧ ∀ k, ((fewG g).getD k []).length ≤ 1000 := ⟨by rw [fewG_len]; omega, fun k => Nat.le_trans (fewG_small g k) (by decide)⟩
theorem rightG_ok (g : List (List Int)) : (rightG g).length ≤ 1000 ∧ ∀ k, ((rightG g).getD k []).length ≤ 1000 := ⟨by rw [rightG_len, fewG_len]; omega, fun k => Nat.le_trans (rightG_small g k) (by decide)⟩

set_option maxRecDepth 100000 in
set_option maxHeartbeats 2000000 in
theorem walkOrders_walk (a : Option Addr) (len cap : Nat) (g : List (List Int)) (es : List (Option Addr × Nat)) (w : World) (hl : g.length = len) (hg : GraphAt w a cap g es) :
    Calls Try.prog 3 #[.slice a len cap] w fun e w' => e = .returned (.bool true) ∧ Below w.heap.size w w' := by
  subst hl
  obtain ⟨lr, hlr, hlrl, -⟩ := order_right (rightG_right g)
  have HLR := Lib.hid hlr
  have HRL := Lib.hid hlrl
  have hfl := (fewG_ok g).1
  clear hlr
  have C1 := few_any hg
  go_enter Try.func3, Try.ntmps3
  go_wp2_with fail
  refine C1.mono ?_
  rintro e w1 ⟨a1, c1, rfl, hF, g1⟩
  have C2 := order_any hF (fewG_ok g).1 (fewG_ok g).2
  clear C1
  go_wp2_with fail
  refine Calls.mono C2 ?_
  intro e w2 hO
  unfold OrderEnds at hO
  have C3 := fun (W : World) (h : GraphAt W a1 c1 (fewG g) es) => refOrder_any h (fewG_ok g).1 (fewG_ok g).2
  have C4 := fun (W : World) (h : GraphAt W a cap g es) => right_any h
  have hg1 := hg.below g1
  clear C2 hg
  cases ho : orderG (fewG g) with
  | none =>
    rw [ho] at hO
    obtain ⟨rfl, g2⟩ := hO
    have hF2 := hF.below g2
    have G2 := g1.trans (Below.mono g2 g1.size)
    have hg2 := hg1.below g2
    clear hF hg1 g1 g2
    go_wp2_with fail
    refine Calls.mono (C3 _ hF2) ?_
    intro e w3 hO
    unfold RefOrderEnds at hO
    rw [ho] at hO
    obtain ⟨rfl, g3⟩ := hO
    have G3 := G2.trans (Below.mono g3 G2.size)
    have hg3 := hg2.below g3
    clear hF2 hg2 G2 g3 C3
    go_wp2_with fail
    refine Calls.mono (C4 _ hg3) ?_
    rintro e w4 ⟨a4, c4, es4, rfl, hR, g4⟩
    have G4 := G3.trans (Below.mono g4 G3.size)
    clear hg3 G3 g4 C4
    go_wp2_with fail
    refine Calls.mono (order_any hR (rightG_ok g).1 (rightG_ok g).2) ?_
    intro e w5 hO
    unfold OrderEnds at hO
    rw [HLR.out] at hO
    obtain ⟨v5, rfl, hr5⟩ := hO
    have G5 := G4.trans (Below.mono (hr5.frame.toBelow fun _ hk => hk) G4.size)
    obtain ⟨a5, c5, hv5, -, -, -, -⟩ := hr5.slice
    rw [icells_length, HRL.out] at hv5
    subst hv5
    have u9 : (((rightG g).length : Int) == ((rightG g).length : Int)) = true := by simp
    clear hr5 G4 hR ho
    generalize (rightG g).length = rl at *
    go_wp2_with fail
    refine (known22_any _).mono ?_
    rintro e w6 ⟨rfl, g6⟩
    have G6 := G5.trans (Below.mono g6 G5.size)
    have C7 := same_any (w := w6) (s := []) (l := []) (ca := 0) (cb := 0) (cells_none _) (cells_none _) (by decide)
    have hde : decide (([] : List Int) = []) = true := rfl
    rw [hde] at C7
    clear G5 g6
    go_wp2_with fail
    refine Calls.mono C7 ?_
    rintro e w7 ⟨rfl, g7⟩
    have G7 := G6.trans (Below.mono g7 G6.size)
    clear C7
    go_wp2_with fail
    go_ret
    exact ⟨rfl, G7⟩
  | some l =>
    have hll := (order_props ho).1
    rw [ho] at hO
    obtain ⟨v2, rfl, hr2⟩ := hO
    have g2 := hr2.frame.toBelow (fun _ hk => hk)
    obtain ⟨a2, c2, hv2, hc2, -, -, -⟩ := hr2.slice
    rw [icells_z] at hc2
    rw [icells_length, ← natsZ_len] at hv2
    subst hv2
    have hF2 := hF.below g2
    have G2 := g1.trans (Below.mono g2 g1.size)
    have hg2 := hg1.below g2
    have hzl : (natsZ l).length ≤ 1000000 := by rw [natsZ_len]; omega
    clear hF hg1 g1 g2 hr2
    go_wp2_with fail
    refine Calls.mono (C3 _ hF2) ?_
    intro e w3 hO
    unfold RefOrderEnds at hO
    rw [ho] at hO
    obtain ⟨v3, rfl, hr3⟩ := hO
    have g3 := hr3.frame.toBelow (fun _ hk => hk)
    obtain ⟨a3, c3, hv3, hc3, -, -, -⟩ := hr3.slice
    rw [icells_z] at hc3
    rw [icells_length, ← natsZ_len] at hv3
    subst hv3
    have hc23 := hc2.below g3
    have G3 := G2.trans (Below.mono g3 G2.size)
    have hg3 := hg2.below g3
    clear hF2 hg2 G2 g3 C3 hr3 hc2
    generalize natsZ l = L at *
    go_wp2_with fail
    refine Calls.mono (C4 _ hg3) ?_
    rintro e w4 ⟨a4, c4, es4, rfl, hR, g4⟩
    have G4 := G3.trans (Below.mono g4 G3.size)
    have hc24 := hc23.below g4
    have hc34 := hc3.below g4
    clear hg3 G3 g4 C4 hc23 hc3
    go_wp2_with fail
    refine Calls.mono (order_any hR (rightG_ok g).1 (rightG_ok g).2) ?_
    intro e w5 hO
    unfold OrderEnds at hO
    rw [HLR.out] at hO
    obtain ⟨v5, rfl, hr5⟩ := hO
    have g5 := hr5.frame.toBelow (fun _ hk => hk)
    have G5 := G4.trans (Below.mono g5 G4.size)
    have hc25 := hc24.below g5
    have hc35 := hc34.below g5
    obtain ⟨a5, c5, hv5, -, -, -, -⟩ := hr5.slice
    rw [icells_length, HRL.out] at hv5
    subst hv5
    have u9 : (((rightG g).length : Int) == ((rightG g).length : Int)) = true := by simp
    clear hr5 G4 hR ho g5 hc24 hc34
    generalize (rightG g).length = rl at *
    go_wp2_with fail
    refine (known22_any _).mono ?_
    rintro e w6 ⟨rfl, g6⟩
    have G6 := G5.trans (Below.mono g6 G5.size)
    have C7 := same_any (ca := c2) (cb := c3) (hc25.below g6) (hc35.below g6) hzl
    have hde : decide (L = L) = true := decide_eq_true rfl
    rw [hde] at C7
    clear G5 g6 hc25 hc35
    go_wp2_with fail
    refine Calls.mono C7 ?_
    rintro e w7 ⟨rfl, g7⟩
    have G7 := G6.trans (Below.mono g7 G6.size)
    clear C7
    go_wp2_with fail
    go_ret
    exact ⟨rfl, G7⟩
end Go.Proofs.Ytkkfolfplpafhaa
