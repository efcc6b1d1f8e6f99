/-
  The law WalkCloses, walked.
-/
import Derived.Test.YtkkfolfplpafhaaWalkOrdersWalk
import Derived.Test.YtkkfolfplpafhaaClosedRef
namespace Go.Proofs.Ytkkfolfplpafhaa
open Go.RowKit Go.Mix

set_option maxRecDepth 100000 in
set_option maxHeartbeats 2000000 in
theorem walkCloses_walk (a : Option Addr) (len cap : Nat) (g : List (List Int)) (es : List (Option Addr × Nat)) (b : Option Addr) (lb cb : Nat) (zs : List Int) (w : World) (hl : g.length = len) (hg : GraphAt w a cap g es)
    (hz : (b = none ∧ lb = 0 ∧ cb = 0 ∧ zs = []) ∨ ∃ x, b = some x ∧ lb ≤ cb ∧ cb ≤ maxLen ∧ zs.length = cb ∧ (∀ i, i < zs.length → w.cell? (x.add i) = some (.int .i64 (zs.getD i 0))) ∧ ∀ n ∈ zs, (Lit.int .i64 n).wf = true) :
    Calls Try.prog 5 #[.slice a len cap, .slice b lb cb] w fun e w' => e = .returned (.bool true) ∧ Below w.heap.size w w' := by
  subst hl
  obtain ⟨l, k, hk, hkl, hlw, hlc, hcap⟩ : ∃ (l : List Int) (k : Nat), k = min lb 30 ∧ l.length = k ∧ (∀ z ∈ l, (Lit.int .i64 z).wf = true) ∧ Cells w b (zcells l) ∧ lb ≤ cb ∧ (b = none → cb = 0) := by
    rcases hz with ⟨rfl, rfl, rfl, rfl⟩ | ⟨x, rfl, h1, h2, h3, h4, h5⟩
    · exact ⟨[], 0, rfl, rfl, fun z hz => by simp at hz, cells_none _, Nat.le_refl _, fun _ => rfl⟩
    · refine ⟨zs.take (min lb 30), min lb 30, rfl, by rw [List.length_take]; omega, fun z hz => h5 z (List.mem_of_mem_take hz), zcells_of (by omega) h4, h1, fun h => nomatch h⟩
  clear hz
  have hmin := min_run (lb : Int) 30 k (by split <;> omega)
  have SL : ∀ W : World, (Instr.slice 24 (.slice b lb cb) none (some (.int .i64 (k : Int))) none).run Try.prog W = .ok (.slice b k cb) W := fun W =>
    run_slice_to (P := Try.prog) 24 Try.underlying24 b lb cb k (by omega) hcap.2 sizeOf_int W
  have HKL := Lib.hid hkl
  have HLC := Lib.hid hlc
  have HGA := Lib.hid hg
  have K1 := Lib.hid (fun (W : World) (h : GraphAt W a cap g es) => few_any h)
  have K2 := Lib.hid (fun (W : World) (h : GraphAt W a cap g es) => right_any h)
  have hk30 : k ≤ 30 := by omega
  have hl1 : l.length ≤ 1000 := by omega
  have C1 := fun (W : World) (a' : Option Addr) (cap' : Nat) (G : List (List Int)) (E : List (Option Addr × Nat)) (h : GraphAt W a' cap' G E) (hG : G.length ≤ 1000 ∧ ∀ k, (G.getD k []).length ≤ 1000) (hb : Below w.heap.size w W) => closed_any (cb := cb) h hG.1 hG.2 (hlc.below hb) hl1 hlw
  have C2 := fun (W : World) (a' : Option Addr) (cap' : Nat) (G : List (List Int)) (E : List (Option Addr × Nat)) (h : GraphAt W a' cap' G E) (hG : G.length ≤ 1000 ∧ ∀ k, (G.getD k []).length ≤ 1000) (hb : Below w.heap.size w W) => refClosed_any (cb := cb) h hG.1 hG.2 (hlc.below hb) hl1
  rw [hkl] at C1 C2
  have HC1 := Lib.hid C1
  have HC2 := Lib.hid C2
  clear hk hkl hlc hg hlw hl1 hcap C1 C2
  have HF := Lib.hid (fewG_ok g)
  have HR := Lib.hid (rightG_ok g)
  go_enter Try.func5, Try.ntmps5
  go_wp2_with fail
  refine (known22_any _).mono ?_
  rintro e w1 ⟨rfl, G1⟩
  go_wp2_with fail
  refine (K1.out _ (HGA.out.below G1)).mono ?_
  rintro e w2 ⟨a2, c2, rfl, hF, g2⟩
  have G2 := G1.trans (Below.mono g2 G1.size)
  clear G1 g2
  go_wp2_with fail
  refine (HC1.out _ _ _ _ _ hF HF.out G2).mono ?_
  rintro e w3 ⟨rfl, g3⟩
  have G3 := G2.trans (Below.mono g3 G2.size)
  clear G2 hF g3
  go_wp2_with fail
  refine (K1.out _ (HGA.out.below G3)).mono ?_
  rintro e w4 ⟨a4, c4, rfl, hF, g4⟩
  have G4 := G3.trans (Below.mono g4 G3.size)
  clear G3 g4
  go_wp2_with fail
  refine (HC2.out _ _ _ _ _ hF HF.out G4).mono ?_
  rintro e w5 ⟨rfl, rfl⟩
  clear hF HF K1
  have hb1 : (closedG (fewG g) l == closedG (fewG g) l) = true := by simp
  generalize closedG (fewG g) l = cF at *
  go_wp2_with fail
  refine (K2.out _ (HGA.out.below G4)).mono ?_
  rintro e w6 ⟨a6, c6, es6, rfl, hR, g6⟩
  have G6 := G4.trans (Below.mono g6 G4.size)
  clear G4 g6 hb1
  go_wp2_with fail
  refine (HC1.out _ _ _ _ _ hR HR.out G6).mono ?_
  rintro e w7 ⟨rfl, g7⟩
  have G7 := G6.trans (Below.mono g7 G6.size)
  clear G6 hR g7
  go_wp2_with fail
  refine (K2.out _ (HGA.out.below G7)).mono ?_
  rintro e w8 ⟨a8, c8, es8, rfl, hR, g8⟩
  have G8 := G7.trans (Below.mono g8 G7.size)
  clear G7 g8
  go_wp2_with fail
  refine (HC2.out _ _ _ _ _ hR HR.out G8).mono ?_
  rintro e w9 ⟨rfl, rfl⟩
  clear hR HR K2
  have hb1 : (closedG (rightG g) l == closedG (rightG g) l) = true := by simp
  generalize closedG (rightG g) l = cF at *
  go_wp2_with fail
  go_ret
  exact ⟨rfl, G8⟩
end Go.Proofs.Ytkkfolfplpafhaa
