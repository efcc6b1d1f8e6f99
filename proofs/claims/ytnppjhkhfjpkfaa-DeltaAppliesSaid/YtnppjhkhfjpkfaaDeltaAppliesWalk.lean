/-
  The law DeltaApplies, walked.
-/
import Derived.Test.YtnppjhkhfjpkfaaDeltaKnown
namespace Go.Proofs.Ytnppjhkhfjpkfaa
open Go.RowKit Go.Mix

def RowIn (w : World) (a : Option Addr) (len cap : Nat) (zs : List Int) : Prop :=
  (a = none ∧ len = 0 ∧ cap = 0 ∧ zs = []) ∨ ∃ x, a = some x ∧ len ≤ cap ∧ cap ≤ maxLen ∧ zs.length = cap ∧ (∀ i, i < zs.length → w.cell? (x.add i) = some (.int .u8 (zs.getD i 0))) ∧ ∀ n ∈ zs, (Lit.int .u8 n).wf = true

set_option maxRecDepth 100000 in
set_option maxHeartbeats 4000000 in
theorem deltaApplies_walk (a : Option Addr) (len cap : Nat) (zs : List Int) (a' : Option Addr) (len' cap' : Nat) (zs' : List Int) (most : Int) (w : World)
    (h : RowIn w a len cap zs) (h' : RowIn w a' len' cap' zs') (hm : (Lit.int .i64 most).wf = true) :
    Calls Try.prog 3 #[.slice a len cap, .slice a' len' cap', .int .i64 most] w fun e w' => e = .returned (.bool true) ∧ Below w.heap.size w w' := by
  have hm2 : -9223372036854775808 ≤ most := by simp [Lit.wf, IntKind.min, IntKind.max, IntKind.signed, IntKind.bits] at hm; omega
  obtain ⟨L, hL, hb, hle, hc, hn⟩ := open_row h
  obtain ⟨L', hL', hb', hle', hc', hn'⟩ := open_row h'
  obtain ⟨l, hl⟩ : ∃ l, l = L.take (min len 1000) := ⟨_, rfl⟩
  obtain ⟨l', hl'⟩ : ∃ l', l' = L'.take (min len' 1000) := ⟨_, rfl⟩
  have hlen : l.length = min len 1000 := by rw [hl, List.length_take]; omega
  have hlen' : l'.length = min len' 1000 := by rw [hl', List.length_take]; omega
  have hb1 : Bs w a l := hl ▸ hb.take _
  have hb1' : Bs w a' l' := hl' ▸ hb'.take _
  have HL := Lib.hid hlen
  have HL' := Lib.hid hlen'
  have hk1 : l.length ≤ 1000 := by omega
  have hk2 : l'.length ≤ 1000 := by omega
  have hk3 : l.length ≤ cap := by omega
  have hk4 : l'.length ≤ cap' := by omega
  have N1 := Lib.hid (fun h => (hn h).2)
  have N2 := Lib.hid (fun h => (hn' h).2)
  clear hlen hl hlen' hl' hb hb'
  have CA := fun (W : World) (x : Bs W a l) (y : Bs W a' l') => apply_any a cap l a' cap' l' (min most 70000) W x hk3 hc N1.out y hk4 hc' N2.out (by omega) (by omega) (by omega) (by omega)
  have CR := fun (W : World) (x : Bs W a l) (y : Bs W a' l') => refApply_any a cap l a' cap' l' (min most 70000) W x hk3 N1.out y hk4 hc' N2.out (by omega) (by omega) (by omega) (by omega)
  have CS := fun (W : World) (y : Bs W a' l') => sizes2_any a' cap' l' W y hk4 hc' N2.out
  have CT := fun (W : World) (y : Bs W a' l') => refSizes_any a' cap' l' W y hk4 hc' N2.out
  generalize applyOf l l' (min most 70000) = R at *
  generalize sizesOf l' = S at *
  obtain ⟨r, er⟩ := R
  obtain ⟨sa, sb, st, se⟩ := S
  simp only at CS CT
  have CA := Lib.hid CA
  have CR := Lib.hid CR
  have CS := Lib.hid CS
  have CT := Lib.hid CT
  have hsx := fun x : Later w => run_string_of_bytes (P := Try.prog) (hb1.below x.2) 22 5 9 Try.underlying22 Try.underlying5 Try.underlying9 cap
  have hsy := fun x : Later w => run_string_of_bytes (P := Try.prog) (hb1'.below x.2) 22 5 9 Try.underlying22 Try.underlying5 Try.underlying9 cap'
  go_enter Try.func3, Try.ntmps3
  go_wp2_with fail
  refine (few_bs a len cap l _ hle hc hn HL.out).mono ?_
  rintro e w' ⟨rfl, rfl⟩
  go_wp2_with fail
  refine (few_bs a' len' cap' l' _ hle' hc' hn' HL'.out).mono ?_
  rintro e w' ⟨rfl, rfl⟩
  go_wp2_with fail
  refine wp_region_mix [(0, 0), (1, 0), (2, 0), (3, 0), (4, 0), (5, 0)] (by kernel_rfl) (by kernel_rfl) ?_
  iterate 6 (refine mix_calm rfl (fun K hK => ?_); go_simp; (refine hK _ ?_; clear hK K))
  refine mix_nil fun w0 hw0 => ?_
  clear hsx hsy
  have hb0 := hb1.below hw0
  have hb0' := hb1'.below hw0
  go_wp2_with fail
  refine (CA.out _ hb0 hb0').mono ?_
  rintro e w1 ⟨v, rfl, hv, hbel1⟩
  obtain ⟨av, capv, rfl, hbv, hcv, hmv, hnv⟩ := hv.bs
  have g1 : Below w.heap.size w w1 := Below.trans hw0 (hbel1.mono hw0.size)
  have hb2 := hb1.below g1
  have hb2' := hb1'.below g1
  go_wp2_with fail
  refine (CR.out _ hb2 hb2').mono ?_
  rintro e w2 ⟨v2, rfl, hv2, hbel2⟩
  obtain ⟨av2, capv2, rfl, hbv2, hcv2, hmv2, hnv2⟩ := hv2.bs
  have g2 : Below w.heap.size w w2 := g1.trans (hbel2.mono g1.size)
  have hb3' := hb1'.below g2
  go_wp2_with fail
  refine (CS.out _ hb3').mono ?_
  rintro e w3 ⟨rfl, hbel3⟩
  have g3 : Below w.heap.size w w3 := g2.trans (hbel3.mono g2.size)
  have hb4' := hb1'.below g3
  go_wp2_with fail
  refine (CT.out _ hb4').mono ?_
  rintro e w' ⟨rfl, rfl⟩
  go_wp2_with fail
  refine (known_any _).mono ?_
  rintro e w4 ⟨rfl, hbel4⟩
  have g4 : Below w.heap.size w w4 := g3.trans (hbel4.mono g3.size)
  have hx := hb1.below g4
  have hy := hb1'.below g4
  have hbw := hbv2.below (hbel3.trans (hbel4.mono hbel3.size))
  have hbu := hbv.below (hbel2.trans ((hbel3.trans (hbel4.mono hbel3.size)).mono hbel2.size))
  have s1 := run_string_of_bytes (P := Try.prog) hx 22 5 9 Try.underlying22 Try.underlying5 Try.underlying9 cap
  have s2 := run_string_of_bytes (P := Try.prog) hy 22 5 9 Try.underlying22 Try.underlying5 Try.underlying9 cap'
  have s3 := run_string_of_bytes (P := Try.prog) hbu 22 5 9 Try.underlying22 Try.underlying5 Try.underlying9 capv
  have s4 := run_string_of_bytes (P := Try.prog) hbw 22 5 9 Try.underlying22 Try.underlying5 Try.underlying9 capv2
  go_wp2_with fail
  go_ret
  exact ⟨rfl, g4⟩

end Go.Proofs.Ytnppjhkhfjpkfaa
