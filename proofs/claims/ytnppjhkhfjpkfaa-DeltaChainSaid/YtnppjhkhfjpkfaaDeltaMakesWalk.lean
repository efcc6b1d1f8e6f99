/-
  The laws DeltaMakes, DeltaChain, walked.
-/
import Derived.Test.YtnppjhkhfjpkfaaSl
namespace Go.Proofs.Ytnppjhkhfjpkfaa
open Go.RowKit Go.Mix

def RowIn (w : World) (a : Option Addr) (len cap : Nat) (zs : List Int) : Prop :=
  (a = none ∧ len = 0 ∧ cap = 0 ∧ zs = []) ∨ ∃ x, a = some x ∧ len ≤ cap ∧ cap ≤ maxLen ∧ zs.length = cap ∧ (∀ i, i < zs.length → w.cell? (x.add i) = some (.int .u8 (zs.getD i 0))) ∧ ∀ n ∈ zs, (Lit.int .u8 n).wf = true

set_option maxRecDepth 100000 in
set_option maxHeartbeats 4000000 in
theorem deltaMakes_walk (a : Option Addr) (len cap : Nat) (zs : List Int) (a' : Option Addr) (len' cap' : Nat) (zs' : List Int) (w : World)
    (h : RowIn w a len cap zs) (h' : RowIn w a' len' cap' zs') :
    Calls Try.prog 7 #[.slice a len cap, .slice a' len' cap'] w fun e w' => e = .returned (.bool true) ∧ Below w.heap.size w w' := by
  obtain ⟨L, rfl, hL⟩ := open_sl h
  obtain ⟨L', rfl, hL'⟩ := open_sl h'
  obtain ⟨l, -, hl, hs, hf⟩ := few_sl a cap L w hL
  obtain ⟨l', -, hl', hs', hf'⟩ := few_sl a' cap' L' w hL'
  have HR := Lib.hid (apply_make l l' l'.length (by omega) (by omega) (by omega))
  have hz := sizes_make l l' [] (by omega) (by omega)
  rw [List.append_nil] at hz
  have HZ := Lib.hid hz
  have hsm := make_small l l' hl hl'
  clear h h' hz
  go_enter Try.func7, Try.ntmps7
  go_wp2_with fail
  refine (hf _).mono ?_
  rintro e w' ⟨rfl, rfl⟩
  go_wp2_with fail
  refine (hf' _).mono ?_
  rintro e w' ⟨rfl, rfl⟩
  clear hf hf'
  go_wp2_with fail
  refine (make_sl hs hs' (by omega) (by omega)).mono ?_
  rintro e w1 ⟨ad, cd, rfl, hd, g1⟩
  have hs1 := hs.below g1
  have hs1' := hs'.below g1
  clear hs hs'
  generalize hM : makeOf l l' = d at *
  have HM := Lib.hid hM
  clear hM
  go_wp2_with fail
  refine (apply_sl hs1 hd HR.out (by omega) (by omega) (by omega) (by omega)).mono ?_
  rintro e w2 ⟨a2, c2, rfl, h2, g2⟩
  have hs2 := hs1.below g2
  have hs2' := hs1'.below g2
  have hd2 := hd.below g2
  have G2 := g1.trans (g2.mono g1.size)
  clear hs1 hs1' hd g1 g2
  go_wp2_with fail
  refine (refApply_sl hs2 hd2 HR.out (by omega) (by omega) (by omega) (by omega)).mono ?_
  rintro e w3 ⟨a3, c3, rfl, h3, g3⟩
  have hs3' := hs2'.below g3
  have hd3 := hd2.below g3
  have h23 := h2.below g3
  have G3 := G2.trans (g3.mono G2.size)
  clear hs2 hs2' hd2 G2 g3 h2
  go_wp2_with fail
  refine (sizes_sl hd3 HZ.out).mono ?_
  rintro e w4 ⟨rfl, g4⟩
  have hs4' := hs3'.below g4
  have h24 := h23.below g4
  have h34 := h3.below g4
  have G4 := G3.trans (g4.mono G3.size)
  clear hs3' h23 h3 G3 g4
  go_wp2_with fail
  refine (known_any _).mono ?_
  rintro e w5 ⟨rfl, g5⟩
  have G5 := G4.trans (g5.mono G4.size)
  have t1 := (hs4'.below g5).str
  have t2 := (h24.below g5).str
  have t3 := (h34.below g5).str
  clear hs4' h24 h34 G4 g5
  have hfin : decide ((d.length : Int) ≤ 30 + (l'.length : Int) + (l'.length : Int) / 100) = true := decide_eq_true (by omega)
  go_wp2_with fail
  go_ret
  exact ⟨rfl, G5⟩

set_option maxRecDepth 100000 in
set_option maxHeartbeats 4000000 in
theorem deltaChain_walk (a : Option Addr) (len cap : Nat) (zs : List Int) (a' : Option Addr) (len' cap' : Nat) (zs' : List Int) (a'' : Option Addr) (len'' cap'' : Nat) (zs'' : List Int) (w : World)
    (h : RowIn w a len cap zs) (h' : RowIn w a' len' cap' zs') (h'' : RowIn w a'' len'' cap'' zs'') :
    Calls Try.prog 6 #[.slice a len cap, .slice a' len' cap', .slice a'' len'' cap''] w fun e w' => e = .returned (.bool true) ∧ Below w.heap.size w w' := by
  obtain ⟨L, rfl, hL⟩ := open_sl h
  obtain ⟨L', rfl, hL'⟩ := open_sl h'
  obtain ⟨L'', rfl, hL''⟩ := open_sl h''
  obtain ⟨l, -, hl, hs, hf⟩ := few_sl a cap L w hL
  obtain ⟨l', -, hl', hs', hf'⟩ := few_sl a' cap' L' w hL'
  obtain ⟨l'', -, hl'', hs'', hf''⟩ := few_sl a'' cap'' L'' w hL''
  have R1 := Lib.hid (apply_make l l' l'.length (by omega) (by omega) (by omega))
  have R2 := Lib.hid (apply_make l' l'' l''.length (by omega) (by omega) (by omega))
  have R3 := Lib.hid (apply_make l'' l l.length (by omega) (by omega) (by omega))
  have m1 := make_small l l' hl hl'
  have m2 := make_small l' l'' hl' hl''
  have m3 := make_small l'' l hl'' hl
  clear h h' h''
  go_enter Try.func6, Try.ntmps6
  go_wp2_with fail
  refine (hf _).mono ?_
  rintro e w' ⟨rfl, rfl⟩
  go_wp2_with fail
  refine (hf' _).mono ?_
  rintro e w' ⟨rfl, rfl⟩
  go_wp2_with fail
  refine (hf'' _).mono ?_
  rintro e w' ⟨rfl, rfl⟩
  clear hf hf' hf''
  go_wp2_with fail
  refine (make_sl hs hs' (by omega) (by omega)).mono ?_
  rintro e w1 ⟨ad, cd, rfl, hd, g1⟩
  have hs1 := hs.below g1
  have hs1' := hs'.below g1
  have hs1'' := hs''.below g1
  clear hs hs' hs''
  generalize makeOf l l' = d1 at *
  go_wp2_with fail
  refine (apply_sl hs1 hd R1.out (by omega) (by omega) (by omega) (by omega)).mono ?_
  rintro e w2 ⟨a2, c2, rfl, h2, g2⟩
  have hs2 := hs1.below g2
  have hs2' := hs1'.below g2
  have hs2'' := hs1''.below g2
  have G2 := g1.trans (g2.mono g1.size)
  clear hs1 hs1' hs1'' hd g1 g2
  go_wp2_with fail
  refine (make_sl hs2' hs2'' (by omega) (by omega)).mono ?_
  rintro e w3 ⟨ad3, cd3, rfl, hd3, g3⟩
  have hs3 := hs2.below g3
  have hs3'' := hs2''.below g3
  have h23 := h2.below g3
  have G3 := G2.trans (g3.mono G2.size)
  clear hs2 hs2' hs2'' h2 G2 g3
  generalize makeOf l' l'' = d2 at *
  go_wp2_with fail
  refine (apply_sl h23 hd3 R2.out (by omega) (by omega) (by omega) (by omega)).mono ?_
  rintro e w4 ⟨a4, c4, rfl, h4, g4⟩
  have hs4 := hs3.below g4
  have hs4'' := hs3''.below g4
  have G4 := G3.trans (g4.mono G3.size)
  clear hs3 hs3'' h23 hd3 G3 g4
  go_wp2_with fail
  refine (make_sl hs4'' hs4 (by omega) (by omega)).mono ?_
  rintro e w5 ⟨ad5, cd5, rfl, hd5, g5⟩
  have hs5 := hs4.below g5
  have hs5'' := hs4''.below g5
  have h45 := h4.below g5
  have G5 := G4.trans (g5.mono G4.size)
  clear hs4 hs4'' h4 G4 g5
  generalize makeOf l'' l = d3 at *
  go_wp2_with fail
  refine (apply_sl h45 hd5 R3.out (by omega) (by omega) (by omega) (by omega)).mono ?_
  rintro e w6 ⟨a6, c6, rfl, h6, g6⟩
  have hs6 := hs5.below g6
  have hs6'' := hs5''.below g6
  have h46 := h45.below g6
  have G6 := G5.trans (g6.mono G5.size)
  clear hs5 hs5'' h45 hd5 G5 g6
  go_wp2_with fail
  refine (known_any _).mono ?_
  rintro e w7 ⟨rfl, g7⟩
  have G7 := G6.trans (g7.mono G6.size)
  have t1 := (hs6.below g7).str
  have t2 := (hs6''.below g7).str
  have t3 := (h46.below g7).str
  have t4 := (h6.below g7).str
  clear hs6 hs6'' h46 h6 G6 g7
  go_wp2_with fail
  go_ret
  exact ⟨rfl, G7⟩

end Go.Proofs.Ytnppjhkhfjpkfaa
