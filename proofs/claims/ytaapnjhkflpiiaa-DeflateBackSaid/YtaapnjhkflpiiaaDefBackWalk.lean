/-
  The law DeflateBack, walked.
-/
import Derived.Test.YtaapnjhkflpiiaaInfRawWalk
import Derived.Test.YtaapnjhkflpiiaaBackPure
import Derived.Test.YtaapnjhkflpiiaaDefShortWalk
namespace Go.Proofs.Ytaapnjhkflpiiaa
open Go.RowKit Go.Mix

set_option maxRecDepth 100000 in
set_option maxHeartbeats 4000000 in
theorem deflateBack_walk (a : Option Addr) (len cap : Nat) (zs : List Int) (times : Int) (w : World) (h : RowIn w a len cap zs) (_hw : (Lit.int .i64 times).wf = true) :
    Calls Try.prog 5 #[.slice a len cap, .int .i64 times] w fun e w' => e = .returned (.bool true) ∧ Below w.heap.size w w' := by
  obtain ⟨L, rfl, hL⟩ := open_sl h
  obtain ⟨l, hl, hf⟩ := few04_any L times
  clear h
  have hle : (rawPackOf l).length ≤ 1000000 := by
    have h1 : (rawPackOf l).length ≤ (storedOf l).length := by
      unfold rawPackOf; split
      · assumption
      · exact Nat.le_refl _
    rw [storedOf_len] at h1; omega
  have HR := Lib.hid (rawOf_pack l (l.length : Int) (Int.le_refl _))
  go_enter Try.func5, Try.ntmps5
  go_wp2_with fail
  refine (hf _ _ _ hL).mono ?_
  rintro e w1 ⟨v, rfl, hr⟩
  obtain ⟨a1, c1, rfl, hs1⟩ := hr.sl
  have g1 := hr.frame.toBelow (fun k hk => hk)
  have t1 := hs1.str
  clear hf hL hr
  go_wp2_with fail
  refine (rawpack_ret hs1 (by omega)).mono ?_
  rintro e w2 ⟨a2, c2, rfl, h2, g2⟩
  have hs2 := hs1.below g2
  have G2 := g1.trans (g2.mono g1.size)
  clear hs1 g1 g2 t1
  generalize rawPackOf l = p at *
  go_wp2_with fail
  refine (raw_sl HR.out h2 (by omega) (by omega)).mono ?_
  rintro e w3 ⟨a3, c3, rfl, h3, g3⟩
  have hs3 := hs2.below g3
  have h23 := h2.below g3
  have G3 := G2.trans (g3.mono G2.size)
  clear hs2 h2 G2 g3
  go_wp2_with fail
  refine (refRaw_sl HR.out h23 (by omega) (by omega)).mono ?_
  rintro e w4 ⟨a4, c4, rfl, h4, g4⟩
  have hs4 := hs3.below g4
  have h34 := h3.below g4
  have G4 := G3.trans (g4.mono G3.size)
  clear hs3 h3 h23 G3 g4
  go_wp2_with fail
  refine (known04_any _).mono ?_
  rintro e w5 ⟨rfl, g5⟩
  have u1 := (hs4.below g5).str
  have u2 := (h34.below g5).str
  have u3 := (h4.below g5).str
  have u4 : ((p.length : Int) == (p.length : Int)) = true := by simp
  have G5 := G4.trans (g5.mono G4.size)
  clear hs4 h34 h4 G4 g5
  go_wp2_with fail
  go_ret
  exact ⟨rfl, G5⟩
end Go.Proofs.Ytaapnjhkflpiiaa
