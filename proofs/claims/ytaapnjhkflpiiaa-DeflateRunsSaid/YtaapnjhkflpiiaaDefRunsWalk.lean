/-
  The law DeflateRuns, walked.
-/
import Derived.Test.YtaapnjhkflpiiaaInf13
import Derived.Test.YtaapnjhkflpiiaaRunsPure
import Derived.Test.YtaapnjhkflpiiaaDefShortWalk
namespace Go.Proofs.Ytaapnjhkflpiiaa
open Go.RowKit Go.Mix

theorem one_cell (x : UInt8) : (#[Value.int .u8 (x.toNat : Int)] : Array Value).toList = bcells [x] := by simp [bcells]

set_option maxRecDepth 100000 in
set_option maxHeartbeats 2000000 in
theorem deflateRuns_walk (c n : Int) (w : World) (hc : (Lit.int .u8 c).wf = true) (_hn : (Lit.int .i64 n).wf = true) :
    Calls Try.prog 7 #[.int .u8 c, .int .i64 n] w fun e w' => e = .returned (.bool true) ∧ Below w.heap.size w w' := by
  obtain ⟨x, rfl⟩ := byte_of_int hc
  obtain ⟨m, hm, em0⟩ := u64_mod n 9000 (by decide) (by decide)
  have em : wrap64 ((IntKind.u64.wrap n).tmod 9000) = (m : Int) := em0
  clear em0 hc
  go_enter Try.func7, Try.ntmps7
  go_wp2_with fail
  simp only [em]
  clear em
  go_loopw [5, 6] (fun v i wr => ∃ k : Nat, i = .int .i64 (k : Int) ∧ k ≤ m ∧ RowB (· < w.heap.size) w wr v (List.replicate k x)) (fun _ i _ => m - (intOf i).toNat)
  case atStart => exact ⟨0, rfl, by omega, Row.nil (FrameS.refl fun k hk => hk)⟩
  case round =>
    obtain ⟨k, rfl, hk, hrow⟩ := hrel
    by_cases hkm : k < m
    · have t1 : decide ((k : Int) < (m : Int)) = true := decide_eq_true (by omega)
      have HN := Lib.hid (show List.replicate (k + 1) x = List.replicate k x ++ [x] from List.replicate_succ')
      have HL := Lib.hid (show (List.replicate k x).length = k from List.length_replicate)
      go_wp2_with (at_builtin; refine wpList_append_n rfl (.tmp 20) (.tmp 22) rfl _ (List.replicate k x) rfl hrow _ [x] (one_cell x) 1 1 rfl rfl (by rw [HL.out]; simp; omega) ?_; intro v5 w5 hb5 hgr5)
      go_roundw
      case rel => exact ⟨k + 1, by go_num, by omega, by rw [HN.out]; exact hb5⟩
      case measure => simp [intOf]; omega
    · obtain rfl : k = m := by omega
      have t1 : decide ((k : Int) < (k : Int)) = false := decide_eq_false (by omega)
      obtain ⟨a1, c1, hv, hs1⟩ := hrow.sl
      have g1 := hrow.frame.toBelow (fun k hk => hk)
      have hll : (List.replicate k x).length = k := List.length_replicate
      have hp := pack_rep k x
      have HR := Lib.hid (rawOf_pack (List.replicate k x) (k : Int) (by rw [hll]; exact Int.le_refl _))
      have HPC := Lib.hid (fun (W : World) (A : Option Addr) (C : Nat) (h : Sl W A C (List.replicate k x)) => rawpack_ret h (by rw [List.length_replicate]; omega))
      have HLL := Lib.hid hll
      have hl2 : (List.replicate k x).length ≤ 9000 := by omega
      clear hll hrow
      generalize List.replicate k x = b at *
      generalize rawPackOf b = p at *
      subst hv
      have t2 : decide ((p.length : Int) ≤ 20 + (k : Int) / 50) = true := decide_eq_true (by omega)
      go_wp2_with fail
      refine (HPC.out _ _ _ hs1).mono ?_
      rintro e w2 ⟨a2, c2, rfl, h2, g2⟩
      have hs2 := hs1.below g2
      have G2 := g1.trans (g2.mono g1.size)
      clear hs1 g1 g2
      go_wp2_with fail
      refine (raw_sl HR.out h2 (by omega) (by omega)).mono ?_
      rintro e w3 ⟨a3, c3, rfl, h3, g3⟩
      have hs3 := hs2.below g3
      have G3 := G2.trans (g3.mono G2.size)
      clear hs2 h2 G2 g3
      go_wp2_with fail
      refine (known04_any _).mono ?_
      rintro e w4 ⟨rfl, g4⟩
      have u1 := (hs3.below g4).str
      have u2 := (h3.below g4).str
      have G4 := G3.trans (g4.mono G3.size)
      clear hs3 h3 G3 g4
      go_wp2_with fail
      go_ret
      exact ⟨rfl, G4⟩

end Go.Proofs.Ytaapnjhkflpiiaa
