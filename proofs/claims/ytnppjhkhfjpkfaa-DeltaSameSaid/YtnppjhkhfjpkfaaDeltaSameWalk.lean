/-
  The law DeltaSame, walked.
-/
import Derived.Test.YtnppjhkhfjpkfaaDeltaRoomsWalk
namespace Go.Proofs.Ytnppjhkhfjpkfaa
open Go.RowKit Go.Mix

theorem u64_mod (n : Int) (K : Nat) (h0 : 0 < K) (h1 : K ≤ 9223372036854775807) : ∃ m : Nat, m < K ∧ wrap64 ((IntKind.u64.wrap n).tmod K) = (m : Int) := by
  have hw : IntKind.u64.wrap n = n % 18446744073709551616 := IntKind.wrap_u64 n
  have h2 : 0 ≤ n % 18446744073709551616 := Int.emod_nonneg _ (by decide)
  obtain ⟨u, hu⟩ := Int.eq_ofNat_of_zero_le h2
  refine ⟨u % K, Nat.mod_lt _ h0, ?_⟩
  rw [hw, hu, Int.tmod_eq_emod_of_nonneg (by omega), show ((u : Int) % (K : Int)) = ((u % K : Nat) : Int) from rfl, IntWalk.wrap64_in _ ⟨by omega, by have := Nat.mod_lt u h0; omega⟩]

/-- A row of bytes, so many times. -/
def many (l : List UInt8) (k : Nat) : List UInt8 := (List.replicate k l).flatten
theorem many_succ (l : List UInt8) (k : Nat) : many l (k + 1) = many l k ++ l := by unfold many; rw [List.replicate_succ']; simp
theorem many_len (l : List UInt8) (k : Nat) : (many l k).length = k * l.length := by
  induction k with
  | zero => simp [many]
  | succ k ih => rw [many_succ, List.length_append, ih, Nat.succ_mul]

set_option maxRecDepth 100000 in
set_option maxHeartbeats 4000000 in
theorem deltaSame_walk (a : Option Addr) (len cap : Nat) (zs : List Int) (times : Int) (w : World)
    (h : RowIn w a len cap zs) (_hw : (Lit.int .i64 times).wf = true) :
    Calls Try.prog 4 #[.slice a len cap, .int .i64 times] w fun e w' => e = .returned (.bool true) ∧ Below w.heap.size w w' := by
  obtain ⟨L, rfl, hL⟩ := open_sl h
  obtain ⟨l, -, hl, hs, hf⟩ := few_sl a cap L w hL
  obtain ⟨m, hm, em0⟩ := u64_mod times 200 (by decide) (by decide)
  have em : wrap64 ((IntKind.u64.wrap times).tmod 200) = (m : Int) := em0
  clear h em0
  go_enter Try.func4, Try.ntmps4
  go_wp2_with fail
  refine (hf _).mono ?_
  rintro e w' ⟨rfl, rfl⟩
  clear hf
  go_wp2_with fail
  go_loopw [5, 6] (fun v i wr => ∃ k : Nat, i = .int .i64 k ∧ k ≤ m + 1 ∧ Buf w.heap.size w wr v (many l k)) (fun _ i _ => m + 1 - (intOf i).toNat)
  case atStart => exact ⟨0, rfl, by omega, .nil (Below.refl _ _) (Nat.le_refl _)⟩
  case round =>
    obtain ⟨k, rfl, hk, hb⟩ := hrel
    have hml : (many l k).length ≤ 200000 := by
      rw [many_len]
      have : k * l.length ≤ 200 * 1000 := Nat.mul_le_mul (by omega) (by omega)
      omega
    by_cases hkm : k ≤ m
    · have hk1 : (k : Int) ≤ (m : Int) := by omega
      have ms := Lib.hid (many_succ l k)
      go_wp2_with (at_builtin; refine wpList_append_buf rfl (.tmp 20) (.tmp 21) rfl u5 _ rfl hb a cap l rfl (hs.bs.below hb.2.1) hs.non (by omega) ?_; intro v3 w3 hb3 hgr3)
      go_roundw
      case rel => exact ⟨k + 1, by go_num, by omega, by rw [ms.out]; exact hb3⟩
      case measure => simp [intOf]; omega
    · have hk1 : ¬ (k : Int) ≤ (m : Int) := by omega
      have R := Lib.hid (apply_make (many l k) (many l k) (many l k).length (by omega) (by omega) (by omega))
      have hsm := make_same (many l k) hml
      obtain ⟨a2, c2, rfl, h2⟩ := hb.1.sl
      have G1 := hb.2.1
      clear hb hs hL
      generalize many l k = A at *
      obtain ⟨wa, rfl⟩ : ∃ wa : World, wa = wr := ⟨_, rfl⟩
      go_wp2_with (at_builtin; refine wpList_append_buf rfl (.tmp 24) (.tmp 25) rfl _ [] rfl (Buf.made (Below.refl _ _) (Nat.le_refl _)) a2 c2 A rfl (h2.bs.below ((Below.refl _ _).alloc (Nat.le_refl _) _)) h2.non (by simp; omega) ?_; intro v3 w3 hb3 hgr3; obtain ⟨a3, c3, hv3, hs3⟩ := hb3.1.sl; subst hv3)
      have g3 := hb3.2.1
      rw [List.nil_append] at hs3
      refine (make_sl (h2.below g3) hs3 (by omega) (by omega)).mono ?_
      rintro e w4 ⟨ad, cd, rfl, hd, g4⟩
      have g24 := g3.trans (g4.mono g3.size)
      have h4 := h2.below g24
      have G4 := G1.trans (g24.mono G1.size)
      clear hs3 hb3 hgr3 g3 g4 g24 h2 G1
      generalize makeOf A A = d at *
      go_wp2_with fail
      refine (apply_sl h4 hd R.out (by omega) (by omega) (by omega) (by omega)).mono ?_
      rintro e w5 ⟨a5, c5, rfl, h5, g5⟩
      have h45 := h4.below g5
      have G5 := G4.trans (g5.mono G4.size)
      clear h4 hd G4 g5
      go_wp2_with fail
      refine (known_any _).mono ?_
      rintro e w6 ⟨rfl, g6⟩
      have G6 := G5.trans (g6.mono G5.size)
      have t1 := (h45.below g6).str
      have t2 := (h5.below g6).str
      clear h45 h5 G5 g6
      have hfin : decide ((d.length : Int) ≤ 30 + 7 * ((A.length : Int) / 65536)) = true := decide_eq_true (by omega)
      go_wp2_with fail
      go_ret
      exact ⟨rfl, G6⟩

end Go.Proofs.Ytnppjhkhfjpkfaa
