/-
  The law DeflateSizes, walked.
-/
import Derived.Test.YtaapnjhkflpiiaaDefLaws
namespace Go.Proofs.Ytaapnjhkflpiiaa
open Go.RowKit Go.Mix

theorem u64_mod (n : Int) (K : Nat) (h0 : 0 < K) (h1 : K ≤ 9223372036854775807) : ∃ m : Nat, m < K ∧ wrap64 ((IntKind.u64.wrap n).tmod K) = (m : Int) := by
  have hw : IntKind.u64.wrap n = n % 18446744073709551616 := IntKind.wrap_u64 n
  have h2 : 0 ≤ n % 18446744073709551616 := Int.emod_nonneg _ (by decide)
  obtain ⟨u, hu⟩ := Int.eq_ofNat_of_zero_le h2
  refine ⟨u % K, Nat.mod_lt _ h0, ?_⟩
  rw [hw, hu, Int.tmod_eq_emod_of_nonneg (by omega), show ((u : Int) % (K : Int)) = ((u % K : Nat) : Int) from rfl, IntWalk.wrap64_in _ ⟨by omega, by have := Nat.mod_lt u h0; omega⟩]

theorem byte_of_int {n : Int} (h : (Lit.int .u8 n).wf = true) : ∃ b : UInt8, n = (b.toNat : Int) := by
  simp [Lit.wf, IntKind.min, IntKind.max, IntKind.signed, IntKind.bits] at h
  exact ⟨UInt8.ofNat n.toNat, by simp; omega⟩

theorem bcells_replicate (n : Nat) : List.replicate n (Value.int .u8 0) = bcells (List.replicate n 0) := by simp [bcells]

set_option maxRecDepth 100000 in
set_option maxHeartbeats 1000000 in
theorem deflateSizes_walk (n c : Int) (w : World) (_hn : (Lit.int .i64 n).wf = true) (hc : (Lit.int .u8 c).wf = true) :
    Calls Try.prog 4 #[.int .i64 n, .int .u8 c] w fun e w' => e = .returned (.bool true) ∧ Below w.heap.size w w' := by
  obtain ⟨x, rfl⟩ := byte_of_int hc
  obtain ⟨m, hm, em0⟩ := u64_mod n 200000 (by decide) (by decide)
  have em : wrap64 ((IntKind.u64.wrap n).tmod 200000) = (m : Int) := em0
  clear em0 hc
  go_enter Try.func4, Try.ntmps4
  go_wp2_with (at_make; refine wpList_make_row (S := (· < w.heap.size)) elemByte rfl rfl _ _ rfl .i64 .i64 _ _ m rfl rfl em em (by omega) (by omega) (FrameS.refl (fun k hk => hk)) ?_; intro w1 hr1 hg1)
  rw [bcells_replicate] at hr1
  generalize hG : w.heap.size = G at *
  go_loopw [6] (fun i wr => ∃ (k : Nat) (l : List UInt8), i = .int .i64 k ∧ k ≤ m ∧ l.length = m ∧ RowB (· < G) w wr (.slice (some ⟨G, 0, none⟩) m m) l) (fun i _ => m - (intOf i).toNat)
  case atStart => exact ⟨0, _, rfl, by omega, by simp, hr1⟩
  case round =>
    clear hr1 hg1
    obtain ⟨k, l, rfl, hk, hlm, hr⟩ := hrel
    by_cases hkm : k < m
    · have ht : decide ((k : Int) < (m : Int)) = true := decide_eq_true (by omega)
      obtain ⟨IK, IC⟩ := hr.sl_of.2.at (k : Int) k rfl (by omega)
      rw [hlm] at IK
      rw [elt_own] at IK IC
      generalize l[k] = y at IC
      have hfz := hr.free k
      obtain ⟨hr2, hg2⟩ := hr.storedB k x (x.toNat : Int) rfl
      have HLM := Lib.hid hlm
      clear hlm hr
      go_wp2_with fail
      go_roundw
      case rel => exact ⟨k + 1, l.set k x, by go_num, by omega, by rw [List.length_set]; exact HLM.out, hr2⟩
      case measure => simp [intOf]; omega
    · obtain rfl : k = m := by omega
      have hsl := hr.sl_of.2
      have g1 := hr.frame.toBelow (fun k hk => hk)
      have hlen := storedOf_len l
      have HLM := Lib.hid hlm
      have hmax : max 1 (((k : Int) + 65534) / 65535) = ((max 1 ((k + 65534) / 65535) : Nat) : Int) := by omega
      have C := fun (W : World) (h : Sl W (some ⟨G, 0, none⟩) k l) => stored_ret h (by omega)
      rw [hlm] at C
      have CC := Lib.hid C
      rw [hlm] at hlen
      have HLEN := Lib.hid hlen
      have HMAX := Lib.hid hmax
      clear hr hlm hlen C hmax
      go_wp2_with fail
      all_goals
        refine (known04_any _).mono ?_
        rintro e w2 ⟨rfl, g2⟩
        have hsl2 := hsl.below g2
        have G2 := g1.trans (g2.mono (by rw [← hG]; exact g1.size))
        go_wp2_with fail
        refine (CC.out _ hsl2).mono ?_
        rintro e w3 ⟨a3, c3, rfl, -, g3⟩
        have G3 := G2.trans (g3.mono (by rw [← hG]; exact G2.size))
        rw [HLEN.out]
        clear g3 G2 hsl2
        go_wp2_with fail
        go_ret
        exact ⟨congrArg (fun x => Ending.returned (Value.bool x)) (beq_iff_eq.2 (by omega)), by rw [← hG] at G3; exact G3⟩

end Go.Proofs.Ytaapnjhkflpiiaa
