/-
  The walks of the references for layer 1: they return what 'adler' and 'crc' compute.
-/
import Derived.Test.YtfpklkncdimajaaSums
namespace Go.Proofs.Ytfpklkncdimajaa
open Go.RowKit

set_option maxHeartbeats 400000 in
theorem refAdler_any (a : Option Addr) (cap : Nat) (l : List UInt8) (s : Nat) (w : World) (hs : s < 4294967296) (hb : l.length ≤ 9223372036854775807) (hw : Bs w a l) :
    Calls Try.prog 12 #[.int .u32 s, .slice a l.length cap] w fun e w' => e = .returned (.int .u32 (adler s l : Nat)) ∧ w = w' := by
  rcases hw with hl | ⟨b, off, rfl, hc⟩
  · subst hl
    go_enter Try.func12, Try.ntmps12
    go_wp2
    refine wp_loop_rounds 1 ?_
    rw [rounds_succ]
    go_wp2
    go_ret
    refine ⟨ret_int ?_, rfl⟩
    rw [adler_nil]; omega
  · go_enter Try.func12, Try.ntmps12
    go_wp2
    go_loop [5, 6, 7] (fun x y i => ∃ k : Nat, k ≤ l.length ∧ i = .int .i64 k ∧ ∃ p q : Nat, (p, q) = ad (s % 65536, s / 65536) (l.take k) ∧ p < 65536 ∧ q < 65536 ∧ x = .int .i64 p ∧ y = .int .i64 q) (fun _ _ i => l.length - (intOf i).toNat)
    case atStart => exact ⟨0, by omega, rfl, s % 65536, s / 65536, rfl, by omega, by omega, by go_num, by go_num⟩
    case round =>
      obtain ⟨k, hk, rfl, p, q, hpq, hp, hq, rfl, rfl⟩ := hrel
      have HQ := Lib.hid hpq
      clear hpq
      by_cases hlt : k < l.length
      · have hcell : w.cell? ⟨b, off + k, none⟩ = some (.int .u8 (l[k].toNat : Int)) := hc k hlt
        have h8 := l[k].toNat_lt
        go_wp2
        go_round
        case rel =>
          refine ⟨k + 1, by omega, by go_num, (p + l[k].toNat) % 65521, (q + (p + l[k].toNat) % 65521) % 65521, ?_, by omega, by omega, ?_, ?_⟩
          · rw [ad_take_succ _ _ _ hlt, ← HQ.out]; rfl
          · go_num
          · congr 1; omega
        case measure => simp [intOf]; omega
      · go_wp2
        go_ret
        refine ⟨ret_int ?_, rfl⟩
        have e := HQ.out
        rw [List.take_of_length_le (by omega)] at e
        rw [adler, ← e]; simp only []; omega

set_option maxHeartbeats 400000 in
theorem refCrc_any (a : Option Addr) (cap : Nat) (l : List UInt8) (s : Nat) (w : World) (hs : s < 4294967296) (hb : l.length ≤ 9223372036854775807) (hw : Bs w a l) :
    Calls Try.prog 14 #[.int .u32 s, .slice a l.length cap] w fun e w' => e = .returned (.int .u32 (crc s l : Nat)) ∧ w = w' := by
  rcases hw with hl | ⟨b, off, rfl, hc⟩
  · subst hl
    go_enter Try.func14, Try.ntmps14
    go_wp2
    refine wp_loop_rounds 1 ?_
    rw [rounds_succ]
    go_wp2
    go_ret
    refine ⟨ret_int ?_, rfl⟩
    rw [crc_nil s hs]; omega
  · go_enter Try.func14, Try.ntmps14
    go_wp2
    go_loop [5, 6] (fun x i => ∃ k : Nat, k ≤ l.length ∧ i = .int .i64 k ∧ ∃ c : Nat, c = crcOf (4294967295 - s) (l.take k) ∧ c < 4294967296 ∧ x = .int .i64 c) (fun _ i => l.length - (intOf i).toNat)
    case atStart => exact ⟨0, by omega, rfl, 4294967295 - s, rfl, by omega, by go_num⟩
    case round =>
      obtain ⟨k, hk, rfl, c, hcc, hlt32, rfl⟩ := hrel
      have HC := Lib.hid hcc
      clear hcc
      by_cases hlt : k < l.length
      · have hcell : w.cell? ⟨b, off + k, none⟩ = some (.int .u8 (l[k].toNat : Int)) := hc k hlt
        have h8 := l[k].toNat_lt
        go_wp2
        go_loop [5, 7, 8] (fun x y i => ∃ j c' x' : Nat, j ≤ 8 ∧ i = .int .i64 j ∧ c' < 4294967296 ∧ x' = l[k].toNat / 2 ^ j ∧ x' < 256 ∧ c' ^^^ x' = crcBits j (c ^^^ l[k].toNat) ∧ x = .int .i64 c' ∧ y = .int .i64 x') (fun _ _ i => 8 - (intOf i).toNat)
        case atStart => exact ⟨0, c, l[k].toNat, by omega, rfl, hlt32, by simp, by omega, rfl, rfl, rfl⟩
        case round =>
          obtain ⟨j, c', x', hj, rfl, hc32, hx, hx8, hcj, rfl, rfl⟩ := hrel
          have HJ := Lib.hid hcj
          clear hcj
          have HX := Lib.hid hx
          clear hx
          by_cases hj8 : j < 8
          · go_wp2
            · have hb1 : (((c' : Int) + x') % 2 == 1) = true := by assumption
              have hb2 : (c' % 2 + x' % 2) % 2 = 1 := by simp at hb1; omega
              have ex := crcBit_xor c' x'
              rw [if_pos hb2] at ex
              go_round
              case rel => exact ⟨j + 1, c' / 2 ^^^ 3988292384, x' / 2, by omega, by go_num, Nat.xor_lt_two_pow (n := 32) (by omega) (by omega), by rw [HX.out, Nat.div_div_eq_div_mul, Nat.pow_succ], by omega, by rw [crcBits_succ, ← HJ.out, ex], by rw [← (i64_bits_nat (c' / 2) 3988292384 (by omega) (by omega)).2.2]; rfl, by go_num⟩
              case measure => simp [intOf]; omega
            · have hb1 : (((c' : Int) + x') % 2 == 1) = false := by assumption
              have hb2 : ¬ (c' % 2 + x' % 2) % 2 = 1 := by simp at hb1; omega
              have ex := crcBit_xor c' x'
              rw [if_neg hb2, Nat.xor_zero] at ex
              go_round
              case rel => exact ⟨j + 1, c' / 2, x' / 2, by omega, by go_num, by omega, by rw [HX.out, Nat.div_div_eq_div_mul, Nat.pow_succ], by omega, by rw [crcBits_succ, ← HJ.out, ex], by go_num, by go_num⟩
              case measure => simp [intOf]; omega
          · go_wp2
            go_round
            case rel =>
              have e8 : j = 8 := by omega
              have ex : x' = 0 := by have := HX.out; rw [e8] at this; omega
              exact ⟨k + 1, by omega, by go_num, c', by have := HJ.out; rw [ex, Nat.xor_zero, e8] at this; rw [crcOf_take_succ _ _ _ hlt, ← HC.out, this]; rfl, hc32, rfl⟩
            case measure => simp [intOf]; omega
      · go_wp2
        go_ret
        refine ⟨ret_int ?_, rfl⟩
        have e := HC.out
        rw [List.take_of_length_le (by omega)] at e
        rw [crc, ← e]; omega
end Go.Proofs.Ytfpklkncdimajaa
