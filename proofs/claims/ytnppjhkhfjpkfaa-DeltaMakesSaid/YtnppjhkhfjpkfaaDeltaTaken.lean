/-
  The walk of a copy's place and size.
-/
import Derived.Test.YtnppjhkhfjpkfaaDeltaSizes
namespace Go.Proofs.Ytnppjhkhfjpkfaa
open Go.RowKit Go.Mix

theorem shl8 (b : UInt8) (j : Nat) (hj : j ≤ 3) : wrap64 (wrap64 (b.toNat : Int) * 2 ^ (8 * j)) = ((b.toNat * 2 ^ (8 * j) : Nat) : Int) := by
  have h1 : b.toNat * 2 ^ (8 * j) ≤ 255 * 2 ^ 24 := Nat.mul_le_mul (by have := b.toNat_lt; omega) (Nat.pow_le_pow_right (by decide) (by omega))
  have e : (b.toNat : Int) * 2 ^ (8 * j) = ((b.toNat * 2 ^ (8 * j) : Nat) : Int) := by rw [Int.natCast_mul, Int.natCast_pow]; rfl
  rw [IntWalk.wrap64_in (b.toNat : Int) ⟨by omega, by have := b.toNat_lt; omega⟩, e]; exact IntWalk.wrap64_in _ ⟨by omega, by omega⟩

theorem or8 (p j : Nat) (b : UInt8) (hj : j ≤ 3) (hp : p < 2 ^ (8 * j)) : bits .or .i64 (p : Int) ((b.toNat * 2 ^ (8 * j) : Nat) : Int) = ((p + b.toNat * 2 ^ (8 * j) : Nat) : Int) := by
  have h1 : b.toNat * 2 ^ (8 * j) ≤ 255 * 2 ^ 24 := Nat.mul_le_mul (by have := b.toNat_lt; omega) (Nat.pow_le_pow_right (by decide) (by omega))
  have h2 : 2 ^ (8 * j) ≤ 2 ^ 24 := Nat.pow_le_pow_right (by decide) (by omega)
  have h3 : p < 2 ^ 63 := by have : (2 : Nat) ^ 24 < 2 ^ 63 := by decide
                             omega
  rw [(i64_bits_nat p (b.toNat * 2 ^ (8 * j)) h3 (by omega)).2.1, Nat.or_comm, show b.toNat * 2 ^ (8 * j) = b.toNat <<< (8 * j) from by rw [Nat.shiftLeft_eq], ← Nat.shiftLeft_add_eq_or_of_lt hp, Nat.add_comm]

def takenRet (o : Option (Nat × Nat × Nat)) : Value :=
  match o with
  | none => .tuple #[.int .i64 0, .int .i64 0, .int .i64 (-1)]
  | some (p, s, n) => .tuple #[.int .i64 (p : Int), .int .i64 (s : Int), .int .i64 (n : Int)]

theorem bit_test (c : UInt8) (i : Nat) : (bits .and .u8 ((c.toNat : Int) / 2 ^ i) 1 == 0) = decide (c.toNat / 2 ^ i % 2 = 0) := by
  have h8 := c.toNat_lt
  have h1 : c.toNat / 2 ^ i ≤ c.toNat := Nat.div_le_self _ _
  have e : (c.toNat : Int) / 2 ^ i = ((c.toNat / 2 ^ i : Nat) : Int) := by rw [Int.natCast_ediv, Int.natCast_pow]; rfl
  rw [e, show (1 : Int) = ((1 : Nat) : Int) from rfl, u8_and_nat _ 1 (by omega) (by decide), Nat.and_one_is_mod, Bool.eq_iff_iff, beq_iff_eq, decide_eq_true_eq]
  omega

theorem tk_none (c : Nat) (d : List UInt8) (i : Nat) (h : tk c d i = none) : ∀ j, i ≤ j → tk c d j = none := by
  intro j hj
  induction j with
  | zero => obtain rfl : i = 0 := by omega
            exact h
  | succ j ih =>
    rcases Nat.lt_or_ge i (j + 1) with h1 | h1
    · rw [tk, ih (by omega)]
    · obtain rfl : i = j + 1 := by omega
      exact h

set_option maxRecDepth 100000 in
set_option maxHeartbeats 1000000 in
theorem taken_any (c : UInt8) (a : Option Addr) (cap : Nat) (l : List UInt8) (w : World) (hb : Bs w a l) (hmax : l.length ≤ 9223372036854775807) :
    Calls Try.prog 16 #[.int .u8 (c.toNat : Int), .slice a l.length cap] w fun e w' =>
      e = .returned (takenRet (takenOf c.toNat l)) ∧ w = w' := by
  have IX := Lib.hid (fun k (hk : k < l.length) => run_index_any (P := Try.prog) hb.cells 22 Try.underlying22 sizeOf_u8 cap (n := l.length) hk (by rw [bcells_length]; omega))
  have h8 := c.toNat_lt
  go_enter Try.func16, Try.ntmps16
  go_wp2_with fail
  go_loop [7, 8, 9, 11] (fun pp ss nn ii => ∃ i p s n : Nat, i ≤ 7 ∧ ii = .int .i64 i ∧ pp = .int .i64 p ∧ ss = .int .i64 s ∧ nn = .int .i64 n ∧ tk c.toNat l i = some (p, s, n)) (fun _ _ _ ii => 7 - (intOf ii).toNat)
  case atStart => exact ⟨0, 0, 0, 0, by omega, rfl, rfl, rfl, rfl, rfl⟩
  case round =>
    obtain ⟨i, p, s, n, hi7, rfl, rfl, rfl, rfl, htk⟩ := hrel
    obtain ⟨b1, b2, b3, b4⟩ := tk_bounds _ _ _ _ _ _ htk
    have HTK := Lib.hid htk
    have B1 := Lib.hid b1
    have B2 := Lib.hid b2
    clear htk b1 b2
    by_cases hi : i < 7
    · have hstep : tk c.toNat l (i + 1) = if c.toNat / 2 ^ i % 2 = 0 then some (p, s, n) else if l.length ≤ n then none
          else if i < 4 then some (p + (l.getD n 0).toNat * 2 ^ (8 * i), s, n + 1) else some (p, s + (l.getD n 0).toNat * 2 ^ (8 * (i - 4)), n + 1) := by
        rw [tk, HTK.out]
      have HST := Lib.hid hstep
      clear hstep
      have htest := bit_test c i
      by_cases h0 : c.toNat / 2 ^ i % 2 = 0
      · have hT : (bits .and .u8 ((c.toNat : Int) / 2 ^ i) 1 == 0) = true := by rw [htest]; simp [h0]
        have HS := HST.out
        rw [if_pos h0] at HS
        have HS2 := Lib.hid HS
        clear htest h0 HS
        go_wp2_with fail
        go_round
        case rel => exact ⟨i + 1, p, s, n, by omega, by go_num, rfl, rfl, rfl, HS2.out⟩
        case measure => simp [intOf]; omega
      · have hT : (bits .and .u8 ((c.toNat : Int) / 2 ^ i) 1 == 0) = false := by rw [htest]; simp [h0]
        have HS := HST.out
        rw [if_neg h0] at HS
        clear htest h0
        by_cases hn : l.length ≤ n
        · rw [if_pos hn] at HS
          have hnone : takenOf c.toNat l = none := by
            have := tk_none c.toNat l (i + 1) HS 7 (by omega)
            unfold takenOf; rw [this]
          have HNO := Lib.hid hnone
          clear HS hnone
          go_wp2_with fail
          go_ret3
          exact ⟨by rw [HNO.out]; rfl, rfl⟩
        · rw [if_neg hn] at HS
          have hcell := hb.cell (k := n) (by omega)
          have IK := IX.out n (by omega)
          have eg : l.getD n 0 = l[n] := by rw [List.getD_eq_getElem?_getD, List.getElem?_eq_getElem (by omega)]; rfl
          rw [eg] at HS
          have hn' : n < l.length := by omega
          generalize l[n] = b at *
          have HS2 := Lib.hid HS
          clear HS eg hn
          by_cases h4 : i < 4
          · have h4' : (i : Int) < 4 := by omega
            go_wp2_with fail
            have e := shl8 b i (by omega)
            have e2 := or8 p i b (by omega) (by have := B1.out; rw [Nat.min_eq_left (by omega)] at this; exact this)
            rw [e, e2]
            have HS3 := HS2.out
            rw [if_pos h4] at HS3
            go_round
            case rel => exact ⟨i + 1, _, s, n + 1, by omega, by go_num, rfl, rfl, by go_num, HS3⟩
            case measure => simp [intOf]; omega
          · have h4' : (4 : Int) ≤ (i : Int) := by omega
            go_wp2_with fail
            have e := shl8 b (i - 4) (by omega)
            have e2 := or8 s (i - 4) b (by omega) B2.out
            rw [e, e2]
            have HS3 := HS2.out
            rw [if_neg h4] at HS3
            go_round
            case rel => exact ⟨i + 1, p, _, n + 1, by omega, by go_num, rfl, rfl, by go_num, HS3⟩
            case measure => simp [intOf]; omega
    · obtain rfl : i = 7 := by omega
      have hres : takenOf c.toNat l = some (p, if s = 0 then 65536 else s, n) := by unfold takenOf; rw [HTK.out]
      have HR := Lib.hid hres
      clear hres
      by_cases hs : s = 0
      · subst hs
        go_wp2_with fail
        go_ret3
        exact ⟨by rw [HR.out]; rfl, rfl⟩
      · have hs' : ((s : Int) == 0) = false := eq0 s hs
        go_wp2_with fail
        go_ret3
        exact ⟨by rw [HR.out, if_neg hs]; rfl, rfl⟩

end Go.Proofs.Ytnppjhkhfjpkfaa
