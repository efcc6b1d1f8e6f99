/-
  The walk of nums.Leb: a number's sevens.
-/
import Derived.Test.YtnppjhkhfjpkfaaBuf
import Derived.Test.YtnppjhkhfjpkfaaDeltaMakePure
namespace Go.Proofs.Ytnppjhkhfjpkfaa
open Go.RowKit Go.Mix

theorem right_any (n : Int) (w : World) (h0 : 0 ≤ n) (h1 : n ≤ 4294967296) :
    Calls Try.prog 22 #[.int .i64 n] w fun e w' => e = .returned (.bool true) ∧ w = w' := by
  have h2 : decide (n < 4611686018427387904) = true := by simp; omega
  go_enter Try.func22, Try.ntmps22
  go_wp2
  go_ret
  exact ⟨rfl, rfl⟩

theorem wraps_u8 (n : Int) (h0 : 0 ≤ n) (h1 : n < 2 ^ 8) : IntKind.u8.wrap n = n := by
  have : IntKind.u8.wrap n = n % 256 := by simp [IntKind.wrap, IntKind.signed, IntKind.bits]
  rw [this]; omega
theorem or_128 : ∀ x, x < 256 → x ||| 128 = x % 128 + 128 := by decide +kernel
theorem u8_or_128 (m : Nat) : bits .or .u8 ((m : Int) % 256) 128 = ((UInt8.ofNat (m % 128 + 128)).toNat : Int) := by
  have e : ((m : Int) % 256) = ((m % 256 : Nat) : Int) := by omega
  rw [e, show (128 : Int) = ((128 : Nat) : Int) from rfl, (bits_nat .u8 8 (by decide) wraps_u8 (m % 256) 128 (by omega) (by decide)).2, or_128 _ (by omega)]
  simp; omega

set_option maxRecDepth 100000 in
theorem leb_any (n : Nat) (w : World) (h1 : n ≤ 4294967296) :
    Calls Try.prog 18 #[.int .i64 (n : Int)] w fun e w' => ∃ v, e = .returned v ∧ Buf w.heap.size w w' v (lebOf n) := by
  go_enter Try.func18, Try.ntmps18
  go_wp2_with fail
  refine (right_any _ _ (by omega) (by omega)).mono ?_
  rintro e w' ⟨rfl, rfl⟩
  go_wp2_with fail
  go_loopw [0, 3] (fun i v wr => ∃ (m f : Nat) (o : List UInt8), i = .int .i64 m ∧ m ≤ 4294967296 ∧ o ++ lebF f m = lebOf n ∧ o.length + f ≤ 10 ∧ 1 ≤ f ∧ m < 128 ^ f ∧ Buf w.heap.size w wr v o) (fun i _ _ => (intOf i).toNat)
  case atStart => exact ⟨n, 10, [], rfl, h1, rfl, by decide, by decide, by omega, .nil (Below.refl _ _) (Nat.le_refl _)⟩
  case round =>
    obtain ⟨m, f, o, rfl, hm, hgo, hlen, hf1, hf, hb⟩ := hrel
    cases f with
    | zero => omega
    | succ f =>
      rw [lebF] at hgo
      have HF := Lib.hid hf
      clear hf
      by_cases h127 : m ≤ 127
      · rw [if_pos h127] at hgo
        have HG := Lib.hid hgo
        clear hgo
        go_wp2_with (at_builtin; refine wpList_append_one rfl (.tmp 17) (.tmp 20) rfl u3 o rfl hb m (UInt8.ofNat m) (by simp; omega) rfl (by omega) ?_; intro v5 w5 hb5 hgr5)
        go_ret
        exact ⟨v5, rfl, by rw [← HG.out]; exact hb5⟩
      · rw [if_neg h127] at hgo
        have e : o ++ [UInt8.ofNat (m % 128 + 128)] ++ lebF f (m / 128) = lebOf n := by rw [← hgo]; simp
        have e2 := u8_or_128 m
        have HG := Lib.hid e
        have E2 := Lib.hid e2
        have HM : m / 128 < 128 ^ f := by have := HF.out; rw [Nat.pow_succ] at this; omega
        have HM2 := Lib.hid HM
        have hf2 : 1 ≤ f := by
          cases f with
          | zero => have := HF.out; simp at this; omega
          | succ f => omega
        clear hgo e e2 HM
        go_wp2_with (at_builtin; refine wpList_append_one rfl (.tmp 11) (.tmp 15) rfl u3 o rfl hb _ (UInt8.ofNat (m % 128 + 128)) E2.out rfl (by omega) ?_; intro v5 w5 hb5 hgr5)
        go_roundw
        case rel => exact ⟨m / 128, f, _, by go_num, by omega, HG.out, by rw [List.length_append]; simp; omega, hf2, HM2.out, hb5⟩
        case measure => simp [intOf]; omega
end Go.Proofs.Ytnppjhkhfjpkfaa
