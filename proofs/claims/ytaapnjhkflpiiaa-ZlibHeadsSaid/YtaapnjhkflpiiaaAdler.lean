/-
  The walks of Adler's sum, the program's and the document's.
-/
import Derived.Test.YtaapnjhkflpiiaaBase
import Derived.Test.YtaapnjhkflpiiaaSumsPure
namespace Go.Proofs.Ytaapnjhkflpiiaa
open Go.RowKit

set_option maxHeartbeats 400000 in
theorem adlerMore_any (a : Option Addr) (cap : Nat) (l : List UInt8) (s : Nat) (w : World) (hs : s < 4294967296) (hb : l.length ≤ 9223372036854775807) (hw : Bs w a l) :
    Calls Try.prog 66 #[.int .u32 s, .slice a l.length cap] w fun e w' => e = .returned (.int .u32 (adler s l : Nat)) ∧ w = w' := by
  have H0 : Hid (bits .and .u32 (s : Int) 65535 = ((s % 65536 : Nat) : Int)) := by
    have h := u32_and_nat s 65535 hs (by decide)
    rw [show (65535 : Nat) = 2 ^ 16 - 1 from rfl, Nat.and_two_pow_sub_one_eq_mod] at h
    exact h
  have key : ∀ x y : Nat, x < 65536 → y < 65536 → bits .or .u32 ((y : Int) * 65536) (x : Int) = ((y * 65536 + x : Nat) : Int) := fun x y h1 h2 => by
    have h := u32_or_nat (y * 65536) x (by omega) (by omega)
    rw [show y * 65536 = y <<< 16 from by rw [Nat.shiftLeft_eq], ← Nat.shiftLeft_add_eq_or_of_lt (by omega)] at h
    rw [Nat.shiftLeft_eq] at h
    simpa using h
  have KEY := Lib.hid key
  clear key
  rcases hw with hl | ⟨b, off, rfl, hc⟩
  · subst hl
    go_enter Try.func66, Try.ntmps66
    go_wp2
    refine wp_loop_rounds 1 ?_
    rw [rounds_succ]
    go_wp2
    go_ret
    refine ⟨ret_int ?_, rfl⟩
    rw [H0.out, show ((s : Int) / 65536 * 65536) = (((s / 65536 : Nat) : Int) * 65536) from by omega, KEY.out _ _ (by omega) (by omega), adler_nil]
  · go_enter Try.func66, Try.ntmps66
    go_wp2
    go_loop [5, 6, 15] (fun x y i => ∃ k : Nat, k ≤ l.length ∧ i = .int .i64 k ∧ ∃ p q : Nat, (p, q) = ad (s % 65536, s / 65536) (l.take k) ∧ p < 65536 ∧ q < 65536 ∧ x = .int .u32 p ∧ y = .int .u32 q) (fun _ _ i => l.length - (intOf i).toNat)
    case atStart => exact ⟨0, by omega, rfl, s % 65536, s / 65536, rfl, by omega, by omega, by rw [H0.out], by rw [Int.natCast_ediv]; rfl⟩
    case round =>
      obtain ⟨k, hk, rfl, p, q, hpq, hp, hq, rfl, rfl⟩ := hrel
      have HQ := Lib.hid hpq
      clear hpq
      have hcell : ∀ h : k < l.length, w.cell? ⟨b, off + k, none⟩ = some (.int .u8 (l[k].toNat : Int)) := fun h => hc k h
      go_wp2
      · have hlt : k < l.length := by assumption
        have h8 := l[k].toNat_lt
        go_round
        case rel =>
          refine ⟨k + 1, by omega, by go_num, (p + l[k].toNat) % 65521, (q + (p + l[k].toNat) % 65521) % 65521, ?_, by omega, by omega, ?_, ?_⟩
          · rw [ad_take_succ _ _ _ hlt, ← HQ.out]; rfl
          · congr 1; omega
          · congr 1; omega
        case measure => simp [intOf]; omega
      · have hge : ¬ k < l.length := by assumption
        go_ret
        refine ⟨ret_int ?_, rfl⟩
        have e := HQ.out
        rw [List.take_of_length_le (by omega)] at e
        rw [KEY.out _ _ hp hq, adler, ← e]

theorem adler_any (a : Option Addr) (cap : Nat) (l : List UInt8) (w : World) (hb : l.length ≤ 9223372036854775807) (hw : Bs w a l) :
    Calls Try.prog 51 #[.slice a l.length cap] w fun e w' => e = .returned (.int .u32 (adler 1 l : Nat)) ∧ w = w' := by
  go_enter Try.func51, Try.ntmps51
  go_wp2_with (go_at_call 66; refine (adlerMore_any _ _ _ 1 _ (by decide) hb hw).mono ?_; rintro e w' ⟨rfl, rfl⟩)
  go_ret
  exact ⟨rfl, rfl⟩

set_option maxHeartbeats 400000 in
theorem refAdler_any (a : Option Addr) (cap : Nat) (l : List UInt8) (s : Nat) (w : World) (hs : s < 4294967296) (hb : l.length ≤ 9223372036854775807) (hw : Bs w a l) :
    Calls Try.prog 52 #[.int .u32 s, .slice a l.length cap] w fun e w' => e = .returned (.int .u32 (adler s l : Nat)) ∧ w = w' := by
  rcases hw with hl | ⟨b, off, rfl, hc⟩
  · subst hl
    go_enter Try.func52, Try.ntmps52
    go_wp2
    refine wp_loop_rounds 1 ?_
    rw [rounds_succ]
    go_wp2
    go_ret
    refine ⟨ret_int ?_, rfl⟩
    rw [adler_nil]; omega
  · go_enter Try.func52, Try.ntmps52
    go_wp2
    go_loop [5, 6, 7] (fun x y i => ∃ k : Nat, k ≤ l.length ∧ i = .int .i64 k ∧ ∃ p q : Nat, (p, q) = ad (s % 65536, s / 65536) (l.take k) ∧ p < 65536 ∧ q < 65536 ∧ x = .int .i64 p ∧ y = .int .i64 q) (fun _ _ i => l.length - (intOf i).toNat)
    case atStart => exact ⟨0, by omega, rfl, s % 65536, s / 65536, rfl, by omega, by omega, by go_num, by go_num⟩
    case round =>
      obtain ⟨k, hk, rfl, p, q, hpq, hp, hq, rfl, rfl⟩ := hrel
      have HQ := Lib.hid hpq
      clear hpq
      by_cases hlt : k < l.length
      · have hcell : w.cell? ⟨b, off + k, none⟩ = some (.int .u8 (l[k].toNat : Int)) := hc k hlt
        have h8 := l[k].toNat_lt
        go_wp2
        go_round
        case rel =>
          refine ⟨k + 1, by omega, by go_num, (p + l[k].toNat) % 65521, (q + (p + l[k].toNat) % 65521) % 65521, ?_, by omega, by omega, ?_, ?_⟩
          · rw [ad_take_succ _ _ _ hlt, ← HQ.out]; rfl
          · go_num
          · congr 1; omega
        case measure => simp [intOf]; omega
      · go_wp2
        go_ret
        refine ⟨ret_int ?_, rfl⟩
        have e := HQ.out
        rw [List.take_of_length_le (by omega)] at e
        rw [adler, ← e]; simp only []; omega

end Go.Proofs.Ytaapnjhkflpiiaa
