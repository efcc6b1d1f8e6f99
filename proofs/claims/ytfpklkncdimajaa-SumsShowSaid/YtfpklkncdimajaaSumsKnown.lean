/-
  The laws' own helpers of layer 1: 'few' hands back the first 5000 bytes, 'known' is true.
-/
import Derived.Test.YtfpklkncdimajaaSumsRef
import Derived.Lib.SlBytesConst
namespace Go.Proofs.Ytfpklkncdimajaa
open Go.RowKit

theorem few_any (a : Option Addr) (n cap : Nat) (w : World) (hn : n ≤ cap) (hc : cap ≤ maxLen) (ha : a = none → n = 0 ∧ cap = 0) :
    Calls Try.prog 9 #[.slice a n cap] w fun e w' => e = .returned (.slice a (min n 5000) cap) ∧ w = w' := by
  unfold maxLen at hc
  cases a with
  | none =>
    obtain ⟨rfl, rfl⟩ := ha rfl
    go_enter Try.func9, Try.ntmps9
    go_wp2
    go_ret
    exact ⟨rfl, rfl⟩
  | some a =>
    go_enter Try.func9, Try.ntmps9
    go_wp2
    · go_ret
      have h : (5000 : Int) < n := by assumption
      exact ⟨by rw [Nat.min_eq_right (by omega)]; rfl, rfl⟩
    · go_ret
      have h : (n : Int) ≤ 5000 := by assumption
      exact ⟨by rw [Nat.min_eq_left (by omega)]; rfl, rfl⟩

theorem few_bs (a : Option Addr) (n cap : Nat) (l : List UInt8) (w : World) (hn : n ≤ cap) (hc : cap ≤ 9223372036854775807) (ha : a = none → n = 0 ∧ cap = 0) (hl : l.length = min n 5000) :
    Calls Try.prog 9 #[.slice a n cap] w fun e w' => e = .returned (.slice a l.length cap) ∧ w = w' := by
  rw [hl]; exact few_any a n cap w hn (by unfold maxLen; omega) ha

theorem known_any (w : World) :
    Calls Try.prog 10 #[] w fun e w' => e = .returned (.bool true) ∧ Below w.heap.size w w' := by
  have kc := run_convert_const (P := Try.prog) 22 5 Try.underlying22 Try.underlying5
  have h1 : ((((adler 1 []) : Nat) : Int) == 1) = true := by decide +kernel
  have h3 : ((((adler 1 [87, 105, 107, 105, 112, 101, 100, 105, 97]) : Nat) : Int) == 300286872) = true := by decide +kernel
  have h4 : ((((crc 0 [97]) : Nat) : Int) == 3904355907) = true := by decide +kernel
  have h2 : ((((crc 0 []) : Nat) : Int) == 0) = true := by decide +kernel
  go_enter Try.func10, Try.ntmps10
  go_wp2_with fail
  refine (adler_any none 0 [] _ (by simp) (.inl rfl)).mono ?_
  rintro e w' ⟨rfl, rfl⟩
  go_wp2_with fail
  refine (crc_any none 0 [] _ (by simp) (.inl rfl)).mono ?_
  rintro e w' ⟨rfl, rfl⟩
  go_wp2_with fail
  refine (adler_any _ 9 [87, 105, 107, 105, 112, 101, 100, 105, 97] _ (by simp) (.block (heap_alloc_last _ _ _ (by simp)) rfl)).mono ?_
  rintro e w' ⟨rfl, rfl⟩
  go_wp2_with fail
  refine (crc_any _ 1 [97] _ (by simp) (.block (heap_alloc_last _ _ _ (by simp)) rfl)).mono ?_
  rintro e w' ⟨rfl, rfl⟩
  go_wp2_with fail
  go_ret
  exact ⟨rfl, ((Below.refl _ _).alloc (Nat.le_refl _) _).alloc (by simp) _⟩

end Go.Proofs.Ytfpklkncdimajaa
