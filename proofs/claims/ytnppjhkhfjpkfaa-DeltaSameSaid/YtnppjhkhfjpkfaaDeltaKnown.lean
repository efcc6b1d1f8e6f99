/-
  The laws' own helpers of layer 8: 'few' hands back the first 1000 bytes, 'known' is true.
-/
import Derived.Test.YtnppjhkhfjpkfaaDeltaRefApply
import Derived.Lib.SlBytesConst
namespace Go.Proofs.Ytnppjhkhfjpkfaa
open Go.RowKit Go.Mix

theorem few_any (a : Option Addr) (n cap : Nat) (w : World) (hn : n ≤ cap) (hc : cap ≤ 9223372036854775807) (ha : a = none → n = 0 ∧ cap = 0) :
    Calls Try.prog 8 #[.slice a n cap] w fun e w' => e = .returned (.slice a (min n 1000) cap) ∧ w = w' := by
  cases a with
  | none =>
    obtain ⟨rfl, rfl⟩ := ha rfl
    go_enter Try.func8, Try.ntmps8
    go_wp2
    go_ret
    exact ⟨rfl, rfl⟩
  | some a =>
    go_enter Try.func8, Try.ntmps8
    go_wp2
    go_ret
    have h : (min (n : Int) 1000).toNat = min n 1000 := by omega
    refine ⟨?_, rfl⟩
    show Ending.returned (Value.slice (some a) (min (n : Int) 1000).toNat cap) = _
    rw [h]

theorem few_bs (a : Option Addr) (n cap : Nat) (l : List UInt8) (w : World) (hn : n ≤ cap) (hc : cap ≤ 9223372036854775807) (ha : a = none → n = 0 ∧ cap = 0) (hl : l.length = min n 1000) :
    Calls Try.prog 8 #[.slice a n cap] w fun e w' => e = .returned (.slice a l.length cap) ∧ w = w' := by
  rw [hl]; exact few_any a n cap w hn hc ha

theorem known1 : applyOf [97, 98, 99] [3, 4, 144, 2, 2, 120, 121] 9 = ([97, 98, 120, 121], 0) := by decide +kernel
theorem known2 : applyOf [97, 98, 99] [3, 3, 145, 1, 2, 1, 122] 9 = ([98, 99, 122], 0) := by decide +kernel

theorem two_blocks (w : World) (A B : Obj) : ((w.alloc A).alloc B).heap[w.heap.size]? = some A ∧ ((w.alloc A).alloc B).heap[w.heap.size + 1]? = some B ∧ ((w.alloc A).alloc B).heap.size = w.heap.size + 2 := by
  exact ⟨(Below.heap_alloc (w.alloc A) B w.heap.size (by simp)).trans (heap_alloc_last w A _ rfl), heap_alloc_last (w.alloc A) B _ (by simp), by simp⟩

theorem applied (A B : Nat) (base d : List UInt8) (r : List UInt8) (most : Int) (w : World) (hr : applyOf base d most = (r, 0))
    (hA : Bs w (some ⟨A, 0, none⟩) base) (hB : Bs w (some ⟨B, 0, none⟩) d)
    (hl1 : base.length ≤ 1000) (hl2 : d.length ≤ 1000) (hm : 0 ≤ most) (hm2 : most ≤ 70000) :
    Calls Try.prog 9 #[.slice (some ⟨A, 0, none⟩) base.length base.length, .slice (some ⟨B, 0, none⟩) d.length d.length, .int .i64 most] w (fun e w' => ∃ v, e = .returned (.tuple #[v, .int .i64 0]) ∧ OwnB w' w.heap.size v r ∧ Below w.heap.size w w') := by
  have C := apply_any (some ⟨A, 0, none⟩) base.length base (some ⟨B, 0, none⟩) d.length d most w hA (Nat.le_refl _) (by omega) (by simp) hB (Nat.le_refl _) (by omega) (by simp) (by omega) (by omega) (by omega) (by omega)
  rw [hr] at C
  exact C

theorem known_any (w : World) :
    Calls Try.prog 13 #[] w fun e w' => e = .returned (.bool true) ∧ Below w.heap.size w w' := by
  have kc := run_convert_const (P := Try.prog) 22 5 Try.underlying22 Try.underlying5
  have tb := two_blocks w
  go_enter Try.func13, Try.ntmps13
  go_wp2_with fail
  refine (applied w.heap.size (w.heap.size + 1) [97, 98, 99] [3, 4, 144, 2, 2, 120, 121] [97, 98, 120, 121] 9 _ known1 (.block (tb _ _).1 rfl) (.block (tb _ _).2.1 rfl) (by decide) (by decide) (by decide) (by decide)).mono ?_
  rintro e w1 ⟨v, rfl, hv, hbel⟩
  have hsz1 := hbel.size
  rw [(tb _ _).2.2] at hsz1
  have hg1 : Below w.heap.size w w1 := (((Below.refl _ _).alloc (Nat.le_refl _) _).alloc (by simp) _).trans (hbel.mono (by rw [(tb _ _).2.2]; omega))
  obtain ⟨av, capv, rfl, hbv, hcv, hmv, hnv⟩ := hv.bs
  have tb1 := two_blocks w1
  clear tb
  go_wp2_with fail
  refine (applied w1.heap.size (w1.heap.size + 1) [97, 98, 99] [3, 3, 145, 1, 2, 1, 122] [98, 99, 122] 9 _ known2 (.block (tb1 _ _).1 rfl) (.block (tb1 _ _).2.1 rfl) (by decide) (by decide) (by decide) (by decide)).mono ?_
  rintro e w2 ⟨v2, rfl, hv2, hbel2⟩
  have hg2 : Below w1.heap.size w1 w2 := (((Below.refl _ _).alloc (Nat.le_refl _) _).alloc (by simp) _).trans (hbel2.mono (by rw [(tb1 _ _).2.2]; omega))
  obtain ⟨av2, capv2, rfl, hbv2, hcv2, hmv2, hnv2⟩ := hv2.bs
  have hbv' := hbv.below hg2
  have hs1 := run_string_of_bytes (P := Try.prog) hbv' 22 5 9 Try.underlying22 Try.underlying5 Try.underlying9 capv
  have hs2 := run_string_of_bytes (P := Try.prog) hbv2 22 5 9 Try.underlying22 Try.underlying5 Try.underlying9 capv2
  rw [show ([97, 98, 120, 121] : List UInt8).length = 4 from rfl] at hs1
  rw [show ([98, 99, 122] : List UInt8).length = 3 from rfl] at hs2
  clear tb1
  go_wp2_with fail
  go_ret
  exact ⟨rfl, hg1.trans (hg2.mono hg1.size)⟩

end Go.Proofs.Ytnppjhkhfjpkfaa
