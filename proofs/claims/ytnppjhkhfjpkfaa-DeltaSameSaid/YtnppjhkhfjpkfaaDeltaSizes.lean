/-
  The walks of the delta's sizes, the program's and the reference's.
-/
import Derived.Test.YtnppjhkhfjpkfaaLebRef
import Derived.Test.YtnppjhkhfjpkfaaCut
import Derived.Test.YtnppjhkhfjpkfaaDeltaPure
namespace Go.Proofs.Ytnppjhkhfjpkfaa
open Go.RowKit Go.Mix

theorem neq0 (x : Nat) (h : x ≠ 0) : (((x : Nat) : Int) != 0) = true := by rw [bne_iff_ne]; omega
theorem eq0 (x : Nat) (h : x ≠ 0) : (((x : Nat) : Int) == 0) = false := by rw [beq_eq_false_iff_ne]; omega

set_option maxRecDepth 100000 in
theorem sizes_any (a : Option Addr) (cap : Nat) (l : List UInt8) (w : World) (hb : Bs w a l) (hc : l.length ≤ cap) (hmax : cap ≤ 9223372036854775807) (hn : a = none → cap = 0) :
    Calls Try.prog 15 #[.slice a l.length cap] w fun e w' =>
      e = .returned (.tuple #[.int .i64 ((sizesOf l).1 : Nat), .int .i64 ((sizesOf l).2.1 : Nat), .int .i64 ((sizesOf l).2.2.1 : Nat), .int .i64 ((sizesOf l).2.2.2 : Nat)]) ∧ Below w.heap.size w w' := by
  have h1 := leb_bounds l
  obtain ⟨a2, l2, cap2, hl2, hb2, hc2, hcc, hn2, hsl⟩ := cut_from (P := Try.prog) hb 22 Try.underlying22 sizeOf_u8 cap (leb l).2.1 hc hn h1.2.1
  have h2 := leb_bounds l2
  have c1 := fromLeb_any a cap l w hb (by omega)
  have c2 := fun (w' : World) (hw : Below w.heap.size w w') => fromLeb_any a2 cap2 l2 w' (hb2.below hw) (by omega)
  have hS : sizesOf l = if (leb l).2.2 ≠ 0 then (0, 0, 0, (leb l).2.2) else if (leb l2).2.2 ≠ 0 then (0, 0, 0, (leb l2).2.2) else ((leb l).1, (leb l2).1, (leb l).2.1 + (leb l2).2.1, 0) := by
    rw [hl2]; rfl
  have hlen : (leb l).2.1 + l2.length = l.length := by rw [hl2]; simp; omega
  rw [hS]
  clear hS hl2
  generalize leb l = r1 at *
  generalize leb l2 = r2 at *
  obtain ⟨v1, n1, e1⟩ := r1
  obtain ⟨v2, n2, e2⟩ := r2
  simp only at h1 h2 c1 c2 hsl hlen ⊢
  have C1 := Lib.hid c1
  have C2 := Lib.hid c2
  have bn : n1 + n2 ≤ l.length := by omega
  have H1 := Lib.hid h1
  have H2 := Lib.hid h2
  have HLN := Lib.hid hlen
  clear c1 c2 h1 h2 hlen
  by_cases he1 : e1 = 0
  · subst he1
    by_cases he2 : e2 = 0
    · subst he2
      go_enter Try.func15, Try.ntmps15
      go_wp2_with fail
      refine C1.out.mono ?_
      rintro e w1 ⟨rfl, hbel⟩
      go_wp2_with fail
      refine (C2.out _ hbel).mono ?_
      rintro e w2 ⟨rfl, hbel2⟩
      go_wp2_with fail
      exact bodyPost_ret (v := .tuple #[.int .i64 v1, .int .i64 v2, .int .i64 (n1 + n2 : Nat), .int .i64 0]) (by simp [results, Try.results15, go_sem]) rfl ⟨rfl, hbel.trans (hbel2.mono hbel.size)⟩
    · have hz := neq0 e2 he2
      have hz2 := eq0 e2 he2
      go_enter Try.func15, Try.ntmps15
      go_wp2_with fail
      refine C1.out.mono ?_
      rintro e w1 ⟨rfl, hbel⟩
      go_wp2_with fail
      refine (C2.out _ hbel).mono ?_
      rintro e w2 ⟨rfl, hbel2⟩
      go_wp2_with fail
      exact bodyPost_ret (v := .tuple #[.int .i64 0, .int .i64 0, .int .i64 0, .int .i64 e2]) (by simp [results, Try.results15, go_sem]) rfl ⟨by simp, hbel.trans (hbel2.mono hbel.size)⟩
  · have hz := neq0 e1 he1
    have hz2 := eq0 e1 he1
    go_enter Try.func15, Try.ntmps15
    go_wp2_with fail
    refine C1.out.mono ?_
    rintro e w1 ⟨rfl, hbel⟩
    go_wp2_with fail
    exact bodyPost_ret (v := .tuple #[.int .i64 0, .int .i64 0, .int .i64 0, .int .i64 e1]) (by simp [results, Try.results15, go_sem]) rfl ⟨by simp, hbel⟩

theorem sizes2_any (a : Option Addr) (cap : Nat) (l : List UInt8) (w : World) (hb : Bs w a l) (hc : l.length ≤ cap) (hmax : cap ≤ 9223372036854775807) (hn : a = none → cap = 0) :
    Calls Try.prog 11 #[.slice a l.length cap] w fun e w' =>
      e = .returned (.tuple #[.int .i64 ((sizesOf l).1 : Nat), .int .i64 ((sizesOf l).2.1 : Nat), .int .i64 ((sizesOf l).2.2.2 : Nat)]) ∧ Below w.heap.size w w' := by
  have C := Lib.hid (sizes_any a cap l w hb hc hmax hn)
  generalize sizesOf l = r at *
  obtain ⟨x, y, z, e⟩ := r
  simp only at C ⊢
  go_enter Try.func11, Try.ntmps11
  go_wp2_with fail
  refine C.out.mono ?_
  rintro e w1 ⟨rfl, hbel⟩
  go_wp2_with fail
  go_ret3
  exact ⟨rfl, hbel⟩

set_option maxRecDepth 100000 in
theorem refSizes_any (a : Option Addr) (cap : Nat) (l : List UInt8) (w : World) (hb : Bs w a l) (hc : l.length ≤ cap) (hmax : cap ≤ 9223372036854775807) (hn : a = none → cap = 0) :
    Calls Try.prog 12 #[.slice a l.length cap] w fun e w' =>
      e = .returned (.tuple #[.int .i64 ((sizesOf l).1 : Nat), .int .i64 ((sizesOf l).2.1 : Nat), .int .i64 ((sizesOf l).2.2.1 : Nat), .int .i64 ((sizesOf l).2.2.2 : Nat)]) ∧ w = w' := by
  have h1 := leb_bounds l
  obtain ⟨a2, l2, cap2, hl2, hb2, hc2, hcc, hn2, hsl⟩ := cut_from (P := Try.prog) hb 22 Try.underlying22 sizeOf_u8 cap (leb l).2.1 hc hn h1.2.1
  have h2 := leb_bounds l2
  have c1 := refFromLeb_any a cap l w hb (by omega)
  have c2 := refFromLeb_any a2 cap2 l2 w hb2 (by omega)
  have hS : sizesOf l = if (leb l).2.2 ≠ 0 then (0, 0, 0, (leb l).2.2) else if (leb l2).2.2 ≠ 0 then (0, 0, 0, (leb l2).2.2) else ((leb l).1, (leb l2).1, (leb l).2.1 + (leb l2).2.1, 0) := by
    rw [hl2]; rfl
  have hlen : (leb l).2.1 + l2.length = l.length := by rw [hl2]; simp; omega
  rw [hS]
  clear hS hl2
  generalize leb l = r1 at *
  generalize leb l2 = r2 at *
  obtain ⟨v1, n1, e1⟩ := r1
  obtain ⟨v2, n2, e2⟩ := r2
  simp only at h1 h2 c1 c2 hsl hlen ⊢
  have C1 := Lib.hid c1
  have C2 := Lib.hid c2
  have bn : n1 + n2 ≤ l.length := by omega
  have H1 := Lib.hid h1
  have H2 := Lib.hid h2
  have HLN := Lib.hid hlen
  clear c1 c2 h1 h2 hlen
  by_cases he1 : e1 = 0
  · subst he1
    by_cases he2 : e2 = 0
    · subst he2
      go_enter Try.func12, Try.ntmps12
      go_wp2_with fail
      refine C1.out.mono ?_
      rintro e w1 ⟨rfl, rfl⟩
      go_wp2_with fail
      refine C2.out.mono ?_
      rintro e w2 ⟨rfl, rfl⟩
      go_wp2_with fail
      exact bodyPost_ret (v := .tuple #[.int .i64 v1, .int .i64 v2, .int .i64 (n1 + n2 : Nat), .int .i64 0]) (by simp [results, Try.results12, go_sem]) rfl ⟨rfl, rfl⟩
    · have hz := neq0 e2 he2
      have hz2 := eq0 e2 he2
      go_enter Try.func12, Try.ntmps12
      go_wp2_with fail
      refine C1.out.mono ?_
      rintro e w1 ⟨rfl, rfl⟩
      go_wp2_with fail
      refine C2.out.mono ?_
      rintro e w2 ⟨rfl, rfl⟩
      go_wp2_with fail
      exact bodyPost_ret (v := .tuple #[.int .i64 0, .int .i64 0, .int .i64 0, .int .i64 e2]) (by simp [results, Try.results12, go_sem]) rfl ⟨by simp, rfl⟩
  · have hz := neq0 e1 he1
    have hz2 := eq0 e1 he1
    go_enter Try.func12, Try.ntmps12
    go_wp2_with fail
    refine C1.out.mono ?_
    rintro e w1 ⟨rfl, rfl⟩
    go_wp2_with fail
    exact bodyPost_ret (v := .tuple #[.int .i64 0, .int .i64 0, .int .i64 0, .int .i64 e1]) (by simp [results, Try.results12, go_sem]) rfl ⟨by simp, rfl⟩

end Go.Proofs.Ytnppjhkhfjpkfaa
