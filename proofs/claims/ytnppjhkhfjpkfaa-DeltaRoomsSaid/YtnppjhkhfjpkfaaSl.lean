/-
  Slices of bytes as the walks of laws hold them; the contracts of layer 8 over them.
-/
import Derived.Test.YtnppjhkhfjpkfaaMake
import Derived.Test.YtnppjhkhfjpkfaaDeltaKnown
namespace Go.Proofs.Ytnppjhkhfjpkfaa
open Go.RowKit Go.Mix

/-- The slice (a, l.length, cap) reads as l. -/
structure Sl (w : World) (a : Option Addr) (cap : Nat) (l : List UInt8) : Prop where
  bs : Bs w a l
  le : l.length ≤ cap
  max : cap ≤ 9223372036854775807
  non : a = none → cap = 0

theorem Sl.below {w w' : World} {a : Option Addr} {cap : Nat} {l : List UInt8} (h : Sl w a cap l) (g : Below w.heap.size w w') : Sl w' a cap l := ⟨h.bs.below g, h.le, h.max, h.non⟩

theorem OwnB.sl {w : World} {B : Nat} {v : Value} {l : List UInt8} (h : OwnB w B v l) : ∃ a cap, v = .slice a l.length cap ∧ Sl w a cap l := by
  obtain ⟨a, cap, rfl, hb, hc, hm, hn⟩ := h.bs
  exact ⟨a, cap, rfl, hb, hc, hm, fun e => (hn e).2⟩

theorem Sl.str {w : World} {a : Option Addr} {cap : Nat} {l : List UInt8} (h : Sl w a cap l) : (convert 22 9 (.slice a l.length cap)).run Try.prog w = .ok (.string ⟨l.toArray⟩) w :=
  run_string_of_bytes (P := Try.prog) h.bs 22 5 9 Try.underlying22 Try.underlying5 Try.underlying9 cap

/-- What an argument of the law is. -/
theorem open_sl {w : World} {a : Option Addr} {len cap : Nat} {zs : List Int}
    (h : (a = none ∧ len = 0 ∧ cap = 0 ∧ zs = []) ∨ ∃ x, a = some x ∧ len ≤ cap ∧ cap ≤ maxLen ∧ zs.length = cap ∧ (∀ i, i < zs.length → w.cell? (x.add i) = some (.int .u8 (zs.getD i 0))) ∧ ∀ n ∈ zs, (Lit.int .u8 n).wf = true) :
    ∃ L : List UInt8, L.length = len ∧ Sl w a cap L := by
  obtain ⟨L, hL, hb, hle, hc, hn⟩ := open_row h
  exact ⟨L.take len, by rw [List.length_take]; omega, hb.take _, by rw [List.length_take]; omega, hc, fun e => (hn e).2⟩

theorem few_sl (a : Option Addr) (cap : Nat) (L : List UInt8) (w : World) (h : Sl w a cap L) : ∃ l, l = L.take 1000 ∧ l.length ≤ 1000 ∧ Sl w a cap l ∧
    ∀ w', Calls Try.prog 8 #[.slice a L.length cap] w' fun e w'' => e = .returned (.slice a l.length cap) ∧ w' = w'' := by
  refine ⟨L.take 1000, rfl, by rw [List.length_take]; omega, ⟨h.bs.take _, by rw [List.length_take]; have := h.le; omega, h.max, h.non⟩, fun w' => ?_⟩
  rw [List.length_take, Nat.min_comm]
  exact few_any a L.length cap w' h.le h.max (fun e => by have := h.non e; have := h.le; omega)

theorem make_sl {w : World} {a a' : Option Addr} {cap cap' : Nat} {base target : List UInt8} (h : Sl w a cap base) (h' : Sl w a' cap' target) (hbl : base.length ≤ 1000000) (htl : target.length ≤ 1000000) :
    Calls Try.prog 14 #[.slice a base.length cap, .slice a' target.length cap'] w fun e w' => ∃ a2 cap2, e = .returned (.slice a2 (makeOf base target).length cap2) ∧ Sl w' a2 cap2 (makeOf base target) ∧ Below w.heap.size w w' :=
  (make_any a cap base a' cap' target w h.bs h.le h.max h.non h'.bs h'.le h'.max h'.non hbl htl).mono fun e w' hh => by
    obtain ⟨v, rfl, hb⟩ := hh
    obtain ⟨a2, cap2, rfl, hs⟩ := hb.1.sl
    exact ⟨a2, cap2, rfl, hs, hb.2.1⟩

theorem apply_sl {w : World} {a a' : Option Addr} {cap cap' : Nat} {base d r : List UInt8} {n : Nat} {most : Int} (h : Sl w a cap base) (h' : Sl w a' cap' d) (hr : applyOf base d most = (r, n))
    (hbl : base.length ≤ 140737488355328) (hdl : d.length ≤ 140737488355328) (hmost : most ≤ 140737488355328) (hmlo : -9223372036854775808 ≤ most) :
    Calls Try.prog 9 #[.slice a base.length cap, .slice a' d.length cap', .int .i64 most] w fun e w' => ∃ a2 cap2, e = .returned (.tuple #[.slice a2 r.length cap2, .int .i64 (n : Int)]) ∧ Sl w' a2 cap2 r ∧ Below w.heap.size w w' :=
  (apply_any a cap base a' cap' d most w h.bs h.le h.max h.non h'.bs h'.le h'.max h'.non hbl hdl hmost hmlo).mono fun e w' hh => by
    rw [hr] at hh
    obtain ⟨v, rfl, ho, hb⟩ := hh
    obtain ⟨a2, cap2, rfl, hs⟩ := ho.sl
    exact ⟨a2, cap2, rfl, hs, hb⟩

theorem refApply_sl {w : World} {a a' : Option Addr} {cap cap' : Nat} {base d r : List UInt8} {n : Nat} {most : Int} (h : Sl w a cap base) (h' : Sl w a' cap' d) (hr : applyOf base d most = (r, n))
    (hbl : base.length ≤ 140737488355328) (hdl : d.length ≤ 140737488355328) (hmost : most ≤ 140737488355328) (hmlo : -9223372036854775808 ≤ most) :
    Calls Try.prog 10 #[.slice a base.length cap, .slice a' d.length cap', .int .i64 most] w fun e w' => ∃ a2 cap2, e = .returned (.tuple #[.slice a2 r.length cap2, .int .i64 (n : Int)]) ∧ Sl w' a2 cap2 r ∧ Below w.heap.size w w' :=
  (refApply_any a cap base a' cap' d most w h.bs h.le h.non h'.bs h'.le h'.max h'.non hbl hdl hmost hmlo).mono fun e w' hh => by
    rw [hr] at hh
    obtain ⟨v, rfl, ho, hb⟩ := hh
    obtain ⟨a2, cap2, rfl, hs⟩ := ho.sl
    exact ⟨a2, cap2, rfl, hs, hb⟩

theorem sizes_sl {w : World} {a : Option Addr} {cap : Nat} {d : List UInt8} (h : Sl w a cap d) {x y z : Nat} (hr : sizesOf d = (x, y, z, 0)) :
    Calls Try.prog 11 #[.slice a d.length cap] w fun e w' => e = .returned (.tuple #[.int .i64 (x : Int), .int .i64 (y : Int), .int .i64 0]) ∧ Below w.heap.size w w' := by
  have C := sizes2_any a cap d w h.bs h.le h.max h.non
  rw [hr] at C
  exact C

end Go.Proofs.Ytnppjhkhfjpkfaa
