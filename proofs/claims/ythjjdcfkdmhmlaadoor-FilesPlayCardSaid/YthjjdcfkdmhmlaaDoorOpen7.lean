/-
  How arguments that are slices of texts, of bytes are opened.
-/
import Derived.Test.YthjjdcfkdmhmlaaDoorStKnown
import Derived.Test.YthjjdcfkdmhmlaaDoorOpen
import Derived.Deep.Slices
import Derived.Deep.Strs
import Derived.Deep.Fields
import Derived.Deep.Matrix
import Derived.ChangeSame
import Derived.SliceStrings
namespace Go.Proofs.YthjjdcfkdmhmlaaDoor
open Go.RowKit Go.ChangeShapes Go.WideShapes Go.Deep Go.WideMaps

/-- A slice of bytes as it lies. -/
structure RowA where
  a : Option Addr
  n : Nat
  c : Nat
instance : Inhabited RowA := ⟨⟨none, 0, 0⟩⟩
def rowV (x : RowA) : Value := .slice x.a x.n x.c
theorem tyR : OneTy RowA rowV 39 28 :=
  ⟨fun _ => rfl, Tryd.underlying39, fun w => by kernel_rfl, by kernel_rfl, ⟨.slice none 0 0, 24, by kernel_rfl, rfl, by decide⟩, fun w b o x h => by
    unfold rowV at h ⊢
    go_simp⟩
abbrev encR : RowA → List Value := one1 rowV
/-- It reads as bytes. -/
def RowIs (w : World) (x : RowA) : Prop := ∃ l : Bytes, x.n = l.length ∧ Sl w x.a x.c l

section
variable {H : Type} {enc' : TypeId × Value → H} {w : World}
theorem addr_plain {y : Addr} {v : Value} (h : w.cell? y = some v) : ∃ b o, y = ⟨b, o, none⟩ := by
  obtain ⟨yb, yo, ys⟩ := y
  simp only [World.cell?] at h
  cases ys with
  | none => exact ⟨yb, yo, rfl⟩
  | some z => split at h <;> simp at h
/-- One-cell values that lie behind each other. -/
theorem rs_ones {α : Type} [Inhabited α] {v1 : α → Value} {y : Addr} {cap len : Nat} (F : Nat → α) (hl : len ≤ cap) (hm : cap ≤ 9223372036854775807) (h : ∀ i, i < len → w.cell? (y.add i) = some (v1 (F i))) : RsAt (one1 v1) 1 w (some y) cap ((List.range len).map F) := by
  have gl : ((List.range len).map F).length = len := by rw [List.length_map, List.length_range]
  refine ⟨by rw [gl]; exact hl, hm, (fun h => nomatch h), ?_⟩
  by_cases h0 : len = 0
  · subst h0; exact .inl rfl
  · have h1 := h 0 (by omega)
    have e0 : y.add 0 = y := by simp [Addr.add]
    rw [e0] at h1
    obtain ⟨b, o, rfl⟩ := addr_plain h1
    refine .inr ⟨b, o, rfl, fun j hj i v hv => ?_⟩
    rw [gl] at hj
    have e1 : ((List.range len).map F)[j]! = F j := by rw [getElem!_pos _ j (by rw [gl]; exact hj)]; simp
    rw [e1] at hv
    unfold one1 at hv
    cases i with
    | zero =>
      simp only [List.getElem?_cons_zero, Option.some.injEq] at hv
      have := h j hj
      rw [Addr.add_mid] at this
      rw [Nat.mul_one, Nat.add_zero, this, hv]
    | succ i => simp at hv
theorem open_texts {a : Option Addr} {len cap fuel : Nat} {x : DataW H × List MemPlace} (h : DataW.trod enc' Tryd.prog w 0 (fun _ => true) true fuel 36 (Value.slice a len cap).cells.toList = some x) :
    ∃ l : List Bytes, l.length = len ∧ RsAt encS 1 w a cap l ∧ ∀ p ∈ l, p.length ≤ 9223372036854775807 := by
  rcases open_strings Tryd.underlying36 Tryd.underlying9 (by kernel_rfl) h with ⟨hcs, _⟩ | ⟨y, l, c, ss, hcs, _, hl, hm, hss, _, hcell, hsz⟩
  · simp [Value.cells] at hcs
    obtain ⟨rfl, rfl, rfl⟩ := hcs
    exact ⟨[], rfl, RsAt.nil w, fun _ h => (by simp at h)⟩
  · simp [Value.cells] at hcs
    obtain ⟨rfl, rfl, rfl⟩ := hcs
    simp only [if_true] at hss
    have hm' : cap ≤ 9223372036854775807 := Nat.le_trans hm (by decide)
    refine ⟨(List.range len).map fun i => (ss.getD i ByteArray.empty).data.toList, by rw [List.length_map, List.length_range], rs_ones _ hl hm' (fun i hi => ?_), fun p hp => ?_⟩
    · rw [hcell i (by omega)]
      congr 1
    · obtain ⟨i, hi, rfl⟩ := List.mem_map.1 hp
      have hil : i < ss.length := by have := List.mem_range.1 hi; omega
      have h1 := hsz (ss.getD i ByteArray.empty) (by rw [List.getD_eq_getElem?_getD, List.getElem?_eq_getElem hil]; exact List.getElem_mem hil)
      have e2 : maxLen = 9223372036854775807 := by decide
      rw [Array.length_toList]
      rw [e2] at h1
      exact h1
theorem open_rowsB {a : Option Addr} {len cap fuel : Nat} {x : DataW H × List MemPlace} (h : DataW.trod enc' Tryd.prog w 0 (fun _ => true) true fuel 39 (Value.slice a len cap).cells.toList = some x) :
    ∃ l : List RowA, l.length = len ∧ RsAt encR 1 w a cap l ∧ ∀ p ∈ l, RowIs w p := by
  rcases open_int_rows Tryd.underlying39 Tryd.underlying28 Tryd.underlying5 (by kernel_rfl) (by kernel_rfl) h with ⟨hcs, _⟩ | ⟨y, l, c, A, L, C, Z, hcs, _, hl, hm, _, hr⟩
  · simp [Value.cells] at hcs
    obtain ⟨rfl, rfl, rfl⟩ := hcs
    exact ⟨[], rfl, RsAt.nil w, fun _ h => (by simp at h)⟩
  · simp [Value.cells] at hcs
    obtain ⟨rfl, rfl, rfl⟩ := hcs
    have hm' : cap ≤ 9223372036854775807 := Nat.le_trans hm (by decide)
    refine ⟨(List.range len).map fun i => ⟨A i, L i, C i⟩, by rw [List.length_map, List.length_range], rs_ones _ hl hm' (fun i hi => (hr i (by omega)).1), fun p hp => ?_⟩
    obtain ⟨i, hi, rfl⟩ := List.mem_map.1 hp
    have hil := List.mem_range.1 hi
    obtain ⟨_, h1, h2, h3, h4, h5, h6⟩ := hr i (by omega)
    have hin : RowIn w (A i) (L i) (C i) (Z i) := by
      unfold RowIn
      cases hA : A i with
      | none =>
        have hc0 := h5 hA
        have hz0 : Z i = [] := List.eq_nil_of_length_eq_zero (by rw [h3, hc0])
        exact .inl ⟨rfl, by omega, hc0, hz0⟩
      | some y' => exact .inr ⟨y', rfl, h1, h2, h3, fun j hj => (h6 y' hA).2 j (by omega), h4⟩
    obtain ⟨b, hb1, hb2⟩ := open_sl hin
    exact ⟨b, hb1.symm, hb2⟩
end
end Go.Proofs.YthjjdcfkdmhmlaaDoor
