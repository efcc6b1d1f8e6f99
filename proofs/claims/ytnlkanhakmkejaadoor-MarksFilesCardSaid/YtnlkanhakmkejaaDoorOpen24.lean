/-
  How an argument that is a slice of pairs is opened.
-/
import Derived.Test.YtnlkanhakmkejaaDoorPr24
import Derived.Test.YtnlkanhakmkejaaDoorOpen
import Derived.Deep.Slices
import Derived.Deep.Fields
import Derived.ChangeSame
namespace Go.Proofs.YtnlkanhakmkejaaDoor
open Go.RowKit Go.ChangeShapes Go.WideShapes Go.Deep

section
variable {H : Type} {enc' : TypeId × Value → H} {w : World}

set_option maxRecDepth 100000 in
theorem open_id {t : TypeId} {r : Reach} {b0 base : Nat} {sp : Nat → Bool} {held : Bool} {v : Value} {d : DataW H} {ps : List MemPlace} (ht : Tryd.prog.underlying t = some (.array 20 5)) (hct : Tryd.prog.cellsOf t = 20)
    (hv : Value.okWide Tryd.prog w r b0 t v) (h : DataW.Trod enc' Tryd.prog w base sp held t v d ps) : ∃ x : Id20, v = .agg (idA x) := by
  obtain ⟨l, hl, e⟩ := open_bytes ht Tryd.underlying5 (by kernel_rfl) hct hv h
  exact ⟨⟨l, hl⟩, e⟩

theorem plain_of_int {w : World} {y : Addr} {k : IntKind} {z : Int} (h : w.cell? y = some (.int k z)) : ∃ b o, y = ⟨b, o, none⟩ := by
  obtain ⟨yb, yo, ys⟩ := y
  simp only [World.cell?] at h
  cases ys with
  | none => exact ⟨yb, yo, rfl⟩
  | some z => split at h <;> simp at h

set_option maxRecDepth 100000 in
theorem open_pairs {a : Option Addr} {len cap fuel : Nat} {x : DataW H × List MemPlace} (h : DataW.trod enc' Tryd.prog w 0 (fun _ => true) true fuel 22 (Value.slice a len cap).cells.toList = some x) :
    ∃ l : List Pr, l.length = len ∧ PsAt w a cap l := by
  rcases open_slice Tryd.underlying22 h with ⟨hcs, _⟩ | ⟨y, l, c, m, n, D, Pl, hcs, _, hl, hmx, hm, _, hi⟩
  · simp [Value.cells] at hcs
    obtain ⟨rfl, rfl, rfl⟩ := hcs
    exact ⟨[], rfl, PsAt.nil w⟩
  · simp [Value.cells] at hcs
    obtain ⟨rfl, rfl, rfl⟩ := hcs
    have hC : Tryd.prog.cellsOf 48 = 40 := by kernel_rfl
    have hC2 : Tryd.prog.cellsOf 45 = 20 := by kernel_rfl
    have hml : len ≤ m := by rw [hm]; simp; exact hl
    have hbig : cap ≤ 9223372036854775807 := by unfold maxLen at hmx; omega
    have key : ∀ i, ∃ p : Pr, i < len → ∀ j v, (enc p)[j]? = some v → w.cell? ((y.add (i * 40)).add j) = some v := by
      intro i
      by_cases hil : i < len
      · obtain ⟨cs', hc, ht⟩ := hi i (by omega)
        rw [hC] at hc
        obtain ⟨_, hcl, hat⟩ := World.cells?_some hc
        obtain ⟨y0, y1, k, -, -, h0, h1⟩ := trod_struct2 Tryd.underlying48 ht
        simp only [hC2] at h0 h1
        obtain ⟨l0, hl0, e0⟩ := trod_bytes Tryd.underlying45 Tryd.underlying5 (by kernel_rfl) hC2 h0
        obtain ⟨l1, hl1, e1⟩ := trod_bytes Tryd.underlying45 Tryd.underlying5 (by kernel_rfl) hC2 h1
        refine ⟨(⟨l0, hl0⟩, ⟨l1, hl1⟩), fun _ j v hj => ?_⟩
        have hjl : j < 40 := by have := (List.getElem?_eq_some_iff.1 hj).1; rw [enc_len] at this; exact this
        rw [hat j hjl]
        have ecs : cs' = bcells l0 ++ bcells l1 := by
          rw [← e0, ← e1]
          rw [List.drop_zero, List.take_of_length_le (i := 20) (l := List.drop 20 cs') (by rw [List.length_drop]; omega), List.take_append_drop]
        rw [ecs]; exact hj
      · exact ⟨default, fun h => absurd h hil⟩
    obtain ⟨F, hF⟩ := Classical.axiomOfChoice key
    have gl : ((List.range len).map F).length = len := by rw [List.length_map, List.length_range]
    refine ⟨(List.range len).map F, gl, ⟨by rw [gl]; exact hl, hbig, (fun h => nomatch h), ?_⟩⟩
    by_cases h0 : len = 0
    · subst h0; exact .inl rfl
    · obtain ⟨z, hz⟩ : ∃ z : UInt8, (enc (F 0))[0]? = some (.int .u8 (z.toNat : Int)) := by
        have hl := (F 0).1.2
        cases hb : (F 0).1.1 with
        | nil => rw [hb] at hl; cases hl
        | cons b r => exact ⟨b, by unfold enc idc; rw [hb]; rfl⟩
      have hp := plain_of_int (hF 0 (by omega) 0 _ hz)
      obtain ⟨yb, yo, ys⟩ := y
      have hys : ys = none := by
        obtain ⟨b, o, e⟩ := hp
        revert e
        simp only [Addr.add]
        cases ys <;> simp
      subst hys
      refine .inr ⟨yb, yo, rfl, fun j hj k v hk => ?_⟩
      rw [gl] at hj
      have e1 : ((List.range len).map F)[j]! = F j := by
        rw [getElem!_pos _ j (by rw [gl]; exact hj)]; simp
      rw [e1] at hk
      have := hF j hj k v hk
      rw [Addr.add_mid, Addr.add_mid] at this
      exact this
end
end Go.Proofs.YtnlkanhakmkejaaDoor
