/-
  How an argument that is a slice of slices of numbers is opened.
-/
import Derived.Test.YtkkfolfplpafhaaKnown22
import Derived.Deep.Slices
import Derived.Deep.Fields
import Derived.ChangeSame
namespace Go.Proofs.Ytkkfolfplpafhaa
open Go.RowKit Go.ChangeShapes Go.WideShapes Go.Deep

section
variable {H : Type} {enc : TypeId × Value → H} {w : World}

theorem zcells_of {a : Addr} {zs : List Int} {n : Nat} (hn : n ≤ zs.length) (h : ∀ i, i < zs.length → w.cell? (a.add i) = some (.int .i64 (zs.getD i 0))) : Cells w (some a) (zcells (zs.take n)) := by
  refine And.intro (fun h => nomatch h) fun j hj => ?_
  rw [zcells_length, List.length_take] at hj
  have hjl : j < zs.length := by omega
  have := h j hjl
  show w.cell? (a.add j) = _
  rw [this, List.getD_eq_getElem?_getD, List.getElem?_eq_getElem hjl]
  simp [zcells]

theorem open_graph {a : Option Addr} {len cap fuel : Nat} {x : DataW H × List MemPlace} (h : DataW.trod enc Try.prog w 0 (fun _ => true) true fuel 22 (Value.slice a len cap).cells.toList = some x) :
    ∃ (g : List (List Int)) (es : List (Option Addr × Nat)), g.length = len ∧ GraphAt w a cap g es := by
  rcases open_slice Try.underlying22 h with ⟨hcs, _⟩ | ⟨y, l, c, m, n, D, Pl, hcs, _, hl, hmx, hm, _, hi⟩
  · simp [Value.cells] at hcs
    obtain ⟨rfl, rfl, rfl⟩ := hcs
    exact ⟨[], [], rfl, ⟨Nat.le_refl _, fun _ => rfl, ⟨fun _ => rfl, fun j hj => by simp [gcells] at hj⟩, fun i hi => by simp at hi, fun i hi => by simp at hi, fun i hi => by simp at hi⟩⟩
  · simp [Value.cells] at hcs
    obtain ⟨rfl, rfl, rfl⟩ := hcs
    have hC : Try.prog.cellsOf 24 = 1 := by kernel_rfl
    have hml : len ≤ m := by rw [hm]; simp; exact hl
    have key : ∀ i, ∃ r : (Option Addr × Nat) × List Int, i < len → w.cell? (y.add i) = some (.slice r.1.1 r.2.length r.1.2) ∧ Cells w r.1.1 (zcells r.2) ∧ r.2.length ≤ r.1.2 ∧ (r.1.1 = none → r.1.2 = 0) := by
      intro i
      by_cases hil : i < len
      · obtain ⟨cs', hc, ht⟩ := hi i (by omega)
        rw [hC, Nat.mul_one] at hc
        obtain ⟨_, hcl, hat⟩ := World.cells?_some hc
        have h0 := hat 0 (by omega)
        have hadd : (y.add i).add 0 = y.add i := by simp [Addr.add]
        rw [hadd] at h0
        rcases open_ints Try.underlying24 Try.underlying3 (by kernel_rfl) ht with ⟨hcs, _⟩ | ⟨z, l, c, zs, hcs, _, hl', hm', hz, _, hcell, _⟩
        · subst hcs
          exact ⟨((none, 0), []), fun _ => ⟨h0, ⟨fun _ => rfl, fun j hj => by simp [zcells] at hj⟩, Nat.le_refl _, fun _ => rfl⟩⟩
        · subst hcs
          have hzl : zs.length = c := by simpa using hz
          have htl : (zs.take l).length = l := by rw [List.length_take]; omega
          exact ⟨((some z, c), zs.take l), fun _ => ⟨by rw [htl]; exact h0, zcells_of (by omega) hcell, by rw [htl]; exact hl', fun h => nomatch h⟩⟩
      · exact ⟨((none, 0), []), fun h => absurd h hil⟩
    obtain ⟨F, hF⟩ := Classical.axiomOfChoice key
    have g1 : ∀ i, i < len → ((List.range len).map fun i => (F i).2).getD i [] = (F i).2 := fun i hi => by
      rw [List.getD_eq_getElem?_getD, List.getElem?_map, List.getElem?_range hi]; rfl
    have g2 : ∀ i, i < len → ((List.range len).map fun i => (F i).1).getD i (none, 0) = (F i).1 := fun i hi => by
      rw [List.getD_eq_getElem?_getD, List.getElem?_map, List.getElem?_range hi]; rfl
    have gl : ((List.range len).map fun i => (F i).2).length = len := by rw [List.length_map, List.length_range]
    refine ⟨_, (List.range len).map fun i => (F i).1, gl, ⟨by rw [gl]; exact hl, (fun h => nomatch h), ⟨(fun h => nomatch h), fun j hj => ?_⟩, fun i hi => ?_, fun i hi => ?_, fun i hi => ?_⟩⟩
    · rw [gcells_length, gl] at hj
      have h1 := (hF j hj).1
      show w.cell? (y.add j) = _
      rw [h1]
      simp only [gcells, List.getElem_map, List.getElem_range]
      rw [g1 j hj, g2 j hj]
    · rw [gl] at hi; rw [g1 i hi, g2 i hi]; exact (hF i hi).2.1
    · rw [gl] at hi; rw [g1 i hi, g2 i hi]; exact (hF i hi).2.2.1
    · rw [gl] at hi; rw [g2 i hi]; exact (hF i hi).2.2.2
end
end Go.Proofs.Ytkkfolfplpafhaa
