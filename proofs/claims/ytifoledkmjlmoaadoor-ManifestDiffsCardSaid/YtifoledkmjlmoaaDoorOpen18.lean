/-
  How an argument that is a slice of files is opened.
-/
import Derived.Test.YtifoledkmjlmoaaDoorCmp18
import Derived.Test.YtifoledkmjlmoaaDoorOpen
import Derived.Deep.Slices
import Derived.Deep.Strs
import Derived.Deep.Fields
import Derived.ChangeSame
import Derived.Deep.Grids
namespace Go.Proofs.YtifoledkmjlmoaaDoor
open Go.RowKit Go.ChangeShapes Go.WideShapes Go.Deep

section
variable {H : Type} {enc' : TypeId × Value → H} {w : World}

theorem plain_of_str {w : World} {y : Addr} {z : ByteArray} (h : w.cell? y = some (.string z)) : ∃ b o, y = ⟨b, o, none⟩ := by
  obtain ⟨yb, yo, ys⟩ := y
  simp only [World.cell?] at h
  cases ys with
  | none => exact ⟨yb, yo, rfl⟩
  | some z => split at h <;> simp at h

theorem open_files {a : Option Addr} {len cap fuel : Nat} {x : DataW H × List MemPlace} (h : DataW.trod enc' Tryd.prog w 0 (fun _ => true) true fuel 22 (Value.slice a len cap).cells.toList = some x) :
    ∃ l : List MFile, l.length = len ∧ RsAt encM 22 w a cap l ∧ ∀ p ∈ l, p.path.length ≤ 9223372036854775807 ∧ p.flag.length ≤ 9223372036854775807 := by
  rcases open_slice Tryd.underlying22 h with ⟨hcs, _⟩ | ⟨y, l, c, m, n, D, Pl, hcs, _, hl, hmx, hm, _, hi⟩
  · simp [Value.cells] at hcs
    obtain ⟨rfl, rfl, rfl⟩ := hcs
    exact ⟨[], rfl, RsAt.nil w, fun _ h => (by simp at h)⟩
  · simp [Value.cells] at hcs
    obtain ⟨rfl, rfl, rfl⟩ := hcs
    have hC : Tryd.prog.cellsOf 54 = 22 := by kernel_rfl
    have hC1 : Tryd.prog.cellsOf 9 = 1 := by kernel_rfl
    have hC2 : Tryd.prog.cellsOf 43 = 20 := by kernel_rfl
    have hml : len ≤ m := by rw [hm]; simp; exact hl
    have hbig : cap ≤ 9223372036854775807 := Nat.le_trans hmx (by decide)
    have key : ∀ i, ∃ p : MFile, i < len → (p.path.length ≤ 9223372036854775807 ∧ p.flag.length ≤ 9223372036854775807) ∧ ∀ j v, (encM p)[j]? = some v → w.cell? ((y.add (i * 22)).add j) = some v := by
      intro i
      by_cases hil : i < len
      · obtain ⟨cs', hc, ht⟩ := hi i (by omega)
        rw [hC] at hc
        obtain ⟨_, hcl, hat⟩ := World.cells?_some hc
        obtain ⟨y0, y1, y2, k, -, -, h0, h1, h2⟩ := trod_struct3 Tryd.underlying54 ht
        simp only [hC1, hC2] at h0 h1 h2
        have hsl : ∀ s : ByteArray, s.size ≤ maxLen → s.data.toList.length ≤ 9223372036854775807 := fun s w1 => by
          have e : s.data.toList.length = s.size := Array.length_toList
          have e2 : maxLen = 9223372036854775807 := by decide
          rw [e]; rw [e2] at w1; exact w1
        obtain ⟨s, e0, -, w0⟩ := DataW.trod_string Tryd.underlying9 h0
        obtain ⟨l2, hl2, e1⟩ := trod_bytes Tryd.underlying43 Tryd.underlying5 (by kernel_rfl) hC2 h1
        obtain ⟨s2, e2, -, w2⟩ := DataW.trod_string Tryd.underlying9 h2
        refine ⟨⟨s.data.toList, ⟨l2, hl2⟩, s2.data.toList⟩, fun _ => ⟨⟨hsl s w0, hsl s2 w2⟩, fun j v hj => ?_⟩⟩
        have hjl : j < 22 := by have := (List.getElem?_eq_some_iff.1 hj).1; rw [encM_len] at this; exact this
        rw [hat j hjl]
        have ecs : cs' = [.string s] ++ bcells l2 ++ [.string s2] := by
          have s3 : cs' = (cs'.drop 0).take 1 ++ ((cs'.drop 1).take 20 ++ (cs'.drop 21).take 1) := by
            rw [List.take_of_length_le (i := 1) (l := List.drop 21 cs') (by rw [List.length_drop]; omega), List.drop_zero]
            rw [show cs'.drop 21 = (cs'.drop 1).drop 20 by rw [List.drop_drop], List.take_append_drop, List.take_append_drop]
          rw [s3, e0, e1, e2, List.append_assoc]
        have es : ∀ s : ByteArray, strOf s.data.toList = s := fun s => by cases s; simp [strOf]
        rw [ecs]
        have he : encM ⟨s.data.toList, ⟨l2, hl2⟩, s2.data.toList⟩ = [.string s] ++ bcells l2 ++ [.string s2] := by unfold encM; rw [es, es]; rfl
        rw [he] at hj; exact hj
      · exact ⟨default, fun h => absurd h hil⟩
    obtain ⟨F, hF⟩ := Classical.axiomOfChoice key
    have gl : ((List.range len).map F).length = len := by rw [List.length_map, List.length_range]
    refine ⟨(List.range len).map F, gl, ⟨by rw [gl]; exact hl, hbig, (fun h => nomatch h), ?_⟩, fun p hp => ?_⟩
    · by_cases h0 : len = 0
      · subst h0; exact .inl rfl
      · have hp := plain_of_str ((hF 0 (by omega)).2 0 _ rfl)
        obtain ⟨yb, yo, ys⟩ := y
        have hys : ys = none := by
          obtain ⟨b, o, e⟩ := hp
          revert e
          simp only [Addr.add]
          cases ys <;> simp
        subst hys
        refine .inr ⟨yb, yo, rfl, fun j hj k v hk => ?_⟩
        rw [gl] at hj
        have e1 : ((List.range len).map F)[j]! = F j := by
          rw [getElem!_pos _ j (by rw [gl]; exact hj)]; simp
        rw [e1] at hk
        have := (hF j hj).2 k v hk
        rw [Addr.add_mid, Addr.add_mid] at this
        exact this
    · obtain ⟨i, hi, rfl⟩ := List.mem_map.1 hp
      exact (hF i (List.mem_range.1 hi)).1

/-- How an argument that is a slice of bools is opened. -/
theorem open_which {t e : TypeId} (ht : Tryd.prog.underlying t = some (.slice e)) (he : Tryd.prog.underlying e = some .bool) (hc : Tryd.prog.cellsOf e = 1) {a : Option Addr} {len cap fuel : Nat} {x : DataW H × List MemPlace}
    (h : DataW.trod enc' Tryd.prog w 0 (fun _ => true) true fuel t (Value.slice a len cap).cells.toList = some x) :
    ∃ B : Nat → Bool, len ≤ 9223372036854775807 ∧ (len = 0 ∨ ∃ y, a = some y ∧ ∀ i, i < len → w.cell? (y.add i) = some (.bool (B i))) := by
  rcases open_bools ht he hc h with ⟨hcs, _⟩ | ⟨y, l, c, B, hcs, _, hl, hm, _, hcell⟩
  · simp [Value.cells] at hcs
    obtain ⟨rfl, rfl, rfl⟩ := hcs
    exact ⟨fun _ => false, by decide, .inl rfl⟩
  · simp [Value.cells] at hcs
    obtain ⟨rfl, rfl, rfl⟩ := hcs
    exact ⟨B, Nat.le_trans (Nat.le_trans hl hm) (by decide), .inr ⟨y, rfl, fun i hi => hcell i (Nat.lt_of_lt_of_le hi hl)⟩⟩
end
end Go.Proofs.YtifoledkmjlmoaaDoor
