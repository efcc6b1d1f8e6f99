/-
  How an argument that is a slice of entries is opened.
-/
import Derived.Test.YtbllpjphlanchaaEqE
import Derived.Test.YtbllpjphlanchaaOpen
import Derived.Deep.Slices
import Derived.Deep.Strs
import Derived.Deep.Fields
import Derived.ChangeSame
import Derived.Deep.Grids
namespace Go.Proofs.Ytbllpjphlanchaa
open Go.RowKit Go.ChangeShapes Go.WideShapes Go.Deep

section
variable {H : Type} {enc' : TypeId × Value → H} {w : World}

theorem plain_of_int {w : World} {y : Addr} {k : IntKind} {z : Int} (h : w.cell? y = some (.int k z)) : ∃ b o, y = ⟨b, o, none⟩ := by
  obtain ⟨yb, yo, ys⟩ := y
  simp only [World.cell?] at h
  cases ys with
  | none => exact ⟨yb, yo, rfl⟩
  | some z => split at h <;> simp at h

theorem open_ents {a : Option Addr} {len cap fuel : Nat} {x : DataW H × List MemPlace} (h : DataW.trod enc' Try.prog w 0 (fun _ => true) true fuel 22 (Value.slice a len cap).cells.toList = some x) :
    ∃ l : List Ent, l.length = len ∧ RsAt encE 22 w a cap l ∧ ∀ p ∈ l, (Lit.int .i64 p.mode).wf = true ∧ p.name.length ≤ 9223372036854775807 := by
  rcases open_slice Try.underlying22 h with ⟨hcs, _⟩ | ⟨y, l, c, m, n, D, Pl, hcs, _, hl, hmx, hm, _, hi⟩
  · simp [Value.cells] at hcs
    obtain ⟨rfl, rfl, rfl⟩ := hcs
    exact ⟨[], rfl, RsAt.nil w, fun _ h => (by simp at h)⟩
  · simp [Value.cells] at hcs
    obtain ⟨rfl, rfl, rfl⟩ := hcs
    have hC : Try.prog.cellsOf 43 = 22 := by kernel_rfl
    have hC0 : Try.prog.cellsOf 3 = 1 := by kernel_rfl
    have hC1 : Try.prog.cellsOf 9 = 1 := by kernel_rfl
    have hC2 : Try.prog.cellsOf 37 = 20 := by kernel_rfl
    have hml : len ≤ m := by rw [hm]; simp; exact hl
    have hbig : cap ≤ 9223372036854775807 := Nat.le_trans hmx (by decide)
    have key : ∀ i, ∃ p : Ent, i < len → ((Lit.int .i64 p.mode).wf = true ∧ p.name.length ≤ 9223372036854775807) ∧ ∀ j v, (encE p)[j]? = some v → w.cell? ((y.add (i * 22)).add j) = some v := by
      intro i
      by_cases hil : i < len
      · obtain ⟨cs', hc, ht⟩ := hi i (by omega)
        rw [hC] at hc
        obtain ⟨_, hcl, hat⟩ := World.cells?_some hc
        obtain ⟨y0, y1, y2, k, -, -, h0, h1, h2⟩ := trod_struct3 Try.underlying43 ht
        simp only [hC0, hC1, hC2] at h0 h1 h2
        have hsl : ∀ s : ByteArray, s.size ≤ maxLen → s.data.toList.length ≤ 9223372036854775807 := fun s w1 => by
          have e : s.data.toList.length = s.size := Array.length_toList
          have e2 : maxLen = 9223372036854775807 := by decide
          rw [e]; rw [e2] at w1; exact w1
        obtain ⟨z, e0, -, w0⟩ := DataW.trod_int Try.underlying3 h0
        obtain ⟨s, e1, -, w1⟩ := DataW.trod_string Try.underlying9 h1
        obtain ⟨l2, hl2, e2⟩ := trod_bytes Try.underlying37 Try.underlying5 (by kernel_rfl) hC2 h2
        refine ⟨⟨z, s.data.toList, ⟨l2, hl2⟩⟩, fun _ => ⟨⟨w0, hsl s w1⟩, fun j v hj => ?_⟩⟩
        have hjl : j < 22 := by have := (List.getElem?_eq_some_iff.1 hj).1; rw [encE_len] at this; exact this
        rw [hat j hjl]
        have ecs : cs' = [.int .i64 z, .string s] ++ bcells l2 := by
          have s3 : cs' = (cs'.drop 0).take 1 ++ ((cs'.drop 1).take 1 ++ (cs'.drop 2).take 20) := by
            rw [List.take_of_length_le (i := 20) (l := List.drop 2 cs') (by rw [List.length_drop]; omega), List.drop_zero]
            rw [show cs'.drop 2 = (cs'.drop 1).drop 1 by rw [List.drop_drop], List.take_append_drop, List.take_append_drop]
          rw [s3, e0, e1, e2]; rfl
        have es : strOf s.data.toList = s := by cases s; simp [strOf]
        rw [ecs]
        have he : encE ⟨z, s.data.toList, ⟨l2, hl2⟩⟩ = [.int .i64 z, .string s] ++ bcells l2 := by unfold encE; rw [es]; rfl
        rw [he] at hj; exact hj
      · exact ⟨default, fun h => absurd h hil⟩
    obtain ⟨F, hF⟩ := Classical.axiomOfChoice key
    have gl : ((List.range len).map F).length = len := by rw [List.length_map, List.length_range]
    refine ⟨(List.range len).map F, gl, ⟨by rw [gl]; exact hl, hbig, (fun h => nomatch h), ?_⟩, fun p hp => ?_⟩
    · by_cases h0 : len = 0
      · subst h0; exact .inl rfl
      · have hp := plain_of_int ((hF 0 (by omega)).2 0 _ rfl)
        obtain ⟨yb, yo, ys⟩ := y
        have hys : ys = none := by
          obtain ⟨b, o, e⟩ := hp
          revert e
          simp only [Addr.add]
          cases ys <;> simp
        subst hys
        refine .inr ⟨yb, yo, rfl, fun j hj k v hk => ?_⟩
        rw [gl] at hj
        have e1 : ((List.range len).map F)[j]! = F j := by
          rw [getElem!_pos _ j (by rw [gl]; exact hj)]; simp
        rw [e1] at hk
        have := (hF j hj).2 k v hk
        rw [Addr.add_mid, Addr.add_mid] at this
        exact this
    · obtain ⟨i, hi, rfl⟩ := List.mem_map.1 hp
      exact (hF i (List.mem_range.1 hi)).1

/-- How an argument that is a slice of bools is opened. -/
theorem open_which {t e : TypeId} (ht : Try.prog.underlying t = some (.slice e)) (he : Try.prog.underlying e = some .bool) (hc : Try.prog.cellsOf e = 1) {a : Option Addr} {len cap fuel : Nat} {x : DataW H × List MemPlace}
    (h : DataW.trod enc' Try.prog w 0 (fun _ => true) true fuel t (Value.slice a len cap).cells.toList = some x) :
    ∃ B : Nat → Bool, len ≤ 9223372036854775807 ∧ (len = 0 ∨ ∃ y, a = some y ∧ ∀ i, i < len → w.cell? (y.add i) = some (.bool (B i))) := by
  rcases open_bools ht he hc h with ⟨hcs, _⟩ | ⟨y, l, c, B, hcs, _, hl, hm, _, hcell⟩
  · simp [Value.cells] at hcs
    obtain ⟨rfl, rfl, rfl⟩ := hcs
    exact ⟨fun _ => false, by decide, .inl rfl⟩
  · simp [Value.cells] at hcs
    obtain ⟨rfl, rfl, rfl⟩ := hcs
    exact ⟨B, Nat.le_trans (Nat.le_trans hl hm) (by decide), .inr ⟨y, rfl, fun i hi => hcell i (Nat.lt_of_lt_of_le hi hl)⟩⟩
end
end Go.Proofs.Ytbllpjphlanchaa
