/-
  How arguments are opened: arrays of bytes; slices whatever their elements.
-/
import Derived.Test.YtnlkanhakmkejaaDoorBase
import Derived.WideKeyArr2
namespace Go.Proofs.YtnlkanhakmkejaaDoor
open Go.RowKit Go.ChangeShapes Go.WideShapes

section
variable {H : Type} {enc : TypeId × Value → H} {P : Program} {w : World} {base : Nat} {sp : Nat → Bool} {held : Bool}

theorem byte_of_wf {n : Int} (h : (Lit.int .u8 n).wf = true) : ∃ b : UInt8, n = (b.toNat : Int) := by
  simp [Lit.wf, IntKind.min, IntKind.max, IntKind.signed, IntKind.bits] at h
  exact ⟨UInt8.ofNat n.toNat, by simp; omega⟩

/-- The cells of an array of n bytes. -/
theorem trod_bytes {t e : TypeId} {n fuel : Nat} {cs : List Value} {x : DataW H × List MemPlace} (ht : P.underlying t = some (.array n e)) (he : P.underlying e = some (.int .u8)) (hc : P.cellsOf e = 1) (hct : P.cellsOf t = n)
    (h : DataW.trod enc P w base sp held fuel t cs = some x) : ∃ l : List UInt8, l.length = n ∧ cs = bcells l := by
  obtain ⟨xs, m, rfl, rfl, hlen, hxs, hel⟩ := DataW.trod_array ht h
  rw [hct] at hlen
  have each : ∀ i, i < n → ∃ b : UInt8, cs[i]? = some (.int .u8 (b.toNat : Int)) := fun i hi => by
    have h1 := hel i hi
    rw [hc, Nat.mul_one, List.getElem?_eq_getElem (by omega)] at h1
    obtain ⟨n', e0, _, hw⟩ := DataW.trod_int he h1
    obtain ⟨b, rfl⟩ := byte_of_wf hw
    refine ⟨b, ?_⟩
    have h2 : ((cs.drop i).take 1)[0]? = some (.int .u8 (b.toNat : Int)) := by rw [e0]; rfl
    rw [List.getElem?_take, if_pos (by decide), List.getElem?_drop, Nat.add_zero] at h2
    exact h2
  have key : ∀ (k : Nat), k ≤ n → ∃ l : List UInt8, l.length = k ∧ cs.take k = bcells l := by
    intro k
    induction k with
    | zero => intro _; exact ⟨[], rfl, by simp [bcells]⟩
    | succ k ih =>
      intro hk
      obtain ⟨l, hl, e1⟩ := ih (by omega)
      obtain ⟨b, hb⟩ := each k (by omega)
      refine ⟨l ++ [b], by simp [hl], ?_⟩
      rw [List.take_add_one, e1, hb, bcells_append]; rfl
  obtain ⟨l, hl, e1⟩ := key n (Nat.le_refl _)
  rw [List.take_of_length_le (by omega)] at e1
  exact ⟨l, hl, e1⟩

theorem open_bytes {t e : TypeId} {n : Nat} {r : Reach} {b0 : Nat} {v : Value} {d : DataW H} {ps : List MemPlace} (ht : P.underlying t = some (.array n e)) (he : P.underlying e = some (.int .u8)) (hc : P.cellsOf e = 1) (hct : P.cellsOf t = n)
    (hv : Value.okWide P w r b0 t v) (h : DataW.Trod enc P w base sp held t v d ps) : ∃ l : List UInt8, l.length = n ∧ v = .agg (bcells l).toArray := by
  simp only [Value.okWide, ht] at hv
  obtain ⟨cs, rfl, _, _⟩ := hv
  obtain ⟨fuel, hf⟩ := h
  obtain ⟨l, hl, e1⟩ := trod_bytes ht he hc hct hf
  refine ⟨l, hl, ?_⟩
  rw [← e1]
  simp [Value.cells]

end
end Go.Proofs.YtnlkanhakmkejaaDoor
