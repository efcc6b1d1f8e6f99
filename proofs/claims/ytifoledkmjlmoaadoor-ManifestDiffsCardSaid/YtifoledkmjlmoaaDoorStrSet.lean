/-
  Sets of texts: map[string]bool.
-/
import Derived.Test.YtifoledkmjlmoaaDoorStr
import Derived.Maps.OwnSet
import Derived.Maps.OwnOps
namespace Go.Proofs.YtifoledkmjlmoaaDoor
open Go.RowKit Go.Mix Go.Maps Go.WideMaps

theorem plainElem_bool_inv {P : Program} {e : TypeId} (he : P.underlying e = some .bool) {v : Value} {z : DataW Unit × List MemPlace} (h : plainElem P e v = some z) : ∃ x, v = .bool x ∧ z = (.lit (.bool x), []) := by
  unfold plainElem at h
  rw [he] at h
  cases v <;> simp at h
  exact ⟨_, rfl, h.symm⟩
theorem zeroB (w : World) : (zeroValue 4).run Tryd.prog w = .ok (.bool false) w := by kernel_rfl
theorem strKeyed : Keyed Tryd.prog 9 := string_keyed Tryd.underlying9
theorem key_str (x : List UInt8) (h : x.length ≤ 1000000) : keyOf Tryd.prog 9 (.string (strOf x)) = some (.string x) := keyOf_string_mk Tryd.underlying9 (by rw [strOf_size]; unfold maxLen; omega)

/-- What the set of texts holds. -/
def StrsAre (D : DataW Unit) (S : List UInt8 → Bool) : Prop := IsMap D ∧ ∀ x : List UInt8, D.atKey (.string x) (.lit (.bool false)) = .lit (.bool (S x))
theorem strs_start : StrsAre (.map []) (fun _ => false) := ⟨isMap_empty, fun z => by simp; rfl⟩
theorem strs_put {D : DataW Unit} {S : List UInt8 → Bool} (h : StrsAre D S) (y : List UInt8) : StrsAre (D.put (.string y) (.lit (.bool true))) (fun x => S x || decide (x = y)) := by
  refine ⟨h.1.put _ _, fun x => ?_⟩
  by_cases hz : x = y
  · subst hz
    rw [atKey_put_same h.1 (show WideAt.IsKeyLit (.string x) from trivial)]
    simp
  · rw [atKey_put_other (fun e => hz (by injection e)), h.2 x]
    simp [hz]
set_option maxRecDepth 100000 in
theorem strs_look {w : World} {MB n : Nat} {D : DataW Unit} {S : List UInt8 → Bool} (h : w.ownsMap Tryd.prog 9 (plainElem Tryd.prog 4) MB n D) (hD : StrsAre D S) (x : List UInt8) (hx : x.length ≤ 1000000) :
    (Instr.lookup 76 (.map (some MB)) (.string (strOf x)) false).run Tryd.prog w = .ok (.bool (S x)) w := by
  obtain ⟨v, ps, hrun, hv⟩ := h.lookup strKeyed Tryd.underlying76 (zeroB w) (plainElem_bool Tryd.underlying4 false) (key_str x hx)
  obtain ⟨b, rfl, hx⟩ := plainElem_bool_inv Tryd.underlying4 hv
  rw [hD.2 x] at hx
  simp only [Prod.mk.injEq] at hx
  have h1 := hx.1
  injection h1 with h1
  injection h1 with h1
  rw [hrun, ← h1]
end Go.Proofs.YtifoledkmjlmoaaDoor
