/-
  A tree's entries: their cells.
-/
import Derived.Test.YtbllpjphlanchaaRecs
import Derived.Test.YtbllpjphlanchaaId
import Derived.Test.YtbllpjphlanchaaStr
namespace Go.Proofs.Ytbllpjphlanchaa
open Go.RowKit Go.Mix Go.WideMaps

structure Ent where
  mode : Int
  name : List UInt8
  id : Id20
deriving DecidableEq
def ent0 : Ent := ⟨0, [], id0⟩
instance : Inhabited Ent := ⟨ent0⟩
def encE (x : Ent) : List Value := [.int .i64 x.mode, .string (strOf x.name)] ++ idc x.id
theorem encE_len (x : Ent) : (encE x).length = 22 := by unfold encE; rw [List.length_append, idc_len]; rfl
theorem encE_one (x : Ent) : ∀ u ∈ encE x, u.oneCell' = true := fun u hu => by
  rcases List.mem_append.1 hu with h | h
  · simp at h; rcases h with rfl | rfl <;> rfl
  · exact bcells_one _ u h
theorem tyE : RecTy Ent encE 22 23 40 :=
  ⟨by decide, by decide, encE_len, encE_one, Try.underlying23, ⟨_, Try.underlying40⟩, fun w => by kernel_rfl, by kernel_rfl, ⟨(encE ent0).toArray, 48, by kernel_rfl, by rw [List.size_toArray, encE_len], by decide⟩⟩
theorem tyF : RecTy Ent encE 22 22 43 :=
  ⟨by decide, by decide, encE_len, encE_one, Try.underlying22, ⟨_, Try.underlying43⟩, fun w => by kernel_rfl, by kernel_rfl, ⟨(encE ent0).toArray, 48, by kernel_rfl, by rw [List.size_toArray, encE_len], by decide⟩⟩

/-- An entry's fields where it lies. -/
theorem ent_fields {w : World} {b q : Nat} {x : Ent} (h : w.rangeAt b q (encE x)) :
    w.cell? ⟨b, q, none⟩ = some (.int .i64 x.mode) ∧ w.cell? ⟨b, q + 1, none⟩ = some (.string (strOf x.name)) ∧ w.rangeAt b (q + 2) (idc x.id) := by
  obtain ⟨h1, h2⟩ := rangeR_append.1 h
  exact ⟨by simpa using h1 0 _ rfl, h1 1 _ rfl, h2⟩
end Go.Proofs.Ytbllpjphlanchaa
