/-
  Slices of texts.
-/
import Derived.Test.YtnlkanhakmkejaaDoorOnes
import Derived.Test.YtnlkanhakmkejaaDoorStr
namespace Go.Proofs.YtnlkanhakmkejaaDoor
open Go.RowKit Go.Mix

def strV (x : List UInt8) : Value := .string (strOf x)
theorem tyS : OneTy (List UInt8) strV 32 9 :=
  ⟨fun _ => rfl, Tryd.underlying32, fun w => by kernel_rfl, by kernel_rfl, ⟨.string ByteArray.empty, 16, by kernel_rfl, rfl, by decide⟩, fun w b o x h => by
    unfold strV at h ⊢
    go_simp⟩
/-- Strings' cells. -/
abbrev encS : List UInt8 → List Value := one1 strV
theorem flat_texts (l : List (List UInt8)) : flatR encS l = l.map strV := by
  unfold flatR encS one1
  induction l with
  | nil => rfl
  | cons x l ih => rw [List.flatMap_cons, List.map_cons, ih]; rfl
/-- Texts that lie in a block. -/
theorem texts_block {w : World} {g : Nat} {t : TypeId} {fr : Nat × Nat} {l : List (List UInt8)} (hb : w.heap[g]? = some (.cells (l.map strV).toArray t fr)) (hl : l.length ≤ 9223372036854775807) : RsAt encS 1 w (some ⟨g, 0, none⟩) l.length l :=
  ⟨Nat.le_refl _, hl, (fun h => nomatch h), .inr ⟨g, 0, rfl, (tyS.range_flat l 0).1 fun j v hj => by
    rw [cell_of_row _ _ _ _ _ _ hb, Nat.zero_add]
    rw [flat_texts] at hj
    simpa using hj⟩⟩
end Go.Proofs.YtnlkanhakmkejaaDoor
