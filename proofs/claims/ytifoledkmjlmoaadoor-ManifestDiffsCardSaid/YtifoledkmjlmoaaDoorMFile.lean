/-
  A manifest's files: their cells; what a manifest may have.
-/
import Derived.Test.YtifoledkmjlmoaaDoorRecs
import Derived.Test.YtifoledkmjlmoaaDoorId
import Derived.Test.YtifoledkmjlmoaaDoorPath18
namespace Go.Proofs.YtifoledkmjlmoaaDoor
open Go.RowKit Go.Mix Go.WideMaps

structure MFile where
  path : List UInt8
  node : Id20
  flag : List UInt8
deriving DecidableEq
def mf0 : MFile := ⟨[], id0, []⟩
instance : Inhabited MFile := ⟨mf0⟩
def encM (x : MFile) : List Value := [.string (strOf x.path)] ++ idc x.node ++ [.string (strOf x.flag)]
theorem encM_len (x : MFile) : (encM x).length = 22 := by unfold encM; rw [List.length_append, List.length_append, idc_len]; rfl
theorem encM_one (x : MFile) : ∀ u ∈ encM x, u.oneCell' = true := fun u hu => by
  rcases List.mem_append.1 hu with h | h
  · rcases List.mem_append.1 h with h | h
    · simp at h; subst h; rfl
    · exact bcells_one _ u h
  · simp at h; subst h; rfl
set_option maxRecDepth 100000 in
theorem tyM : RecTy MFile encM 22 23 46 :=
  ⟨by decide, by decide, encM_len, encM_one, Tryd.underlying23, ⟨_, Tryd.underlying46⟩, fun w => by kernel_rfl, by kernel_rfl, ⟨(encM mf0).toArray, 56, by kernel_rfl, by rw [List.size_toArray, encM_len], by decide⟩⟩
set_option maxRecDepth 100000 in
theorem tyN : RecTy MFile encM 22 22 54 :=
  ⟨by decide, by decide, encM_len, encM_one, Tryd.underlying22, ⟨_, Tryd.underlying54⟩, fun w => by kernel_rfl, by kernel_rfl, ⟨(encM mf0).toArray, 56, by kernel_rfl, by rw [List.size_toArray, encM_len], by decide⟩⟩
/-- A file's fields where it lies. -/
theorem mf_fields {w : World} {b q : Nat} {x : MFile} (h : w.rangeAt b q (encM x)) :
    w.cell? ⟨b, q, none⟩ = some (.string (strOf x.path)) ∧ w.rangeAt b (q + 1) (idc x.node) ∧ w.cell? ⟨b, q + 21, none⟩ = some (.string (strOf x.flag)) := by
  obtain ⟨h1, h3⟩ := rangeR_append.1 h
  obtain ⟨h1, h2⟩ := rangeR_append.1 h1
  refine ⟨by simpa using h1 0 _ rfl, h2, ?_⟩
  have := h3 0 _ rfl
  rw [List.length_append, idc_len] at this
  simpa using this

/-! ### What a manifest may have -/
def flagB (f : List UInt8) : Bool := decide (f = []) || decide (f = [120]) || decide (f = [108])
def pathsM (l : List MFile) (x : List UInt8) : Bool := l.any fun p => decide (p.path = x)
theorem take_succM {l : List MFile} {i : Nat} (h : i < l.length) : l.take (i + 1) = l.take i ++ [l[i]!] := by
  rw [List.take_succ_eq_append_getElem h, getElem!_pos l i h]
theorem pathsM_succ {l : List MFile} {i : Nat} (h : i < l.length) : pathsM (l.take (i + 1)) = fun x => pathsM (l.take i) x || decide (x = l[i]!.path) := by
  funext x; unfold pathsM; rw [take_succM h, List.any_append]
  congr 1
  simp only [List.any_cons, List.any_nil, Bool.or_false]
  rw [Bool.eq_iff_iff, decide_eq_true_eq, decide_eq_true_eq]; exact eq_comm
def stepM (l : List MFile) (i : Nat) : Bool := pathL l[i]!.path && flagB l[i]!.flag && (!decide (0 < i) || Op.bytesLess l[i - 1]!.path l[i]!.path)
/-- No file's folder is a file. -/
def noDir (l : List MFile) (p : List UInt8) : Prop := ∀ j, j < p.length → p[j]? = some 47 → pathsM l (p.take j) = false
def RightM (l : List MFile) : Prop := (∀ i, i < l.length → stepM l i = true) ∧ ∀ i, i < l.length → noDir l l[i]!.path
end Go.Proofs.YtifoledkmjlmoaaDoor
