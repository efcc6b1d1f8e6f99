/-
  tree.thought: the walk.
-/
import Derived.Test.YtbllpjphlanchaaModeOf
import Derived.Laws.Concat
namespace Go.Proofs.Ytbllpjphlanchaa
open Go.RowKit Go.Mix Go.WideMaps

/-- An entry's name as it is ordered. -/
def thoughtL (x : Ent) : List UInt8 := if x.mode = 16384 then x.name ++ [47] else x.name

set_option maxRecDepth 100000 in
set_option maxHeartbeats 2000000 in
theorem thought_any (x : Ent) (hn : x.name.length ≤ 1000000) (w : World) : Calls Try.prog 31 #[.agg (recA encE x)] w fun e w' => e = .returned (.string (strOf (thoughtL x))) ∧ Below w.heap.size w w' := by
  have hbox : (w.alloc (.cells (recA encE x) 40)).rangeAt w.heap.size 0 (encE x) := fun j v hj => by
    have hb : (w.alloc (.cells (recA encE x) 40)).heap[w.heap.size]? = some (.cells (recA encE x) 40 (0, 0)) := heap_alloc_last w _ _ rfl
    rw [cell_of_row _ _ _ _ _ _ hb, Nat.zero_add]
    simpa [recA] using hj
  obtain ⟨c0, c1, -⟩ := ent_fields hbox
  rw [Nat.zero_add] at c1
  have hb : Below w.heap.size w (w.alloc (.cells (recA encE x) 40)) := (Below.refl _ _).alloc (Nat.le_refl _) _
  have HB := Lib.hid hb
  have A : ∀ W, (Op.stringOp .add (strOf x.name) ⟨#[47]⟩).run Try.prog W = .ok (.string (strOf (x.name ++ [47]))) W := fun W => Go.run_string_add_lists (P := Try.prog) W x.name [47] (by omega) (by decide)
  have HT : Hid ((x.mode = 16384 → strOf (thoughtL x) = strOf (x.name ++ [47])) ∧ (x.mode ≠ 16384 → strOf (thoughtL x) = strOf x.name)) := Lib.hid ⟨fun h => by unfold thoughtL; rw [if_pos h], fun h => by unfold thoughtL; rw [if_neg h]⟩
  clear hbox hb
  generalize strOf (x.name ++ [47]) = T1 at *
  generalize strOf x.name = T0 at *
  generalize x.mode = m at *
  by_cases hm : m = 16384
  · have e1 : (m == 16384) = true := by rw [beq_iff_eq]; exact hm
    have e := HT.out.1 hm
    have HE := Lib.hid e
    clear e
    go_enter Try.func31, Try.ntmps31
    go_wp2_with fail
    go_ret
    exact ⟨by rw [HE.out]; rfl, HB.out⟩
  · have e1 : (m == 16384) = false := by rw [beq_eq_false_iff_ne]; exact hm
    have e := HT.out.2 hm
    have HE := Lib.hid e
    clear e
    go_enter Try.func31, Try.ntmps31
    go_wp2_with fail
    go_ret
    exact ⟨by rw [HE.out]; rfl, HB.out⟩
end Go.Proofs.Ytbllpjphlanchaa
