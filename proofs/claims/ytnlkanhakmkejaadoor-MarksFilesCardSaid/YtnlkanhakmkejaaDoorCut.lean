/-
  Slices of slices of bytes: what 'b[k:]' and 'b[i:k]' read, at whatever address.
-/
import Derived.Test.YtnlkanhakmkejaaDoorRows1
import Derived.Deep.Cut
namespace Go.Proofs.YtnlkanhakmkejaaDoor
open Go.RowKit

/-- The address of what begins k further. -/
def subAt (a : Option Addr) (cap k : Nat) : Option Addr := if cap = k then a else a.map (·.add k)

theorem add_add (x : Addr) (k j : Nat) : (x.add k).add j = x.add (k + j) := by
  unfold Addr.add
  by_cases hk : k = 0
  · subst hk; simp
  · by_cases hj : j = 0
    · subst hj; simp [hk]
    · simp [hk, hj]; omega

theorem Bs.drop {w : World} {a : Option Addr} {l : List UInt8} (h : Bs w a l) (cap k : Nat) (hc : l.length ≤ cap) : Bs w (subAt a cap k) (l.drop k) := by
  by_cases hk : l.length ≤ k
  · exact .inl (List.drop_of_length_le hk)
  · rcases h with rfl | ⟨b, off, rfl, hcell⟩
    · simp at hk
    · refine .inr ⟨b, off + k, ?_, fun j hj => ?_⟩
      · unfold subAt; rw [if_neg (by omega)]; unfold Addr.add; by_cases h0 : k = 0 <;> simp [h0]
      · rw [Nat.add_assoc, hcell (k + j) (by simp at hj; omega)]; simp

theorem run_slice_from {P : Program} (t : TypeId) {e : TypeId} (ht : P.underlying t = some (.slice e)) (hs : ∀ w : World, (sizeOf e).run P w = .ok 1 w) (a : Option Addr) (len cap k : Nat) (hk : k ≤ len) (w : World) :
    (Instr.slice t (.slice a len cap) (some (.int .i64 (k : Int))) none none).run P w = .ok (.slice (subAt a cap k) (len - k) (cap - k)) w := by
  have he : P.elem t = e := by simp [Program.elem, ht]
  rw [run_slice_l w t a len cap (by rw [he]; exact ht) .i64 k (by omega) (by omega), he, hs]
  simp [Result.andThen, sliced, subAt]

theorem run_slice_mid {P : Program} (t : TypeId) {e : TypeId} (ht : P.underlying t = some (.slice e)) (hs : ∀ w : World, (sizeOf e).run P w = .ok 1 w) (a : Option Addr) (len cap i k : Nat) (hi : i ≤ k) (hk : k ≤ cap) (w : World) :
    (Instr.slice t (.slice a len cap) (some (.int .i64 (i : Int))) (some (.int .i64 (k : Int))) none).run P w = .ok (.slice (subAt a cap i) (k - i) (cap - i)) w := by
  have he : P.elem t = e := by simp [Program.elem, ht]
  rw [run_slice_lh w t a len cap (by rw [he]; exact ht) .i64 .i64 i k (by omega) (by omega) (by omega), he, hs]
  simp [Result.andThen, sliced, subAt]

/-- 'b[k:]', under names of its own. -/
theorem cut_from {P : Program} {w0 : World} {a : Option Addr} {l : List UInt8} (h : Bs w0 a l) (t : TypeId) {e : TypeId} (ht : P.underlying t = some (.slice e)) (hs : ∀ w : World, (sizeOf e).run P w = .ok 1 w) (cap k : Nat) (hc : l.length ≤ cap) (hn : a = none → cap = 0) (hk : k ≤ l.length) :
    ∃ a2 l2 cap2, l2 = l.drop k ∧ Bs w0 a2 l2 ∧ l2.length ≤ cap2 ∧ cap2 ≤ cap ∧ (a2 = none → cap2 = 0) ∧ ∀ w : World, (Instr.slice t (.slice a l.length cap) (some (.int .i64 (k : Int))) none none).run P w = .ok (.slice a2 l2.length cap2) w :=
  ⟨subAt a cap k, l.drop k, cap - k, rfl, h.drop cap k hc, by simp; omega, by omega, fun e => by
    unfold subAt at e
    split at e
    · omega
    · cases a with
      | none => have := hn rfl; omega
      | some x => simp at e, fun w => by rw [run_slice_from t ht hs a l.length cap k hk w]; simp⟩

/-- 'b[i:k]', under names of its own. -/
theorem cut_mid {P : Program} {w0 : World} {a : Option Addr} {l : List UInt8} (h : Bs w0 a l) (t : TypeId) {e : TypeId} (ht : P.underlying t = some (.slice e)) (hs : ∀ w : World, (sizeOf e).run P w = .ok 1 w) (cap i k : Nat) (hc : l.length ≤ cap) (hn : a = none → cap = 0) (hi : i ≤ k) (hk : k ≤ l.length) :
    ∃ a2 l2 cap2, l2 = (l.drop i).take (k - i) ∧ l2.length = k - i ∧ Bs w0 a2 l2 ∧ l2.length ≤ cap2 ∧ cap2 ≤ cap ∧ (a2 = none → cap2 = 0) ∧ ∀ w : World, (Instr.slice t (.slice a l.length cap) (some (.int .i64 (i : Int))) (some (.int .i64 (k : Int))) none).run P w = .ok (.slice a2 l2.length cap2) w :=
  ⟨subAt a cap i, (l.drop i).take (k - i), cap - i, rfl, by simp; omega, (h.drop cap i hc).take _, by simp; omega, by omega, fun e => by
    unfold subAt at e
    split at e
    · omega
    · cases a with
      | none => have := hn rfl; omega
      | some x => simp at e, fun w => by
        rw [run_slice_mid t ht hs a l.length cap i k hi (by omega) w]
        congr 2
        simp; omega⟩

/-- A 'move', by itself: for a law that wants the operation behind it. -/
theorem wpList_move {P : Program} {ops : Array Oper} {Q : Exit → Act → World → Prop} {rest : List Oper} {o : Oper} {a : Act} {w : World} {x : Operand} (hg : o.guard = none) (ho : o.op = .move x) (h : wpList P ops Q rest (a.put o.dst (a.eval x)) w) :
    wpList P ops Q (o :: rest) a w :=
  wpList_plain hg fun K hK => by
    unfold Oper.wp
    rw [show execOp a.eval o = pure (.value (a.eval x)) from by simp [execOp, ho]]
    exact hK _ _ h

end Go.Proofs.YtnlkanhakmkejaaDoor
