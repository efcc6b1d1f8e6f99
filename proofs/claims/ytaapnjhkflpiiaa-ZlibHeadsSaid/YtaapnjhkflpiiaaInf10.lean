/-
  The deferred closure of inflate.Raw: what was thrown becomes the results.
-/
import Derived.Test.YtaapnjhkflpiiaaInf9
import Derived.Defers
import Derived.Recover
import Derived.Deep.RegionHeld3
import Derived.RegionTactic
import Derived.OneCell
namespace Go.Proofs.Ytaapnjhkflpiiaa
open Go.RowKit Go.Mix

def caught (n : Nat) : List PanicEntry := [{ v := .iface 49 (.agg #[.int .i64 (n : Int)]), recovered := true }]

theorem one_set {w : World} {k : Nat} {v : Value} {t : TypeId} {y : Value} {fr : Nat × Nat} (h : w.heap[k]? = some (.cells #[y] t fr)) :
    (w.setCell ⟨k, 0, none⟩ v).heap[k]? = some (.cells #[v] t fr) := by
  rw [heap_set h 0 v]; rfl
theorem other_set (w : World) (A k o : Nat) (v : Value) (h : k ≠ A) : (w.setCell ⟨A, o, none⟩ v).heap[k]? = w.heap[k]? := Below.heap_setCell _ _ _ _ h

theorem assert_wrong (n : Nat) (w : World) : (Instr.typeAssert (.iface 49 (.agg #[.int .i64 (n : Int)])) 20 49 true).run Try.prog w = .ok (.tuple #[.agg #[.int .i64 (n : Int)], .bool true]) w := by
  kernel_rfl

theorem raw1_panic (A n : Nat) (w : World) (x y z : Value) (h0 : w.heap[A]? = some (.cells #[x] 22 (0, 0))) (h1 : w.heap[A + 1]? = some (.cells #[y] 3 (0, 0))) (h2 : w.heap[A + 2]? = some (.cells #[z] 29 (0, 0))) :
    CallsD Try.prog 34 #[.pointer (some ⟨A, 0, none⟩), .pointer (some ⟨A + 1, 0, none⟩), .pointer (some ⟨A + 2, 0, none⟩)] (.panicking (thrown n)) w fun e u' w' =>
      e = .returned (.tuple #[]) ∧ u' = .panicking (caught n) ∧ w'.heap[A]? = some (.cells #[.slice none 0 0] 22 (0, 0)) ∧ w'.heap[A + 1]? = some (.cells #[.int .i64 0] 3 (0, 0)) ∧
      w'.heap[A + 2]? = some (.cells #[.int .i64 (n : Int)] 29 (0, 0)) ∧ Below A w w' := by
  refine callsD_of_wpS Try.func34 rfl fun c₀ cs hu => ?_
  unfold thrown at hu
  apply wpS_seq
  apply wpS_region
  simp [wpOpsS, go_sem, recoverD, hu, Try.ntmps34, Exit.thenS]
  refine wpS_of_wp ?_
  have et : (#[Value.pointer (some ⟨A, 0, none⟩), .pointer (some ⟨A + 1, 0, none⟩), .pointer (some ⟨A + 2, 0, none⟩)] ++ ((Array.replicate 16 undef).setIfInBounds 3 (Value.iface 49 (.agg #[.int .i64 (n : Int)]))).setIfInBounds 0 (Value.iface 49 (.agg #[.int .i64 (n : Int)]))) =
    #[Value.pointer (some ⟨A, 0, none⟩), .pointer (some ⟨A + 1, 0, none⟩), .pointer (some ⟨A + 2, 0, none⟩), .iface 49 (.agg #[.int .i64 (n : Int)]), undef, undef, .iface 49 (.agg #[.int .i64 (n : Int)]), undef, undef, undef, undef, undef, undef, undef, undef, undef, undef, undef, undef] := by kernel_rfl
  rw [et]
  clear et
  have hnn : ∀ w : World, (binOp BinOp.neq 20 (.iface 49 (.agg #[.int .i64 (n : Int)])) .nilIface).run Try.prog w = .ok (.bool true) w := fun w => by kernel_rfl
  have has := assert_wrong n
  have hnot : ∀ w : World, (Op.unary .not (.bool true)).run Try.prog w = .ok (.bool false) w := fun _ => rfl
  have hA := lt_of_block h0
  have hA1 := lt_of_block h1
  have hA2 := lt_of_block h2
  go_wp2_with fail
  have hQ : (w.alloc (.cells #[.int .i64 (n : Int)] 49)).cell? ⟨w.heap.size, 0, none⟩ = some (.int .i64 (n : Int)) := by simp
  have g0 : Below A w (w.alloc (.cells #[.int .i64 (n : Int)] 49)) := (Below.refl _ _).alloc (by omega) _
  have g00 : Below w.heap.size w (w.alloc (.cells #[.int .i64 (n : Int)] 49)) := (Below.refl _ _).alloc (Nat.le_refl _) _
  have k0 := (g00.block A hA).trans h0
  have k1 := (g00.block (A + 1) hA1).trans h1
  have k2 := (g00.block (A + 2) hA2).trans h2
  clear h0 h1 h2 g00
  generalize w.alloc (.cells #[.int .i64 (n : Int)] 49) = w1 at *
  generalize w.heap.size = Q at *
  have f0 := free_of_one k0
  have f1 := free_of_one k1
  have f2 := free_of_one k2
  have c0 := cell_of_one k0
  have c1 := cell_of_one k1
  have c2 := cell_of_one k2
  have n0 : ¬ A = Q := by omega
  have n1 : ¬ A + 1 = Q := by omega
  have n2 : ¬ Q = A := by omega
  have n3 : ¬ Q = A + 1 := by omega
  go_region
  have e0 := one_set (v := .slice none 0 0) k0
  have e1 := one_set (v := .int .i64 0) ((other_set w1 A (A + 1) 0 (.slice none 0 0) (by omega)).trans k1)
  have e2 := one_set (v := .int .i64 (n : Int)) ((other_set (w1.setCell ⟨A, 0, none⟩ (.slice none 0 0)) (A + 1) (A + 2) 0 (.int .i64 0) (by omega)).trans ((other_set w1 A (A + 2) 0 (.slice none 0 0) (by omega)).trans k2))
  have gE : Below A w (((w1.setCell ⟨A, 0, none⟩ (.slice none 0 0)).setCell ⟨A + 1, 0, none⟩ (.int .i64 0)).setCell ⟨A + 2, 0, none⟩ (.int .i64 (n : Int))) :=
    ((g0.setCell (Nat.le_refl _) _).setCell (by show A ≤ A + 1; omega) _).setCell (by show A ≤ A + 2; omega) _
  refine ⟨rfl, .panicking (caught n), rfl, .tuple #[], ?_, rfl, rfl, ?_, ?_, ?_, gE.drew⟩
  · simp [results, Try.results34]
  · exact (other_set _ (A + 2) A 0 _ (by omega)).trans ((other_set _ (A + 1) A 0 _ (by omega)).trans e0)
  · exact (other_set _ (A + 2) (A + 1) 0 _ (by omega)).trans e1
  · exact e2

theorem raw1_idle (A : Nat) (w : World) :
    CallsD Try.prog 34 #[.pointer (some ⟨A, 0, none⟩), .pointer (some ⟨A + 1, 0, none⟩), .pointer (some ⟨A + 2, 0, none⟩)] .returning w fun e u' w' =>
      e = .returned (.tuple #[]) ∧ u' = .returning ∧ w' = w := by
  refine callsD_of_wpS Try.func34 rfl fun c₀ cs hu => ?_
  have hnn : ∀ w : World, (binOp BinOp.neq 20 .nilIface .nilIface).run Try.prog w = .ok (.bool false) w := fun w => by kernel_rfl
  apply wpS_seq
  apply wpS_region
  simp [wpOpsS, go_sem, recoverD, hu, Try.ntmps34, Exit.thenS]
  refine wpS_of_wp ?_
  have et : (#[Value.pointer (some ⟨A, 0, none⟩), .pointer (some ⟨A + 1, 0, none⟩), .pointer (some ⟨A + 2, 0, none⟩)] ++ ((Array.replicate 16 undef).setIfInBounds 3 Value.nilIface).setIfInBounds 0 Value.nilIface) =
    #[Value.pointer (some ⟨A, 0, none⟩), .pointer (some ⟨A + 1, 0, none⟩), .pointer (some ⟨A + 2, 0, none⟩), .nilIface, undef, undef, .nilIface, undef, undef, undef, undef, undef, undef, undef, undef, undef, undef, undef, undef] := by kernel_rfl
  rw [et]
  clear et
  go_wp2_with fail
  cases c₀
  simp at hu
  subst hu
  refine ⟨rfl, .returning, rfl, .tuple #[], ?_, rfl, rfl, rfl⟩
  simp [results, Try.results34]

end Go.Proofs.Ytaapnjhkflpiiaa
