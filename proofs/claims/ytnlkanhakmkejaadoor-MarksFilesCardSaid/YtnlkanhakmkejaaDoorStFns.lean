
/-
  The store's small functions, walked.
-/
import Derived.Test.YtnlkanhakmkejaaDoorStAt
import Derived.Outline
namespace Go.Proofs.YtnlkanhakmkejaaDoor
open Go.RowKit Go.Mix Go.WideMaps Go.Maps

section
variable {own own' : Owns} {w w' : World} {p M : Nat} {G : Bytes → Nat} {S : StP}
/-- 'max(x, y)' as one number. -/
theorem max_run (x y : Int) (q : Int) (h : q = max x y) : ∀ (ts : Array TypeId) (t : TypeId) (w : World), (Builtin.max_ ts t #[.int .i64 x, .int .i64 y]).run Tryd.prog w = .ok (.int .i64 q) w := fun ts t w => by
  rw [run_max_int2, h]
  congr 2
  split <;> omega
theorem min_runI (x y : Int) (q : Int) (h : q = min x y) : ∀ (ts : Array TypeId) (t : TypeId) (w : World), (Builtin.min_ ts t #[.int .i64 x, .int .i64 y]).run Tryd.prog w = .ok (.int .i64 q) w := fun ts t w => by
  rw [run_min_int2, h]
  congr 2
  split <;> omega
abbrev ptr (p : Nat) : Value := .pointer (some ⟨p, 0, none⟩)

set_option maxRecDepth 100000 in
theorem off_any (h : StoreIn own w p M G S) : Calls Tryd.prog 34 #[ptr p] w fun e w' => e = .returned (.bool S.down) ∧ w = w' := by
  obtain ⟨-, -, -, -, c4, -⟩ := h.cells
  clear h
  generalize S.down = d at *
  go_enter Tryd.func34, Tryd.ntmps34
  go_wp2_with fail
  go_ret
  exact ⟨rfl, rfl⟩
set_option maxRecDepth 100000 in
theorem off_nil (w : World) : Calls Tryd.prog 34 #[.pointer none] w fun e w' => e = .returned (.bool true) ∧ w = w' := by
  go_enter Tryd.func34, Tryd.ntmps34
  go_wp2_with fail
  go_ret
  exact ⟨rfl, rfl⟩

theorem StoreIn.free (h : StoreIn own w p M G S) (k : Nat) : w.frozen? ⟨p, k, none⟩ = false := free_blk h.blk k
/-- One of the store's own numbers is written. -/
theorem StoreIn.setRoot (h : StoreIn own w p M G S) {k : Nat} {v : Value} {S' : StP} (hf : S'.files = S.files) (hC : (storeC M S).setIfInBounds k v = storeC M S') : StoreIn own (w.setCell ⟨p, k, none⟩ v) p M G S' ∧ Turn (fun o => o = some .root) own own w (w.setCell ⟨p, k, none⟩ v) := by
  have ht : Turn (fun o => o = some .root) own own w (w.setCell ⟨p, k, none⟩ v) := (Turn.below (Below.refl _ w) h.lt).set (fun _ => h.root) v
  refine ⟨h.rooted hf ht ?_ (Below.heap_setCell _ _ _ _ h.ne), ht⟩
  rw [heap_setCell_same _ _ _ _ _ _ h.blk, hC]

set_option maxRecDepth 100000 in
theorem done_any (h : StoreIn own w p M G S) (hl : S.armed = true → -1000 ≤ S.left ∧ S.left ≤ 9223372036854775807) : Calls Tryd.prog 39 #[ptr p] w fun e w' => e = .returned (.int .i64 0) ∧ StoreIn own w' p M G (doneS S) ∧ Turn (fun o => o = some .root) own own w w' := by
  obtain ⟨-, -, -, c3, c4, c5⟩ := h.cells
  have f4 := h.free 4
  have f5 := h.free 5
  have HH := Lib.hid h
  clear h
  cases ha : S.armed
  · rw [ha] at c3
    have HA := Lib.hid ha
    clear ha hl
    go_enter Tryd.func39, Tryd.ntmps39
    go_wp2_with fail
    go_ret
    refine ⟨rfl, ?_, Turn.below (Below.refl _ _) HH.out.lt⟩
    unfold doneS
    rw [HA.out]
    exact HH.out
  · rw [ha] at c3
    have hl' := hl ha
    have HA := Lib.hid ha
    clear ha hl
    obtain ⟨n, hn⟩ : ∃ n, n = S.left := ⟨_, rfl⟩
    rw [← hn] at c5 hl'
    have HN := Lib.hid hn
    clear hn
    go_enter Tryd.func39, Tryd.ntmps39
    go_wp2_with fail
    go_ret
    obtain ⟨h1, t1⟩ := HH.out.setRoot (k := 5) (v := .int .i64 (n - 1)) (S' := { S with left := n - 1 }) rfl rfl
    obtain ⟨h2, t2⟩ := h1.setRoot (k := 4) (v := .bool (decide (n - 1 ≤ 0))) (S' := { S with left := n - 1, down := decide (n - 1 ≤ 0) }) rfl rfl
    refine ⟨rfl, ?_, t1.trans t2⟩
    unfold doneS
    rw [if_pos HA.out, ← HN.out]
    exact h2

set_option maxRecDepth 100000 in
theorem arm_any (h : StoreIn own w p M G S) (n : Int) : Calls Tryd.prog 12 #[ptr p, .int .i64 n] w fun e w' => e = .returned (.tuple #[]) ∧ StoreIn own w' p M G (armS S n) ∧ Turn (fun o => o = some .root) own own w w' := by
  obtain ⟨-, -, -, c3, c4, c5⟩ := h.cells
  have f3 := h.free 3
  have f4 := h.free 4
  have f5 := h.free 5
  have HH := Lib.hid h
  clear h
  cases hd : S.down
  · rw [hd] at c4
    have HD := Lib.hid hd
    clear hd
    obtain ⟨m, hm⟩ : ∃ m, m = max n 0 := ⟨_, rfl⟩
    have MX := max_run n 0 m hm
    have HM := Lib.hid hm
    clear hm
    go_enter Tryd.func12, Tryd.ntmps12
    go_wp2_with fail
    refine bodyPost_end (results_none rfl _ _ _) rfl ?_
    obtain ⟨h1, t1⟩ := HH.out.setRoot (k := 3) (v := .bool true) (S' := { S with armed := true }) rfl rfl
    obtain ⟨h2, t2⟩ := h1.setRoot (k := 5) (v := .int .i64 (m)) (S' := { S with armed := true, left := m }) rfl rfl
    obtain ⟨h3, t3⟩ := h2.setRoot (k := 4) (v := .bool (decide (n ≤ 0))) (S' := { S with armed := true, left := m, down := decide (n ≤ 0) }) rfl rfl
    refine ⟨rfl, ?_, (t1.trans t2).trans t3⟩
    unfold armS
    rw [if_neg (by rw [HD.out]; simp), ← HM.out]
    exact h3
  · rw [hd] at c4
    have HD := Lib.hid hd
    clear hd
    go_enter Tryd.func12, Tryd.ntmps12
    go_wp2_with fail
    refine bodyPost_end (results_none rfl _ _ _) rfl ?_
    refine ⟨rfl, ?_, Turn.below (Below.refl _ _) HH.out.lt⟩
    unfold armS
    rw [if_pos HD.out]
    exact HH.out
set_option maxRecDepth 100000 in
theorem arm_nil (n : Int) (w : World) : Calls Tryd.prog 12 #[.pointer none, .int .i64 n] w fun e w' => e = .returned (.tuple #[]) ∧ w = w' := by
  go_enter Tryd.func12, Tryd.ntmps12
  go_wp2_with fail
  refine bodyPost_end (results_none rfl _ _ _) rfl ?_
  exact ⟨rfl, rfl⟩

set_option maxRecDepth 100000 in
theorem new_any (q : Int) (w : World) : Calls Tryd.prog 4 #[.int .i64 q] w fun e w' => ∃ p own, e = .returned (ptr p) ∧ StoreAt own w' p (newS q) ∧ (∀ k, own k ≠ none → w.heap.size ≤ k) ∧ Below w.heap.size w w' := by
  have hmm := @run_makeMap Tryd.prog
  go_enter Tryd.func4, Tryd.ntmps4
  go_wp2_with fail
  go_ret
  obtain ⟨w1, h1⟩ : ∃ w1, w1 = w.alloc (.map #[] 0) := ⟨_, rfl⟩
  have s1 : w1.heap.size = w.heap.size + 1 := by rw [h1]; simp
  have m1 : MapAt w1 w.heap.size (fun _ => 0) [] := by rw [h1]; exact MapAt.made w _
  have g1 : Below w.heap.size w w1 := by rw [h1]; exact (Below.refl _ _).alloc (Nat.le_refl _) _
  rw [← h1]
  have g2 : Below w1.heap.size w1 (w1.alloc (.cells (storeC w.heap.size (newS q)) 44)) := (Below.refl _ _).alloc (Nat.le_refl _) _
  refine ⟨w.heap.size + 1, Owns.new (fun _ => none) w.heap.size (w.heap.size + 2) (fun _ => .root), rfl, ⟨w.heap.size, fun _ => 0, ?_, Owns.new_at (fun _ => none) (n := w.heap.size) (n' := w.heap.size + 2) (k := w.heap.size + 1) (fun _ => .root) (by omega) (by omega), Owns.new_at (fun _ => none) (n := w.heap.size) (n' := w.heap.size + 2) (k := w.heap.size) (fun _ => .root) (by omega) (by omega), ?_, m1.same (g2.block _ (by omega)), fun x f hx => by simp [newS, getF] at hx, fun x y hx => by simp [newS, getF] at hx⟩, fun k hk => ?_, g1.trans (g2.mono (by omega))⟩
  · intro k hk
    have := (Owns.onto_new (fun _ => none : Owns) (n := w.heap.size) (n' := w.heap.size + 2) (by omega) (fun _ => .root)).lt k hk
    simp [s1]; omega
  · have := heap_alloc_last w1 (.cells (storeC w.heap.size (newS q)) 44 (0, 0)) (w.heap.size + 1) s1.symm
    exact this
  · unfold Owns.new at hk
    by_cases h : k < w.heap.size
    · rw [if_pos h] at hk; exact absurd rfl hk
    · omega
end
end Go.Proofs.YtnlkanhakmkejaaDoor
