/-
  Slices of one-cell elements that the call owns, and what must not change while they grow: a set of blocks.
-/
import Derived.Test.YtkkfolfplpafhaaCut
import Derived.Test.YtkkfolfplpafhaaMix
import Derived.Deep.CutRange
import Derived.Laws.Rows
import Derived.Laws.Tables
import Derived.Maps.AppendAt
namespace Go.Proofs.Ytkkfolfplpafhaa
open Go.RowKit Go.Mix

theorem block_below {w w' : World} {P : Nat} {o : Obj} (h : w.heap[P]? = some o) (g : Below w.heap.size w w') : w'.heap[P]? = some o := (g.block P (lt_of_block h)).trans h

/-- What S names was there in w0 and is as it was. -/
structure FrameS (S : Nat → Prop) (w0 w : World) : Prop where
  os : w.os = w0.os
  tape : w.tape = w0.tape
  output : w.output = w0.output
  size : w0.heap.size ≤ w.heap.size
  keep : ∀ k, S k → k < w0.heap.size ∧ w.heap[k]? = w0.heap[k]?

theorem FrameS.refl {S : Nat → Prop} {w : World} (h : ∀ k, S k → k < w.heap.size) : FrameS S w w := ⟨rfl, rfl, rfl, Nat.le_refl _, fun k hk => ⟨h k hk, rfl⟩⟩
theorem FrameS.trans {S : Nat → Prop} {a b c : World} (h : FrameS S a b) (k : FrameS S b c) : FrameS S a c :=
  ⟨k.os.trans h.os, k.tape.trans h.tape, k.output.trans h.output, Nat.le_trans h.size k.size, fun i hi => ⟨(h.keep i hi).1, (k.keep i hi).2.trans (h.keep i hi).2⟩⟩
theorem FrameS.lt {S : Nat → Prop} {w0 w : World} (h : FrameS S w0 w) {k : Nat} (hk : S k) : k < w.heap.size := Nat.lt_of_lt_of_le (h.keep k hk).1 h.size
theorem FrameS.below {S : Nat → Prop} {w0 w w' : World} (h : FrameS S w0 w) (g : Below w.heap.size w w') : FrameS S w0 w' :=
  ⟨g.os.trans h.os, g.tape.trans h.tape, g.output.trans h.output, Nat.le_trans h.size g.size, fun i hi => ⟨(h.keep i hi).1, (g.block i (h.lt hi)).trans (h.keep i hi).2⟩⟩
theorem FrameS.grown {S : Nat → Prop} {w0 w w' : World} {row : Option Nat} (h : FrameS S w0 w) (g : w.grownBy w' row) (hr : ∀ k, row = some k → ¬ S k) : FrameS S w0 w' :=
  ⟨g.os.trans h.os, g.tape.trans h.tape, g.output.trans h.output, Nat.le_trans h.size g.size, fun i hi => ⟨(h.keep i hi).1, (g.block i (h.lt hi) (fun e => hr i e.symm hi)).trans (h.keep i hi).2⟩⟩
theorem FrameS.setCell {S : Nat → Prop} {w0 w : World} (h : FrameS S w0 w) {p : Addr} (hp : ¬ S p.block) (u : Value) : FrameS S w0 (w.setCell p u) :=
  ⟨h.os, h.tape, h.output, by simpa [World.setCell] using h.size, fun i hi => ⟨(h.keep i hi).1, (Below.heap_setCell _ _ _ _ (fun e => hp (e ▸ hi))).trans (h.keep i hi).2⟩⟩
theorem FrameS.sub {S T : Nat → Prop} {w0 w : World} (h : FrameS S w0 w) (hT : ∀ k, T k → S k) : FrameS T w0 w := ⟨h.os, h.tape, h.output, h.size, fun k hk => h.keep k (hT k hk)⟩
theorem FrameS.toBelow {S : Nat → Prop} {w0 w : World} (h : FrameS S w0 w) {B : Nat} (hB : ∀ k, k < B → S k) : Below B w0 w := ⟨h.os, h.tape, h.output, h.size, fun k hk => (h.keep k (hB k hk)).2⟩
theorem FrameS.ofBelow {B : Nat} {w0 w : World} (h : Below B w0 w) (hB : B ≤ w0.heap.size) : FrameS (· < B) w0 w := ⟨h.os, h.tape, h.output, h.size, fun k hk => ⟨Nat.lt_of_lt_of_le hk hB, h.block k hk⟩⟩

/-- An element type of one cell: its zero value and how many bytes it takes; t: the slices of it. -/
structure Elem1 (e t : TypeId) (z : Value) (bytes : Nat) : Prop where
  ht : Try.prog.underlying t = some (.slice e)
  hi : (Try.prog.info? e).map (fun i => (i.zero, i.size, i.bytes)) = some (some z, 1, bytes)
  hz : z.cells.size = 1
  hs : ∀ w : World, (sizeOf e).run Try.prog w = .ok 1 w

/-- v holds xs, in a block that is none of S; what S names is as it was in w0. -/
structure Row (S : Nat → Prop) (e : TypeId) (w0 w : World) (v : Value) (xs : List Value) : Prop where
  own : w.ownsRow 0 e 1 v xs.length xs
  off : ∀ g, v.ownBlock = some g → ¬ S g
  frame : FrameS S w0 w

section
variable {S : Nat → Prop} {e : TypeId} {w0 w w' : World} {v v' : Value} {xs ys : List Value}

theorem Row.nil (h : FrameS S w0 w) : Row S e w0 w (.slice none 0 0) [] := ⟨World.ownsRow_nil _ _ _ _, by simp [Value.ownBlock], h⟩

theorem Row.later (h : Row S e w0 w v xs) (g : Below w.heap.size w w') : Row S e w0 w' v xs :=
  ⟨World.ownsRow.kept h.own (row := none) ⟨g.os, g.tape, g.output, g.size, fun k hk _ => g.block k hk⟩ (by cases hv : v.ownBlock <;> simp), h.off, h.frame.below g⟩

theorem Row.lt (h : Row S e w0 w v xs) : ∀ g, v.ownBlock = some g → g < w.heap.size := fun g hg => (World.ownsRow.lt h.own g hg).2

/-- Another reference world, another set. -/
theorem Row.rebase {T : Nat → Prop} {w1 : World} (h : Row S e w0 w v xs) (f : FrameS T w1 w) (hT : ∀ g, v.ownBlock = some g → ¬ T g) : Row T e w1 w v xs := ⟨h.own, hT, f⟩

theorem Row.slice (h : Row S e w0 w v xs) : ∃ a c, v = .slice a xs.length c ∧ Cells w a xs ∧ xs.length ≤ c ∧ c ≤ 9223372036854775807 ∧ (a = none → c = 0) := by
  rcases h.own.2 with ⟨rfl, h0⟩ | ⟨g, cap, cur, rfl, _, hh, hn, hm, _, ht⟩
  · have e0 := List.eq_nil_of_length_eq_zero h0
    subst e0
    exact ⟨none, 0, rfl, ⟨fun _ => rfl, fun j hj => by simp at hj⟩, Nat.le_refl _, by decide, fun _ => rfl⟩
  · unfold maxLen at hm
    rw [Nat.mul_one] at ht
    refine ⟨some ⟨g, 0, none⟩, cap, rfl, ⟨fun h => by simp at h, fun j hj => ?_⟩, hn, by omega, fun h => by simp at h⟩
    have hadd : elt (some ⟨g, 0, none⟩) j = ⟨g, j, none⟩ := by unfold elt Addr.add; simp only [Option.getD_some]; split <;> simp_all
    have h2 : (cur.toList.take xs.length)[j]? = xs[j]? := by rw [ht]
    rw [List.getElem?_take, if_pos hj, List.getElem?_eq_getElem hj] at h2
    rw [hadd]
    simp only [World.cell?, hh]
    simpa using h2

theorem Row.block (h : Row S e w0 w v xs) (hne : xs ≠ []) : ∃ g c, v = .slice (some ⟨g, 0, none⟩) xs.length c ∧ ¬ S g := by
  rcases h.own.2 with ⟨_, h0⟩ | ⟨g, cap, cur, hv, hb, _⟩
  · exact absurd (List.eq_nil_of_length_eq_zero h0) hne
  · exact ⟨g, cap, hv, h.off g (by rw [hv]; rfl)⟩

/-- Another block's type tells that it is not this one. -/
theorem Row.other (h : Row S e w0 w v xs) {P : Nat} {C : Array Value} {t : TypeId} {fr : Nat × Nat} (hP : w.heap[P]? = some (.cells C t fr)) (he : t ≠ e) : v.ownBlock ≠ some P := by
  rcases h.own.2 with ⟨rfl, _⟩ | ⟨g, cap, cur, rfl, _, hg, _⟩
  · simp [Value.ownBlock]
  · simp [Value.ownBlock]
    rintro rfl
    rw [hg] at hP
    simp at hP
    exact he hP.2.1.symm

theorem Row.set_other (h : Row S e w0 w v xs) {p : Addr} (hne : v.ownBlock ≠ some p.block) (hp : ¬ S p.block) (u : Value) : Row S e w0 (w.setCell p u) v xs :=
  ⟨ownsRow_setCell_other h.own hne u, h.off, h.frame.setCell hp u⟩

/-- A store into the row. -/
theorem Row.stored {g n c : Nat} (h : Row S e w0 w (.slice (some ⟨g, 0, none⟩) n c) xs) (k : Nat) (u : Value) :
    Row S e w0 (w.setCell ⟨g, k, none⟩ u) (.slice (some ⟨g, 0, none⟩) n c) (xs.set k u) ∧ w.grownBy (w.setCell ⟨g, k, none⟩ u) (some g) := by
  have hS : ¬ S g := h.off g rfl
  obtain ⟨a, c', e1, _⟩ := h.slice
  have hn : n = xs.length := by injection e1
  subst hn
  obtain ⟨h1, h2⟩ := World.ownsRow.stored h.own k u
  refine ⟨⟨by rw [List.length_set]; exact h1, h.off, h.frame.setCell hS u⟩, h2⟩

theorem Row.free {g n c : Nat} (h : Row S e w0 w (.slice (some ⟨g, 0, none⟩) n c) xs) (k : Nat) : w.frozen? ⟨g, k, none⟩ = false := by
  obtain ⟨a, c', e1, _⟩ := h.slice
  have hn : n = xs.length := by injection e1
  subst hn
  exact World.ownsRow.frozenAt h.own k

/-- Kept while another row grows. -/
theorem Row.kept {row : Option Nat} (h : Row S e w0 w v xs) (g : w.grownBy w' row) (hr : v.ownBlock = none ∨ v.ownBlock ≠ row) (hS : ∀ k, row = some k → ¬ S k) : Row S e w0 w' v xs :=
  ⟨World.ownsRow.kept h.own g hr, h.off, h.frame.grown g hS⟩

end

/-- The law of append onto such a row. -/
theorem wpList_append_row {e t : TypeId} {z : Value} {bytes : Nat} (E : Elem1 e t z bytes) {S : Nat → Prop} {w0 w : World} {ops : Array Oper} {rest : List Oper} {o : Oper} {a : Act} {Q : Exit → Act → World → Prop} (hgd : o.guard = none) (s x : Operand)
    (ho : o.op = .call { callee := .builtin .append, args := #[s, x], argTypes := #[t, t] })
    (v : Value) (xs : List Value) (hs : a.eval s = v) (hR : Row S e w0 w v xs) (ad : Option Addr) (c : Nat) (ys : List Value) (hx : a.eval x = .slice ad ys.length c) (hy : Cells w ad ys) (h1 : ∀ u ∈ ys, u.oneCell' = true)
    (hn : ad = none → c = 0) (hlen : (xs.length + ys.length) * bytes ≤ 140737488355328) (hlen2 : xs.length + ys.length ≤ 140737488355328)
    (h : ∀ v' w', Row S e w0 w' v' (xs ++ ys) → w.grownBy w' v.ownBlock → wpList Try.prog ops Q rest (a.put o.dst v') w') : wpList Try.prog ops Q (o :: rest) a w := by
  obtain ⟨i, hi, hz0, hz1, hz2⟩ := info_parts E.hi
  cases ad with
  | none =>
    have e0 : ys = [] := hy.1 rfl
    subst e0
    obtain rfl := hn rfl
    refine wpList_append_own_none hgd s x t ho 0 e i 1 E.ht (by rw [hi]) v _ _ hs hR.own (by simpa using hx) ?_
    exact h v w (by rw [List.append_nil]; exact hR) ⟨rfl, rfl, rfl, Nat.le_refl _, fun _ _ _ => rfl⟩
  | some ad =>
    refine wpList_append_own_at w hgd s x t ho 0 e i z 1 bytes E.ht hi hz0 hz1 hz2 E.hz (by decide) v xs.length xs hs hR.own ad ys.length c ys hx (by simp) ?_ h1 (by unfold maxLen; omega) hlen (Nat.zero_le _) ?_
    · intro j u hj
      have hjl : j < ys.length := by
        rcases Nat.lt_or_ge j ys.length with h' | h'
        · exact h'
        · rw [List.getElem?_eq_none h'] at hj; cases hj
      have h2 := hy.2 j hjl
      rw [List.getElem?_eq_getElem hjl] at hj
      rw [← hj]; exact h2
    · intro v' w' h2 h3 _ h5
      refine h v' w' ⟨by rw [List.length_append]; exact h2, fun g hg => ?_, hR.frame.grown h3 hR.off⟩ h3
      rcases h5 with h5 | h5
      · exact hR.off g (h5 ▸ hg)
      · intro hSg
        have := hR.frame.lt hSg
        rw [h5] at hg
        injection hg with hg
        omega

/-- A row of cells that lies in a new block. -/
theorem wpList_append_fresh {e t : TypeId} {z : Value} {bytes : Nat} (E : Elem1 e t z bytes) {S : Nat → Prop} {w0 w : World} {ops : Array Oper} {rest : List Oper} {o : Oper} {a : Act} {Q : Exit → Act → World → Prop} (hgd : o.guard = none) (s x : Operand)
    (ho : o.op = .call { callee := .builtin .append, args := #[s, x], argTypes := #[t, t] })
    (v : Value) (xs : List Value) (hs : a.eval s = v) (hR : Row S e w0 w v xs) (C : Array Value) (ys : List Value) (hC : C.toList = ys) (n c : Nat) (hx : a.eval x = .slice (some ⟨w.heap.size, 0, none⟩) n c) (hn : n = ys.length) (h1 : ∀ u ∈ ys, u.oneCell' = true)
    (hlen : (xs.length + ys.length) * bytes ≤ 140737488355328) (hlen2 : xs.length + ys.length ≤ 140737488355328)
    (h : ∀ v' w', Row S e w0 w' v' (xs ++ ys) → w.grownBy w' v.ownBlock → wpList Try.prog ops Q rest (a.put o.dst v') w') : wpList Try.prog ops Q (o :: rest) a (w.alloc (.cells C e)) := by
  subst hn
  have g : Below w.heap.size w (w.alloc (.cells C e)) := (Below.refl _ _).alloc (Nat.le_refl _) _
  refine wpList_append_row E hgd s x ho v xs hs (hR.later g) _ c ys hx ⟨fun h => by simp at h, fun j hj => ?_⟩ h1 (by simp) hlen hlen2 (fun v' w' h1 h2 => h v' w' h1 ?_)
  · have hadd : elt (some ⟨w.heap.size, 0, none⟩) j = ⟨w.heap.size, j, none⟩ := by unfold elt Addr.add; simp only [Option.getD_some]; split <;> simp_all
    rw [hadd]
    simp only [World.cell?, heap_alloc_last w (.cells C e) _ rfl]
    subst hC
    simp
  · exact ⟨h2.os, h2.tape, h2.output, Nat.le_trans g.size h2.size, fun k hk hne => (h2.block k (Nat.lt_of_lt_of_le hk g.size) hne).trans (g.block k hk)⟩

/-- 'T{}' of a slice type. -/
theorem Row.made {S : Nat → Prop} {e : TypeId} {w0 w : World} (h : FrameS S w0 w) : Row S e w0 (w.alloc (.cells #[] e)) (.slice (some ⟨w.heap.size, 0, none⟩) 0 0) [] :=
  ⟨World.ownsRow_made w #[] 0 (Nat.zero_le _) (by decide) rfl, fun g hg hS => by have := h.lt hS; simp [Value.ownBlock] at hg; omega, h.below ((Below.refl _ _).alloc (Nat.le_refl _) _)⟩

/-- 'make' of n elements. -/
theorem wpList_make_row {e t : TypeId} {z : Value} {bytes : Nat} (E : Elem1 e t z bytes) (hzc : z.cells = #[z]) {S : Nat → Prop} {w0 w : World} {ops : Array Oper} {rest : List Oper} {o : Oper} {a : Act} {Q : Exit → Act → World → Prop} (hgd : o.guard = none) (l c : Operand)
    (ho : o.op = Op.makeSlice t l c) (kl kc : IntKind) (L C : Int) (n : Nat) (hl : a.eval l = .int kl L) (hc : a.eval c = .int kc C) (hL : L = (n : Int)) (hC : C = (n : Int)) (hb : bytes * n ≤ 281474976710656) (hn : n ≤ 140737488355328) (hF : FrameS S w0 w)
    (h : ∀ w', Row S e w0 w' (.slice (some ⟨w.heap.size, 0, none⟩) n n) (List.replicate n z) → w.grownBy w' none → wpList Try.prog ops Q rest (a.put o.dst (.slice (some ⟨w.heap.size, 0, none⟩) n n)) w') : wpList Try.prog ops Q (o :: rest) a w := by
  obtain ⟨i, hi, hz0, hz1, hz2⟩ := info_parts E.hi
  refine wpList_make_full w hgd l c t ho 0 e i z 1 E.ht hi hz0 hz1 kl kc L C n hl hc hL hC (by rw [hz2]; exact hb) (by unfold maxLen; omega) (Nat.zero_le _) (fun w' h1 h2 => h w' ⟨?_, fun g hg hS => ?_, hF.grown h2 (by simp)⟩ h2)
  · rw [List.length_replicate]
    have e1 : (madeCells z.cells (n * 1)).toList = List.replicate n z := by rw [hzc, Nat.mul_one, toList_madeCells_one]
    rw [e1] at h1
    exact h1
  · have := hF.lt hS
    simp [Value.ownBlock] at hg
    omega

theorem elt_own (g k : Nat) : elt (some ⟨g, 0, none⟩) k = ⟨g, k, none⟩ := by unfold elt Addr.add; simp only [Option.getD_some]; split <;> simp_all

theorem Row.moved {S T : Nat → Prop} {e : TypeId} {w0 w w' : World} {v : Value} {xs : List Value} (h : Row S e w0 w v xs) (f : FrameS T w w') (hT : ∀ g, v.ownBlock = some g → T g) (hS : ∀ k, S k → T k) : Row S e w0 w' v xs := by
  refine ⟨⟨h.own.1, ?_⟩, h.off, h.frame.trans (f.sub hS)⟩
  rcases h.own.2 with ⟨rfl, h0⟩ | ⟨g, cap, cur, rfl, hb, hh, hr⟩
  · exact .inl ⟨rfl, h0⟩
  · exact .inr ⟨g, cap, cur, rfl, hb, (f.keep g (hT g rfl)).2.trans hh, hr⟩

theorem Row.held {S : Nat → Prop} {e : TypeId} {w0 w : World} {v : Value} {xs : List Value} (h : Row S e w0 w v xs) : ∀ g, v.ownBlock = some g → ∃ C, w.heap[g]? = some (.cells C e (0, 0)) := by
  intro g hg
  rcases h.own.2 with ⟨rfl, _⟩ | ⟨g', cap, cur, rfl, _, hh, _⟩
  · cases hg
  · injection hg with hg
    subst hg
    exact ⟨cur, hh⟩


def icells (l : List Nat) : List Value := l.map fun (x : Nat) => .int .i64 (x : Int)
theorem icells_length (l : List Nat) : (icells l).length = l.length := by simp [icells]

theorem Cells.frame {S : Nat → Prop} {w0 w : World} {a : Option Addr} {l : List Value} (h : Cells w0 a l) (f : FrameS S w0 w) (hS : ∀ x, a = some x → S x.block) : Cells w a l := by
  refine ⟨h.1, fun j hj => ?_⟩
  rw [← h.2 j hj]
  cases a with
  | none => have := h.1 rfl; subst this; simp at hj
  | some x =>
    have hb : (elt (some x) j).block = x.block := by unfold elt Addr.add; simp only [Option.getD_some]; split <;> rfl
    exact World.cell?_of_block (by rw [hb]; exact (f.keep x.block (hS x rfl)).2)

theorem sizeOf_int (w : World) : (sizeOf 3).run Try.prog w = .ok 1 w := by kernel_rfl
/-- 's[k]' of numbers: where it lies, what it holds. -/
theorem ints_at {w : World} {a : Option Addr} {l : List Nat} (h : Cells w a (icells l)) (cap : Nat) (_hl : l.length ≤ 1000000) (ki : Int) (k : Nat) (hki : ki = k) (hk : k < l.length) :
    (∀ w : World, (Instr.indexAt 24 (.slice a l.length cap) (.int .i64 ki)).run Try.prog w = .ok (.pointer (some (elt a k))) w) ∧ w.cell? (elt a k) = some (.int .i64 (l.getD k 0 : Nat)) := by
  subst hki
  refine ⟨fun w => run_index_any (P := Try.prog) h 24 Try.underlying24 sizeOf_int cap (n := l.length) hk (by rw [icells_length]; omega) .i64 w, ?_⟩
  rw [h.2 k (by rw [icells_length]; exact hk), List.getD_eq_getElem?_getD, List.getElem?_eq_getElem hk]
  simp [icells]

theorem elemInt : Elem1 3 24 (.int .i64 0) 8 := ⟨Try.underlying24, by kernel_rfl, rfl, fun w => by kernel_rfl⟩
theorem icells_one (l : List Nat) : ∀ u ∈ icells l, u.oneCell' = true := by
  intro u hu
  simp [icells] at hu
  obtain ⟨y, _, rfl⟩ := hu
  rfl


end Go.Proofs.Ytkkfolfplpafhaa
