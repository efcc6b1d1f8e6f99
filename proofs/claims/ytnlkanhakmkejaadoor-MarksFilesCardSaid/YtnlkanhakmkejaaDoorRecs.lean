/-
  Slices of structs, whatever their fields: that are read, and that the call owns. (After tpl4/XPs, for any struct.)
-/
import Derived.Test.YtnlkanhakmkejaaDoorCut
import Derived.Test.YtnlkanhakmkejaaDoorMix
import Derived.Deep.CutRange
import Derived.Deep.MidRow
import Derived.Laws.Rows
import Derived.Laws.Tables
import Derived.Maps.AppendAt
import Derived.Lib.Hide
import Derived.Great.BuildSlice
namespace Go.Proofs.YtnlkanhakmkejaaDoor
open Go.RowKit Go.Mix

/-- How a struct's values lie in cells: L of them. -/
structure RecTy (α : Type) [Inhabited α] (enc : α → List Value) (L : Nat) (t e : TypeId) : Prop where
  pos : 0 < L
  small : L ≤ 1000
  len : ∀ x, (enc x).length = L
  one : ∀ x, ∀ u ∈ enc x, u.oneCell' = true
  ht : Tryd.prog.underlying t = some (.slice e)
  he : ∃ fs, Tryd.prog.underlying e = some (.struct fs)
  se : ∀ w : World, (sizeOf e).run Tryd.prog w = .ok L w
  ie : (Tryd.prog.info? e).map (·.size) = some L
  hi : ∃ (z : Array Value) (by_ : Nat), (Tryd.prog.info? e).map (fun i => (i.zero, i.size, i.bytes)) = some (some (.agg z), L, by_) ∧ z.size = L ∧ by_ ≤ 100

section
variable {α : Type} [Inhabited α] {enc : α → List Value} {L : Nat} {t e : TypeId}

def recA (enc : α → List Value) (x : α) : Array Value := (enc x).toArray
def flatR (enc : α → List Value) (l : List α) : List Value := l.flatMap enc
omit [Inhabited α] in
theorem flatR_append (a b : List α) : flatR enc (a ++ b) = flatR enc a ++ flatR enc b := by unfold flatR; rw [List.flatMap_append]
omit [Inhabited α] in
theorem flatR_one (p : α) : flatR enc [p] = enc p := by simp [flatR]

theorem rangeR_append {w : World} {b o : Nat} {x y : List Value} : w.rangeAt b o (x ++ y) ↔ w.rangeAt b o x ∧ w.rangeAt b (o + x.length) y := by
  refine ⟨fun h => ⟨fun j v hj => h j v ?_, fun j v hj => ?_⟩, fun ⟨h1, h2⟩ j v hj => ?_⟩
  · have hl : j < x.length := (List.getElem?_eq_some_iff.1 hj).1
    rw [List.getElem?_append_left hl]; exact hj
  · have := h (x.length + j) v (by rw [List.getElem?_append_right (by omega), Nat.add_sub_cancel_left]; exact hj)
    rw [← Nat.add_assoc] at this; exact this
  · rcases Nat.lt_or_ge j x.length with hl | hl
    · exact h1 j v (by rw [List.getElem?_append_left hl] at hj; exact hj)
    · have := h2 (j - x.length) v (by rw [List.getElem?_append_right hl] at hj; exact hj)
      rw [show o + x.length + (j - x.length) = o + j by omega] at this; exact this
theorem blockR_below {w w' : World} {P : Nat} {o : Obj} (h : w.heap[P]? = some o) (g : Below w.heap.size w w') : w'.heap[P]? = some o := (g.block P (lt_of_block h)).trans h
theorem rangeR_below {w w' : World} {b o : Nat} {cs : List Value} (h : w.rangeAt b o cs) (g : Below w.heap.size w w') : w'.rangeAt b o cs := fun j v hv =>
  (g.cell (p := ⟨b, o + j, none⟩) (lt_of_cell (h j v hv))).trans (h j v hv)

/-- The slice at a, of the capacity cap, reads as the values l. -/
structure RsAt (enc : α → List Value) (L : Nat) (w : World) (a : Option Addr) (cap : Nat) (l : List α) : Prop where
  le : l.length ≤ cap
  big : cap ≤ 9223372036854775807
  non : a = none → cap = 0
  cells : l = [] ∨ ∃ b o, a = some ⟨b, o, none⟩ ∧ ∀ j, j < l.length → w.rangeAt b (o + j * L) (enc l[j]!)

theorem RsAt.below {w w' : World} {a : Option Addr} {cap : Nat} {l : List α} (h : RsAt enc L w a cap l) (g : Below w.heap.size w w') : RsAt enc L w' a cap l :=
  ⟨h.le, h.big, h.non, h.cells.imp id fun ⟨b, o, e, hc⟩ => ⟨b, o, e, fun j hj => rangeR_below (hc j hj) g⟩⟩
theorem RsAt.take {w : World} {a : Option Addr} {cap : Nat} {l : List α} (h : RsAt enc L w a cap l) (k : Nat) : RsAt enc L w a cap (l.take k) := by
  refine ⟨by have := h.le; simp; omega, h.big, h.non, ?_⟩
  rcases h.cells with rfl | ⟨b, o, e, hc⟩
  · exact .inl (by simp)
  · refine .inr ⟨b, o, e, fun j hj => ?_⟩
    have h1 : j < l.length := by simp at hj; omega
    have := hc j h1
    rw [getElem!_pos l j h1] at this
    rw [getElem!_pos _ j hj, List.getElem_take]; exact this
theorem RsAt.nil (w : World) : RsAt enc L w none 0 [] := ⟨Nat.le_refl _, by decide, fun _ => rfl, .inl rfl⟩

variable (T : RecTy α enc L t e)
include T

theorem RecTy.flat_len : ∀ l : List α, (flatR enc l).length = l.length * L
  | [] => by simp [flatR]
  | p :: l => by
    have := RecTy.flat_len l
    unfold flatR at this ⊢
    rw [List.flatMap_cons, List.length_append, this, T.len, List.length_cons, Nat.succ_mul]; omega
theorem RecTy.flat_oneCell (l : List α) : ∀ u ∈ flatR enc l, u.oneCell' = true := fun u hu => by
  unfold flatR at hu
  obtain ⟨p, _, hp⟩ := List.mem_flatMap.1 hu
  exact T.one p u hp
theorem RecTy.range_flat {w : World} {b : Nat} : ∀ (l : List α) (o : Nat), w.rangeAt b o (flatR enc l) ↔ ∀ j, j < l.length → w.rangeAt b (o + j * L) (enc l[j]!)
  | [], o => ⟨fun _ j hj => by simp at hj, fun _ j v hj => by simp [flatR] at hj⟩
  | p :: l, o => by
    have e : flatR enc (p :: l) = enc p ++ flatR enc l := by simp [flatR]
    rw [e, rangeR_append, T.len, RecTy.range_flat l (o + L)]
    refine ⟨fun ⟨h0, h⟩ j hj => ?_, fun h => ⟨by simpa using h 0 (by simp), fun j hj => ?_⟩⟩
    · cases j with
      | zero => simpa using h0
      | succ j =>
        have := h j (by simp at hj; omega)
        rw [show o + (j + 1) * L = o + L + j * L by rw [Nat.succ_mul]; omega]
        simpa using this
    · have := h (j + 1) (by simp; omega)
      rw [show o + L + j * L = o + (j + 1) * L by rw [Nat.succ_mul]; omega]
      simpa using this

theorem RecTy.index (b o n cap k : Nat) (hk : k < n) (w : World) : (Instr.indexAt t (.slice (some ⟨b, o, none⟩) n cap) (.int .i64 (k : Int))).run Tryd.prog w = .ok (.pointer (some ⟨b, o + k * L, none⟩)) w := by
  have he : Tryd.prog.elem t = e := by simp [Program.elem, T.ht]
  rw [run_indexAt_slice w t _ n cap .i64 k (by rw [he]; exact T.ht), if_pos ⟨by omega, by omega⟩, he, T.se]
  simp [Result.andThen, Addr.add_lit]
theorem RecTy.load (p : α) (b o : Nat) (w : World) (h : w.rangeAt b o (enc p)) : (Instr.loadAt e (.pointer (some ⟨b, o, none⟩))).run Tryd.prog w = .ok (.agg (recA enc p)) w := by
  obtain ⟨fs, hu⟩ := T.he
  exact run_loadAt_mid w b o e (enc p) _ h hu rfl (by rw [T.len]; exact T.ie)

/-- Where value k lies: its index, its cells, its load. -/
theorem RsAt.at {w : World} {a : Option Addr} {cap : Nat} {l : List α} (h : RsAt enc L w a cap l) (ki : Int) (k : Nat) (hki : ki = (k : Int)) (hk : k < l.length) :
    ∃ b q, (∀ W : World, (Instr.indexAt t (.slice a l.length cap) (.int .i64 ki)).run Tryd.prog W = .ok (.pointer (some ⟨b, q, none⟩)) W) ∧ w.rangeAt b q (enc l[k]!) ∧
      (∀ W : World, Below w.heap.size w W → (Instr.loadAt e (.pointer (some ⟨b, q, none⟩))).run Tryd.prog W = .ok (.agg (recA enc l[k]!)) W) := by
  subst hki
  rcases h.cells with rfl | ⟨b, o, rfl, hc⟩
  · simp at hk
  · have hr := hc k hk
    exact ⟨b, o + k * L, fun W => T.index b o l.length cap k hk W, hr, fun W g => T.load _ b _ W (rangeR_below hr g)⟩
omit T

/-- v holds the values l, in a block that was not there in w0; what was there in w0 is as it was. -/
structure OwnR (enc : α → List Value) (L : Nat) (e : TypeId) (w0 w : World) (v : Value) (l : List α) : Prop where
  own : w.ownsRow w0.heap.size e L v l.length (flatR enc l)
  frame : Below w0.heap.size w0 w

omit [Inhabited α] in
theorem OwnR.nil {w0 w : World} (h : Below w0.heap.size w0 w) : OwnR enc L e w0 w (.slice none 0 0) [] := ⟨World.ownsRow_nil _ _ _ _, h⟩
omit [Inhabited α] in
theorem OwnR.later {w0 w w' : World} {v : Value} {l : List α} (h : OwnR enc L e w0 w v l) (g : Below w.heap.size w w') : OwnR enc L e w0 w' v l :=
  ⟨World.ownsRow.kept h.own (row := none) ⟨g.os, g.tape, g.output, g.size, fun k hk _ => g.block k hk⟩ (by cases hv : v.ownBlock <;> simp), h.frame.trans (g.mono h.frame.size)⟩
omit [Inhabited α] in
theorem OwnR.block {w0 w : World} {v : Value} {l : List α} (h : OwnR enc L e w0 w v l) : ∀ g, v.ownBlock = some g → w0.heap.size ≤ g ∧ g < w.heap.size := fun g hg => World.ownsRow.lt h.own g hg
omit [Inhabited α] in
theorem OwnR.rebase {w0 w1 w : World} {v : Value} {l : List α} (h : OwnR enc L e w1 w v l) (b : Below w0.heap.size w0 w1) : OwnR enc L e w0 w v l := by
  refine ⟨⟨h.own.1, h.own.2.imp id ?_⟩, b.trans (h.frame.mono b.size)⟩
  rintro ⟨g, cap, cur, e1, hg, r⟩
  exact ⟨g, cap, cur, e1, Nat.le_trans b.size hg, r⟩
include T in
theorem OwnR.rs {w0 w : World} {v : Value} {l : List α} (h : OwnR enc L e w0 w v l) : ∃ a c, v = .slice a l.length c ∧ RsAt enc L w a c l ∧ (a = none ∨ ∃ b o, a = some ⟨b, o, none⟩) := by
  rcases h.own.2 with ⟨rfl, h0⟩ | ⟨g, cap, cur, rfl, _, hh, hn, hm, _, ht⟩
  · have e0 := List.eq_nil_of_length_eq_zero h0
    subst e0
    exact ⟨none, 0, rfl, RsAt.nil w, .inl rfl⟩
  · unfold maxLen at hm
    refine ⟨some ⟨g, 0, none⟩, cap, rfl, ⟨hn, by omega, (fun h => nomatch h), .inr ⟨g, 0, rfl, (T.range_flat l 0).1 fun j u hj => ?_⟩⟩, .inr ⟨g, 0, rfl⟩⟩
    have hjl : j < (flatR enc l).length := (List.getElem?_eq_some_iff.1 hj).1
    have hfl := T.flat_len l
    have h2 : (cur.toList.take (l.length * L))[j]? = (flatR enc l)[j]? := by rw [ht]
    rw [List.getElem?_take, if_pos (by omega), hj] at h2
    simp only [World.cell?, hh, Nat.zero_add]
    simpa using h2

/-- 'append' of values onto values of the call's own. -/
theorem wpList_append_r (T : RecTy α enc L t e) {w0 w : World} {ops : Array Oper} {rest : List Oper} {o : Oper} {a : Act} {Q : Exit → Act → World → Prop} (hgd : o.guard = none) (s x : Operand)
    (ho : o.op = .call { callee := .builtin .append, args := #[s, x], argTypes := #[t, t] })
    (v : Value) (xs : List α) (hs : a.eval s = v) (hR : OwnR enc L e w0 w v xs) (ad : Option Addr) (n c : Nat) (ys : List α) (hx : a.eval x = .slice ad n c) (hn : n = ys.length) (hy : RsAt enc L w ad c ys)
    (hlen : xs.length + ys.length ≤ 1000000000)
    (h : ∀ v' w', OwnR enc L e w0 w' v' (xs ++ ys) → w.grownBy w' v.ownBlock → (v' = .slice none 0 0 ↔ v = .slice none 0 0 ∧ n = 0) → wpList Tryd.prog ops Q rest (a.put o.dst v') w') : wpList Tryd.prog ops Q (o :: rest) a w := by
  subst hn
  obtain ⟨z, by_, hi0, hzs, hby⟩ := T.hi
  obtain ⟨i, hi, hz0, hz1, hz2⟩ := info_parts hi0
  have hF := hR.frame
  have hsmall := T.small
  have hbound : by_ * (xs.length + ys.length) ≤ 140737488355328 := Nat.le_trans (Nat.mul_le_mul hby hlen) (by decide)
  rcases hy.cells with rfl | ⟨b, off, rfl, hc⟩
  · cases ad with
    | none =>
      obtain rfl := hy.non rfl
      refine wpList_append_own_none hgd s x t ho w0.heap.size e i L T.ht (by rw [hi]) v _ _ hs hR.own (by simpa using hx) ?_
      exact h v w (by rw [List.append_nil]; exact hR) ⟨rfl, rfl, rfl, Nat.le_refl _, fun _ _ _ => rfl⟩ (by simp)
    | some ad =>
      refine wpList_append_own_at w hgd s x t ho w0.heap.size e i _ L by_ T.ht hi hz0 hz1 hz2 (by simpa [Value.cells] using hzs) T.pos v xs.length (flatR enc xs) hs hR.own ad 0 c [] hx (by simp) (by simp) (by simp) (by unfold maxLen; simp at hlen; omega) (by simpa [Nat.mul_comm] using hbound) hF.size ?_
      intro v' w' h1 h2 h3 _
      refine h v' w' ⟨by rw [List.append_nil] at h1 ⊢; exact h1, ?_⟩ h2 h3
      exact ⟨h2.os.trans hF.os, h2.tape.trans hF.tape, h2.output.trans hF.output, Nat.le_trans hF.size h2.size, fun k hk => (h2.block k (Nat.lt_of_lt_of_le hk hF.size) (fun e => by have := (hR.block k e.symm).1; omega)).trans (hF.block k hk)⟩
  · refine wpList_append_own_at w hgd s x t ho w0.heap.size e i _ L by_ T.ht hi hz0 hz1 hz2 (by simpa [Value.cells] using hzs) T.pos v xs.length (flatR enc xs) hs hR.own _ ys.length c (flatR enc ys) hx (by rw [T.flat_len]) (fun j u hj => ?_) (T.flat_oneCell ys) (by unfold maxLen; omega) (by simpa [Nat.mul_comm] using hbound) hF.size ?_
    · rw [Addr.add_mid]; exact (T.range_flat ys off).2 hc j u hj
    · intro v' w' h1 h2 h3 _
      refine h v' w' ⟨by rw [List.length_append, flatR_append]; exact h1, ?_⟩ h2 h3
      exact ⟨h2.os.trans hF.os, h2.tape.trans hF.tape, h2.output.trans hF.output, Nat.le_trans hF.size h2.size, fun k hk => (h2.block k (Nat.lt_of_lt_of_le hk hF.size) (fun e => by have := (hR.block k e.symm).1; omega)).trans (hF.block k hk)⟩

/-- A value in a block of its own. -/
theorem RsAt.one (w : World) (e : TypeId) (p : α) : RsAt enc L (w.alloc (.cells (recA enc p) e)) (some ⟨w.heap.size, 0, none⟩) 1 [p] := by
  refine ⟨Nat.le_refl _, by decide, (fun h => nomatch h), .inr ⟨_, 0, rfl, fun j hj => ?_⟩⟩
  obtain rfl : j = 0 := by simpa using hj
  intro i v hi
  have hb : (w.alloc (.cells (recA enc p) e)).heap[w.heap.size]? = some (.cells (recA enc p) e (0, 0)) := heap_alloc_last w _ _ rfl
  rw [show 0 + 0 * L + i = i by omega, cell_of_row _ _ _ _ _ _ hb]
  simpa [recA] using hi

/-- A part of values that are read: 's[:j]', 's[j:]', 's[i:i+1]'. -/
theorem RsAt.to {w : World} {a : Option Addr} {cap : Nat} {l : List α} (h : RsAt enc L w a cap l) (T : RecTy α enc L t e) {j : Nat} (hj : j ≤ l.length) (J : Int) (hJ : J = (j : Int)) :
    ∀ W : World, (Instr.slice t (.slice a l.length cap) none (some (.int .i64 J)) none).run Tryd.prog W = .ok (.slice a j cap) W := fun W => by
  subst hJ
  have hle := h.le
  exact run_slice_to t T.ht a l.length cap j (by omega) h.non T.se W
theorem RsAt.from {w : World} {a : Option Addr} {cap : Nat} {l : List α} (h : RsAt enc L w a cap l) (T : RecTy α enc L t e) {j : Nat} (hj : j ≤ l.length) (J : Int) (hJ : J = (j : Int)) :
    ∃ a2 c2, (∀ W : World, (Instr.slice t (.slice a l.length cap) (some (.int .i64 J)) none none).run Tryd.prog W = .ok (.slice a2 (l.length - j) c2) W) ∧ RsAt enc L w a2 c2 (l.drop j) := by
  subst hJ
  have hle := h.le
  have hbig := h.big
  have he : Tryd.prog.elem t = e := by simp [Program.elem, T.ht]
  refine ⟨if cap = j then a else a.map (·.add (j * L)), cap - j, fun W => ?_, ⟨by rw [List.length_drop]; omega, by omega, fun hn => ?_, ?_⟩⟩
  · rw [run_slice_l W t _ _ _ (by rw [he]; exact T.ht) .i64 (j : Int) (by omega) (by omega), he, T.se]
    simp [Result.andThen, sliced]
  · by_cases hc : cap = j
    · omega
    · rw [if_neg hc] at hn
      have := h.non (by cases a with | none => rfl | some x => simp at hn)
      omega
  · by_cases hd : j = l.length
    · subst hd; exact .inl (List.drop_length ..)
    · rcases h.cells with rfl | ⟨b, o, rfl, hc⟩
      · exact absurd (by simp at hj ⊢; exact hj) hd
      · rw [if_neg (by omega)]
        refine .inr ⟨b, o + j * L, by simp [Addr.add_mid], fun i hi => ?_⟩
        rw [List.length_drop] at hi
        have := hc (j + i) (by omega)
        rw [getElem!_pos _ i (by rw [List.length_drop]; omega), List.getElem_drop, show o + j * L + i * L = o + (j + i) * L by rw [Nat.add_mul]; omega]
        rw [getElem!_pos l (j + i) (by omega)] at this
        exact this
end
end Go.Proofs.YtnlkanhakmkejaaDoor
