/-
  Slices of structs, whatever their fields: that are read, and that the call owns. (After tpl4/XPs, for any struct.)
  Sums of 20 bytes: their cells, their '=='. (Out of tpl4/XPairs.)
  Texts by their bytes.
  Texts: index, parts, '+', min: as operations of a region.
  Bytes of the call's own that grow: one byte, a row of bytes; slices whose bounds are Ints.
  Loads and stores of whole values, by themselves; look-ups in a region; boxes.
  Sizes of types; small laws on bytes.
  Structs that are built of their fields; slices of one value.
  'append([]T{}, l...)' at structs: only new memory is made; guarded operations met by laws for unguarded ones.
-/
import Derived.Test.YtponfkfeflnilaaGreatDoorMaBas
import Derived.Deep.CutRange
import Derived.Deep.MidRow
import Derived.Laws.Rows
import Derived.Laws.Tables
import Derived.Maps.AppendAt
import Derived.Lib.Hide
import Derived.Great.BuildSlice
import Derived.DeepKeys
import Derived.WideKeyArr
import Derived.Laws.Concat
import Derived.OwnWalk
import Derived.Laws.CopyRow
import Derived.Lib.ConvBytes
import Derived.WalkSmall
namespace Go.Proofs.YtponfkfeflnilaaGreatDoor
open Go.RowKit Go.Mix

/-- How a struct's values lie in cells: L of them. -/
structure RecTy (α : Type) [Inhabited α] (enc : α → List Value) (L : Nat) (t e : TypeId) : Prop where
  pos : 0 < L
  small : L ≤ 1000
  len : ∀ x, (enc x).length = L
  one : ∀ x, ∀ u ∈ enc x, u.oneCell' = true
  ht : Tryz.prog.underlying t = some (.slice e)
  he : ∃ fs, Tryz.prog.underlying e = some (.struct fs)
  se : ∀ w : World, (sizeOf e).run Tryz.prog w = .ok L w
  ie : (Tryz.prog.info? e).map (·.size) = some L
  hi : ∃ (z : Array Value) (by_ : Nat), (Tryz.prog.info? e).map (fun i => (i.zero, i.size, i.bytes)) = some (some (.agg z), L, by_) ∧ z.size = L ∧ by_ ≤ 100

section
variable {α : Type} [Inhabited α] {enc : α → List Value} {L : Nat} {t e : TypeId}

def recA (enc : α → List Value) (x : α) : Array Value := (enc x).toArray
def flatR (enc : α → List Value) (l : List α) : List Value := l.flatMap enc
omit [Inhabited α] in
theorem flatR_append (a b : List α) : flatR enc (a ++ b) = flatR enc a ++ flatR enc b := by unfold flatR; rw [List.flatMap_append]
omit [Inhabited α] in
theorem flatR_one (p : α) : flatR enc [p] = enc p := by simp [flatR]

theorem rangeR_append {w : World} {b o : Nat} {x y : List Value} : w.rangeAt b o (x ++ y) ↔ w.rangeAt b o x ∧ w.rangeAt b (o + x.length) y := by
  refine ⟨fun h => ⟨fun j v hj => h j v ?_, fun j v hj => ?_⟩, fun ⟨h1, h2⟩ j v hj => ?_⟩
  · have hl : j < x.length := (List.getElem?_eq_some_iff.1 hj).1
    rw [List.getElem?_append_left hl]; exact hj
  · have := h (x.length + j) v (by rw [List.getElem?_append_right (by omega), Nat.add_sub_cancel_left]; exact hj)
    rw [← Nat.add_assoc] at this; exact this
  · rcases Nat.lt_or_ge j x.length with hl | hl
    · exact h1 j v (by rw [List.getElem?_append_left hl] at hj; exact hj)
    · have := h2 (j - x.length) v (by rw [List.getElem?_append_right hl] at hj; exact hj)
      rw [show o + x.length + (j - x.length) = o + j by omega] at this; exact this
theorem blockR_below {w w' : World} {P : Nat} {o : Obj} (h : w.heap[P]? = some o) (g : Below w.heap.size w w') : w'.heap[P]? = some o := (g.block P (lt_of_block h)).trans h
theorem rangeR_below {w w' : World} {b o : Nat} {cs : List Value} (h : w.rangeAt b o cs) (g : Below w.heap.size w w') : w'.rangeAt b o cs := fun j v hv =>
  (g.cell (p := ⟨b, o + j, none⟩) (lt_of_cell (h j v hv))).trans (h j v hv)

/-- The slice at a, of the capacity cap, reads as the values l. -/
structure RsAt (enc : α → List Value) (L : Nat) (w : World) (a : Option Addr) (cap : Nat) (l : List α) : Prop where
  le : l.length ≤ cap
  big : cap ≤ 9223372036854775807
  non : a = none → cap = 0
  cells : l = [] ∨ ∃ b o, a = some ⟨b, o, none⟩ ∧ ∀ j, j < l.length → w.rangeAt b (o + j * L) (enc l[j]!)

theorem RsAt.below {w w' : World} {a : Option Addr} {cap : Nat} {l : List α} (h : RsAt enc L w a cap l) (g : Below w.heap.size w w') : RsAt enc L w' a cap l :=
  ⟨h.le, h.big, h.non, h.cells.imp id fun ⟨b, o, e, hc⟩ => ⟨b, o, e, fun j hj => rangeR_below (hc j hj) g⟩⟩
theorem RsAt.take {w : World} {a : Option Addr} {cap : Nat} {l : List α} (h : RsAt enc L w a cap l) (k : Nat) : RsAt enc L w a cap (l.take k) := by
  refine ⟨by have := h.le; simp; omega, h.big, h.non, ?_⟩
  rcases h.cells with rfl | ⟨b, o, e, hc⟩
  · exact .inl (by simp)
  · refine .inr ⟨b, o, e, fun j hj => ?_⟩
    have h1 : j < l.length := by simp at hj; omega
    have := hc j h1
    rw [getElem!_pos l j h1] at this
    rw [getElem!_pos _ j hj, List.getElem_take]; exact this
theorem RsAt.nil (w : World) : RsAt enc L w none 0 [] := ⟨Nat.le_refl _, by decide, fun _ => rfl, .inl rfl⟩

variable (T : RecTy α enc L t e)
include T

theorem RecTy.flat_len : ∀ l : List α, (flatR enc l).length = l.length * L
  | [] => by simp [flatR]
  | p :: l => by
    have := RecTy.flat_len l
    unfold flatR at this ⊢
    rw [List.flatMap_cons, List.length_append, this, T.len, List.length_cons, Nat.succ_mul]; omega
theorem RecTy.flat_oneCell (l : List α) : ∀ u ∈ flatR enc l, u.oneCell' = true := fun u hu => by
  unfold flatR at hu
  obtain ⟨p, _, hp⟩ := List.mem_flatMap.1 hu
  exact T.one p u hp
theorem RecTy.range_flat {w : World} {b : Nat} : ∀ (l : List α) (o : Nat), w.rangeAt b o (flatR enc l) ↔ ∀ j, j < l.length → w.rangeAt b (o + j * L) (enc l[j]!)
  | [], o => ⟨fun _ j hj => by simp at hj, fun _ j v hj => by simp [flatR] at hj⟩
  | p :: l, o => by
    have e : flatR enc (p :: l) = enc p ++ flatR enc l := by simp [flatR]
    rw [e, rangeR_append, T.len, RecTy.range_flat l (o + L)]
    refine ⟨fun ⟨h0, h⟩ j hj => ?_, fun h => ⟨by simpa using h 0 (by simp), fun j hj => ?_⟩⟩
    · cases j with
      | zero => simpa using h0
      | succ j =>
        have := h j (by simp at hj; omega)
        rw [show o + (j + 1) * L = o + L + j * L by rw [Nat.succ_mul]; omega]
        simpa using this
    · have := h (j + 1) (by simp; omega)
      rw [show o + L + j * L = o + (j + 1) * L by rw [Nat.succ_mul]; omega]
      simpa using this

theorem RecTy.index (b o n cap k : Nat) (hk : k < n) (w : World) : (Instr.indexAt t (.slice (some ⟨b, o, none⟩) n cap) (.int .i64 (k : Int))).run Tryz.prog w = .ok (.pointer (some ⟨b, o + k * L, none⟩)) w := by
  have he : Tryz.prog.elem t = e := by simp [Program.elem, T.ht]
  rw [run_indexAt_slice w t _ n cap .i64 k (by rw [he]; exact T.ht), if_pos ⟨by omega, by omega⟩, he, T.se]
  simp [Result.andThen, Addr.add_lit]
theorem RecTy.load (p : α) (b o : Nat) (w : World) (h : w.rangeAt b o (enc p)) : (Instr.loadAt e (.pointer (some ⟨b, o, none⟩))).run Tryz.prog w = .ok (.agg (recA enc p)) w := by
  obtain ⟨fs, hu⟩ := T.he
  exact run_loadAt_mid w b o e (enc p) _ h hu rfl (by rw [T.len]; exact T.ie)

/-- Where value k lies: its index, its cells, its load. -/
theorem RsAt.at {w : World} {a : Option Addr} {cap : Nat} {l : List α} (h : RsAt enc L w a cap l) (ki : Int) (k : Nat) (hki : ki = (k : Int)) (hk : k < l.length) :
    ∃ b q, (∀ W : World, (Instr.indexAt t (.slice a l.length cap) (.int .i64 ki)).run Tryz.prog W = .ok (.pointer (some ⟨b, q, none⟩)) W) ∧ w.rangeAt b q (enc l[k]!) ∧
      (∀ W : World, Below w.heap.size w W → (Instr.loadAt e (.pointer (some ⟨b, q, none⟩))).run Tryz.prog W = .ok (.agg (recA enc l[k]!)) W) := by
  subst hki
  rcases h.cells with rfl | ⟨b, o, rfl, hc⟩
  · simp at hk
  · have hr := hc k hk
    exact ⟨b, o + k * L, fun W => T.index b o l.length cap k hk W, hr, fun W g => T.load _ b _ W (rangeR_below hr g)⟩
omit T

/-- v holds the values l, in a block that was not there in w0; what was there in w0 is as it was. -/
structure OwnR (enc : α → List Value) (L : Nat) (e : TypeId) (w0 w : World) (v : Value) (l : List α) : Prop where
  own : w.ownsRow w0.heap.size e L v l.length (flatR enc l)
  frame : Below w0.heap.size w0 w

omit [Inhabited α] in
theorem OwnR.nil {w0 w : World} (h : Below w0.heap.size w0 w) : OwnR enc L e w0 w (.slice none 0 0) [] := ⟨World.ownsRow_nil _ _ _ _, h⟩
omit [Inhabited α] in
theorem OwnR.later {w0 w w' : World} {v : Value} {l : List α} (h : OwnR enc L e w0 w v l) (g : Below w.heap.size w w') : OwnR enc L e w0 w' v l :=
  ⟨World.ownsRow.kept h.own (row := none) ⟨g.os, g.tape, g.output, g.size, fun k hk _ => g.block k hk⟩ (by cases hv : v.ownBlock <;> simp), h.frame.trans (g.mono h.frame.size)⟩
omit [Inhabited α] in
theorem OwnR.block {w0 w : World} {v : Value} {l : List α} (h : OwnR enc L e w0 w v l) : ∀ g, v.ownBlock = some g → w0.heap.size ≤ g ∧ g < w.heap.size := fun g hg => World.ownsRow.lt h.own g hg
omit [Inhabited α] in
theorem OwnR.rebase {w0 w1 w : World} {v : Value} {l : List α} (h : OwnR enc L e w1 w v l) (b : Below w0.heap.size w0 w1) : OwnR enc L e w0 w v l := by
  refine ⟨⟨h.own.1, h.own.2.imp id ?_⟩, b.trans (h.frame.mono b.size)⟩
  rintro ⟨g, cap, cur, e1, hg, r⟩
  exact ⟨g, cap, cur, e1, Nat.le_trans b.size hg, r⟩
include T in
theorem OwnR.rs {w0 w : World} {v : Value} {l : List α} (h : OwnR enc L e w0 w v l) : ∃ a c, v = .slice a l.length c ∧ RsAt enc L w a c l ∧ (a = none ∨ ∃ b o, a = some ⟨b, o, none⟩) := by
  rcases h.own.2 with ⟨rfl, h0⟩ | ⟨g, cap, cur, rfl, _, hh, hn, hm, _, ht⟩
  · have e0 := List.eq_nil_of_length_eq_zero h0
    subst e0
    exact ⟨none, 0, rfl, RsAt.nil w, .inl rfl⟩
  · unfold maxLen at hm
    refine ⟨some ⟨g, 0, none⟩, cap, rfl, ⟨hn, by omega, (fun h => nomatch h), .inr ⟨g, 0, rfl, (T.range_flat l 0).1 fun j u hj => ?_⟩⟩, .inr ⟨g, 0, rfl⟩⟩
    have hjl : j < (flatR enc l).length := (List.getElem?_eq_some_iff.1 hj).1
    have hfl := T.flat_len l
    have h2 : (cur.toList.take (l.length * L))[j]? = (flatR enc l)[j]? := by rw [ht]
    rw [List.getElem?_take, if_pos (by omega), hj] at h2
    simp only [World.cell?, hh, Nat.zero_add]
    simpa using h2

/-- 'append' of values onto values of the call's own. -/
theorem wpList_append_r (T : RecTy α enc L t e) {w0 w : World} {ops : Array Oper} {rest : List Oper} {o : Oper} {a : Act} {Q : Exit → Act → World → Prop} (hgd : o.guard = none) (s x : Operand)
    (ho : o.op = .call { callee := .builtin .append, args := #[s, x], argTypes := #[t, t] })
    (v : Value) (xs : List α) (hs : a.eval s = v) (hR : OwnR enc L e w0 w v xs) (ad : Option Addr) (n c : Nat) (ys : List α) (hx : a.eval x = .slice ad n c) (hn : n = ys.length) (hy : RsAt enc L w ad c ys)
    (hlen : xs.length + ys.length ≤ 1000000000)
    (h : ∀ v' w', OwnR enc L e w0 w' v' (xs ++ ys) → w.grownBy w' v.ownBlock → (v' = .slice none 0 0 ↔ v = .slice none 0 0 ∧ n = 0) → wpList Tryz.prog ops Q rest (a.put o.dst v') w') : wpList Tryz.prog ops Q (o :: rest) a w := by
  subst hn
  obtain ⟨z, by_, hi0, hzs, hby⟩ := T.hi
  obtain ⟨i, hi, hz0, hz1, hz2⟩ := info_parts hi0
  have hF := hR.frame
  have hsmall := T.small
  have hbound : by_ * (xs.length + ys.length) ≤ 140737488355328 := Nat.le_trans (Nat.mul_le_mul hby hlen) (by decide)
  rcases hy.cells with rfl | ⟨b, off, rfl, hc⟩
  · cases ad with
    | none =>
      obtain rfl := hy.non rfl
      refine wpList_append_own_none hgd s x t ho w0.heap.size e i L T.ht (by rw [hi]) v _ _ hs hR.own (by simpa using hx) ?_
      exact h v w (by rw [List.append_nil]; exact hR) ⟨rfl, rfl, rfl, Nat.le_refl _, fun _ _ _ => rfl⟩ (by simp)
    | some ad =>
      refine wpList_append_own_at w hgd s x t ho w0.heap.size e i _ L by_ T.ht hi hz0 hz1 hz2 (by simpa [Value.cells] using hzs) T.pos v xs.length (flatR enc xs) hs hR.own ad 0 c [] hx (by simp) (by simp) (by simp) (by unfold maxLen; simp at hlen; omega) (by simpa [Nat.mul_comm] using hbound) hF.size ?_
      intro v' w' h1 h2 h3 _
      refine h v' w' ⟨by rw [List.append_nil] at h1 ⊢; exact h1, ?_⟩ h2 h3
      exact ⟨h2.os.trans hF.os, h2.tape.trans hF.tape, h2.output.trans hF.output, Nat.le_trans hF.size h2.size, fun k hk => (h2.block k (Nat.lt_of_lt_of_le hk hF.size) (fun e => by have := (hR.block k e.symm).1; omega)).trans (hF.block k hk)⟩
  · refine wpList_append_own_at w hgd s x t ho w0.heap.size e i _ L by_ T.ht hi hz0 hz1 hz2 (by simpa [Value.cells] using hzs) T.pos v xs.length (flatR enc xs) hs hR.own _ ys.length c (flatR enc ys) hx (by rw [T.flat_len]) (fun j u hj => ?_) (T.flat_oneCell ys) (by unfold maxLen; omega) (by simpa [Nat.mul_comm] using hbound) hF.size ?_
    · rw [Addr.add_mid]; exact (T.range_flat ys off).2 hc j u hj
    · intro v' w' h1 h2 h3 _
      refine h v' w' ⟨by rw [List.length_append, flatR_append]; exact h1, ?_⟩ h2 h3
      exact ⟨h2.os.trans hF.os, h2.tape.trans hF.tape, h2.output.trans hF.output, Nat.le_trans hF.size h2.size, fun k hk => (h2.block k (Nat.lt_of_lt_of_le hk hF.size) (fun e => by have := (hR.block k e.symm).1; omega)).trans (hF.block k hk)⟩

/-- A value in a block of its own. -/
theorem RsAt.one (w : World) (e : TypeId) (p : α) : RsAt enc L (w.alloc (.cells (recA enc p) e)) (some ⟨w.heap.size, 0, none⟩) 1 [p] := by
  refine ⟨Nat.le_refl _, by decide, (fun h => nomatch h), .inr ⟨_, 0, rfl, fun j hj => ?_⟩⟩
  obtain rfl : j = 0 := by simpa using hj
  intro i v hi
  have hb : (w.alloc (.cells (recA enc p) e)).heap[w.heap.size]? = some (.cells (recA enc p) e (0, 0)) := heap_alloc_last w _ _ rfl
  rw [show 0 + 0 * L + i = i by omega, cell_of_row _ _ _ _ _ _ hb]
  simpa [recA] using hi

/-- A part of values that are read: 's[:j]', 's[j:]', 's[i:i+1]'. -/
theorem RsAt.to {w : World} {a : Option Addr} {cap : Nat} {l : List α} (h : RsAt enc L w a cap l) (T : RecTy α enc L t e) {j : Nat} (hj : j ≤ l.length) (J : Int) (hJ : J = (j : Int)) :
    ∀ W : World, (Instr.slice t (.slice a l.length cap) none (some (.int .i64 J)) none).run Tryz.prog W = .ok (.slice a j cap) W := fun W => by
  subst hJ
  have hle := h.le
  exact run_slice_to t T.ht a l.length cap j (by omega) h.non T.se W
theorem RsAt.from {w : World} {a : Option Addr} {cap : Nat} {l : List α} (h : RsAt enc L w a cap l) (T : RecTy α enc L t e) {j : Nat} (hj : j ≤ l.length) (J : Int) (hJ : J = (j : Int)) :
    ∃ a2 c2, (∀ W : World, (Instr.slice t (.slice a l.length cap) (some (.int .i64 J)) none none).run Tryz.prog W = .ok (.slice a2 (l.length - j) c2) W) ∧ RsAt enc L w a2 c2 (l.drop j) := by
  subst hJ
  have hle := h.le
  have hbig := h.big
  have he : Tryz.prog.elem t = e := by simp [Program.elem, T.ht]
  refine ⟨if cap = j then a else a.map (·.add (j * L)), cap - j, fun W => ?_, ⟨by rw [List.length_drop]; omega, by omega, fun hn => ?_, ?_⟩⟩
  · rw [run_slice_l W t _ _ _ (by rw [he]; exact T.ht) .i64 (j : Int) (by omega) (by omega), he, T.se]
    simp [Result.andThen, sliced]
  · by_cases hc : cap = j
    · omega
    · rw [if_neg hc] at hn
      have := h.non (by cases a with | none => rfl | some x => simp at hn)
      omega
  · by_cases hd : j = l.length
    · subst hd; exact .inl (List.drop_length ..)
    · rcases h.cells with rfl | ⟨b, o, rfl, hc⟩
      · exact absurd (by simp at hj ⊢; exact hj) hd
      · rw [if_neg (by omega)]
        refine .inr ⟨b, o + j * L, by simp [Addr.add_mid], fun i hi => ?_⟩
        rw [List.length_drop] at hi
        have := hc (j + i) (by omega)
        rw [getElem!_pos _ i (by rw [List.length_drop]; omega), List.getElem_drop, show o + j * L + i * L = o + (j + i) * L by rw [Nat.add_mul]; omega]
        rw [getElem!_pos l (j + i) (by omega)] at this
        exact this
end
end Go.Proofs.YtponfkfeflnilaaGreatDoor
namespace Go.Proofs.YtponfkfeflnilaaGreatDoor
open Go.RowKit Go.Mix Go.WideMaps

abbrev Id20 := { l : List UInt8 // l.length = 20 }
def id0 : Id20 := ⟨List.replicate 20 0, by decide⟩
instance : Inhabited Id20 := ⟨id0⟩

def idc (x : Id20) : List Value := bcells x.1
def idA (x : Id20) : Array Value := (idc x).toArray
theorem idc_len (x : Id20) : (idc x).length = 20 := by unfold idc; rw [bcells_length]; exact x.2
theorem bcells_one (l : List UInt8) : ∀ u ∈ bcells l, u.oneCell' = true := by
  intro u hu
  simp [bcells] at hu
  obtain ⟨y, _, rfl⟩ := hu
  rfl
/-! '==' -/
theorem mapM_all {α β : Type} (f : α → Option β) (g : α → β) : ∀ l : List α, (∀ x ∈ l, f x = some (g x)) → l.mapM f = some (l.map g)
  | [], _ => rfl
  | x :: l, h => by rw [List.mapM_cons, h x (by simp), mapM_all f g l fun y hy => h y (by simp [hy])]; rfl

def litsOf (l : List UInt8) : List Lit := l.map fun x => Lit.int .u8 (x.toNat : Int)
theorem arr_lits {P : Program} {k e n : Nat} (A : ArrKey P k e n) (he : P.underlying e = some (.int .u8)) (l : List UInt8) (hl : l.length = n) : P.keyLits 2 k (bcells l) = some (litsOf l) := by
  have hsize := A.size
  have hone := A.one
  unfold Program.keyLits litsOf
  rw [A.hu]
  simp only [hsize, bcells_length, hl, if_true, hone]
  rw [mapM_all (g := fun i => [Lit.int .u8 ((l.getD i 0).toNat : Int)])]
  · simp only [Option.map_some]
    congr 1
    subst hl
    have e2 : ((List.range l.length).map fun i => [Lit.int .u8 ((l.getD i 0).toNat : Int)]).flatten = (List.range l.length).map fun i => Lit.int .u8 ((l.getD i 0).toNat : Int) := by
      generalize List.range l.length = r
      induction r with
      | nil => rfl
      | cons x r ih => simp only [List.map_cons, List.flatten_cons, ih]; rfl
    rw [e2]
    refine List.ext_getElem (by simp) fun j h1 h2 => ?_
    simp at h2
    simp [h2]
  · intro i hi
    rw [List.mem_range, ← hl] at hi
    have hi2 : i < (bcells l).length := by rw [bcells_length]; exact hi
    have e3 : ((bcells l).drop (i * 1)).take 1 = [Value.int .u8 ((l.getD i 0).toNat : Int)] := by
      rw [Nat.mul_one, List.drop_eq_getElem_cons hi2, List.take_succ_cons, List.take_zero]
      simp [bcells, hi]
    rw [e3]
    unfold Program.keyLits
    rw [he]
    have h := (l.getD i 0).toNat_lt
    generalize (l.getD i 0).toNat = z at *
    have hwf : (Lit.int .u8 (z : Int)).wf = true := by simp [Lit.wf, IntKind.min, IntKind.max, IntKind.signed, IntKind.bits]; omega
    simp only [hwf, and_self, if_true]
theorem lits_inj : ∀ l m : List UInt8, litsOf l = litsOf m → l = m
  | [], [], _ => rfl
  | [], _ :: _, h => by simp [litsOf] at h
  | _ :: _, [], h => by simp [litsOf] at h
  | x :: l, y :: m, h => by
    simp only [litsOf, List.map_cons, List.cons.injEq, Lit.int.injEq, true_and] at h
    have hxy : x = y := UInt8.toNat_inj.1 (by omega)
    rw [hxy, lits_inj l m h.2]

theorem arrG : ArrKey Tryz.prog 42 5 20 := ⟨Tryz.underlying42, by kernel_rfl, by kernel_rfl, by kernel_rfl⟩
theorem arrR : ArrKey Tryz.prog 41 5 20 := ⟨Tryz.underlying41, by kernel_rfl, by kernel_rfl, by kernel_rfl⟩

/-- What '==' gives where both sides' cells are told by lists of literals. -/
theorem equalIn_lits {P : Program} {k m D : Nat} (hk : P.keyTypeAt m k = true) (hm : m ≤ 10000) {X Y : Array Value} {lx ly : List Lit} (fx : Value.formed P k (.agg X) = true) (fy : Value.formed P k (.agg Y) = true)
    (hx : P.keyLits D k X.toList = some lx) (hy : P.keyLits D k Y.toList = some ly) (w : World) : ∃ r : Bool, (Op.equalIn 10000 k (.agg X) (.agg Y)).run P w = .ok r w ∧ (r = true ↔ lx = ly) := by
  have hE := run_equalIn_deep (P := P) (10000 - m) m k hk
  obtain ⟨r, hr, hiff⟩ := hE w D D (.agg X) (.agg Y) lx ly fx fy (by simpa [Value.cells] using hx) (by simpa [Value.cells] using hy)
  refine ⟨r, ?_, hiff⟩
  rw [show 10000 - m + m = 10000 by omega] at hr
  exact hr

set_option maxRecDepth 100000 in
theorem eq_id_run {k : Nat} (A : ArrKey Tryz.prog k 5 20) (x y : Id20) (w : World) : (Op.equalIn 10000 k (.agg (idA x)) (.agg (idA y))).run Tryz.prog w = .ok (decide (x = y)) w := by
  have hf : ∀ z : Id20, Value.formed Tryz.prog k (.agg (idA z)) = true := fun z => by
    unfold Value.formed
    rw [A.hu]
    simp [A.size, idA, idc_len]
  obtain ⟨r, hr, hiff⟩ := equalIn_lits (A.at 0) (by omega) (hf x) (hf y) (D := 2) (lx := litsOf x.1) (ly := litsOf y.1) (by simpa [idA, idc] using arr_lits A Tryz.underlying5 x.1 x.2) (by simpa [idA, idc] using arr_lits A Tryz.underlying5 y.1 y.2) w
  rw [hr]
  congr 1
  rw [Bool.eq_iff_iff, hiff, decide_eq_true_eq]
  exact ⟨fun h => Subtype.ext (lits_inj _ _ h), fun h => by rw [h]⟩


theorem idA_size (x : Id20) : (idA x).size = 20 := by simp [idA, idc_len]
theorem idA_one (x : Id20) : (idA x).all (·.oneCell') = true := all_oneCell_toArray (bcells_one _)
theorem load_id {k : Nat} (A : ArrKey Tryz.prog k 5 20) (hi : (Tryz.prog.info? k).map (·.size) = some 20) (x : Id20) (b o : Nat) (w : World) (h : w.rangeAt b o (idc x)) : (Instr.loadAt k (.pointer (some ⟨b, o, none⟩))).run Tryz.prog w = .ok (.agg (idA x)) w :=
  run_loadAt_mid w b o k (idc x) _ h A.hu rfl (by rw [idc_len]; exact hi)
end Go.Proofs.YtponfkfeflnilaaGreatDoor
namespace Go.Proofs.YtponfkfeflnilaaGreatDoor
open Go.RowKit Go.Mix Go.WideMaps

def strOf (l : List UInt8) : ByteArray := ⟨l.toArray⟩
theorem strOf_size (l : List UInt8) : (strOf l).size = l.length := by simp [strOf, ByteArray.size]
theorem strOf_list (s : List UInt8) : (strOf s).toList = s := by rw [ByteArray.toList_eq]; rfl
theorem strOf_inj {a b : List UInt8} (h : strOf a = strOf b) : a = b := by rw [← strOf_list a, h, strOf_list]
theorem strOf_empty (s : List UInt8) : ((strOf s).toList.isEmpty) = decide (s = []) := by rw [strOf_list]; cases s <;> rfl
theorem strOf_eq (s : List UInt8) (t : List UInt8) : ((strOf s).toList == t) = decide (s = t) := by rw [strOf_list, Bool.eq_iff_iff, beq_iff_eq, decide_eq_true_eq]
theorem strOf_get (l : List UInt8) (i : Nat) (h : i < l.length) : (strOf l).get! i = l[i] := by
  have hs : i < (strOf l).size := by rw [strOf_size]; exact h
  have e : (strOf l).get! i = (strOf l)[i]'hs := by
    simp [ByteArray.get!, strOf, h]
    rfl
  rw [e]; rfl
end Go.Proofs.YtponfkfeflnilaaGreatDoor
namespace Go.Proofs.YtponfkfeflnilaaGreatDoor
open Go.RowKit Go.Mix Go.WideMaps

theorem mg_index {P : Program} {ops : Array Oper} {Q : Act → World → Prop} {i : Nat} {r : List (Nat × Nat)} {o : Oper} {a : Act} {w : World} (ho : ops[i]? = some o) (hw : Region.wanted o (yielded ops a.tmps) = true)
    (ty : TypeId) (x ix : Operand) (hop : o.op = .index ty x ix) (V I v : Value) (hx : a.eval x = V) (hi : a.eval ix = I) (hl : ∀ y : World, (Instr.index ty V I).run P y = .ok v y)
    (h : MG P ops Q r (a.put o.dst v) w) : MG P ops Q ((i, 0) :: r) a w := mg_calm ho fun K hK => by
  unfold calmStep
  rw [if_pos hw]
  refine ⟨v, fun y => ?_, hK _ h⟩
  unfold calmAt execOp
  simp only [hop, hx, hi, Sem.run_bind, Sem.run_pure, Result.andThen_ok, hl y.1]
  exact ⟨rfl, rfl⟩
theorem wpList_index_at {P : Program} {ops : Array Oper} {rest : List Oper} {o : Oper} {a : Act} {w : World} {Q : Exit → Act → World → Prop} (hgd : o.guard = none)
    (ty : TypeId) (x i : Operand) (hop : o.op = .index ty x i) (X I v : Value) (hx : a.eval x = X) (hi : a.eval i = I) (hl : (Instr.index ty X I).run P w = .ok v w)
    (h : wpList P ops Q rest (a.put o.dst v) w) : wpList P ops Q (o :: rest) a w :=
  wpList_plain hgd fun _ hK => by
    unfold Oper.wp execOp
    simp only [hop, hx, hi, Sem.run_bind, Sem.run_pure, Result.andThen_ok, hl]
    exact hK _ _ h
theorem wpList_unguard {P : Program} {ops : Array Oper} {rest : List Oper} {o : Oper} {a : Act} {w : World} {Q : Exit → Act → World → Prop} (hw : Region.wanted o (yielded ops a.tmps) = true)
    (h : wpList P ops Q ({ o with guard := none } :: rest) a w) : wpList P ops Q (o :: rest) a w := by
  unfold wpList at h ⊢
  rw [if_pos hw]
  have hw' : Region.wanted { o with guard := none } (yielded ops a.tmps) = true := rfl
  rw [if_pos hw'] at h
  exact h
theorem str_at {k : TypeId} (hu : Tryz.prog.underlying k = some .string) (x : List UInt8) {i : Nat} (I : Int) (hI : I = (i : Int)) {c : UInt8} (hc : x[i]? = some c) (W : World) : (Instr.index k (.string (strOf x)) (.int .i64 I)).run Tryz.prog W = .ok (.int .u8 (c.toNat : Int)) W := by
  subst hI
  obtain ⟨hi, rfl⟩ := List.getElem?_eq_some_iff.1 hc
  have hs : (strOf x).size = x.length := strOf_size x
  have h : 0 ≤ (i : Int) ∧ (i : Int) < ((strOf x).size : Int) := by omega
  rw [run_index_string _ _ _ _ _ hu, dif_pos h]
  simp only [Int.toNat_natCast]
  rfl
theorem mg_slice {P : Program} {ops : Array Oper} {Q : Act → World → Prop} {i : Nat} {r : List (Nat × Nat)} {o : Oper} {a : Act} {w : World} (ho : ops[i]? = some o) (hw : Region.wanted o (yielded ops a.tmps) = true)
    (ty : TypeId) (x : Operand) (lo hi mx : Option Operand) (hop : o.op = .slice ty x lo hi mx) (V : Value) (LO HI MX : Option Value) (v : Value) (hx : a.eval x = V) (h1 : lo.map a.eval = LO) (h2 : hi.map a.eval = HI) (h3 : mx.map a.eval = MX) (hl : ∀ y : World, (Instr.sliceAt ty V LO HI MX).run P y = .ok v y)
    (h : MG P ops Q r (a.put o.dst v) w) : MG P ops Q ((i, 0) :: r) a w := mg_calm ho fun K hK => by
  unfold calmStep
  rw [if_pos hw]
  refine ⟨v, fun y => ?_, hK _ h⟩
  unfold calmAt execOp
  simp only [hop, hx, h1, h2, h3, Sem.run_bind, Sem.run_pure, Result.andThen_ok, hl y.1]
  exact ⟨rfl, rfl⟩

theorem ext_take (x : List UInt8) (n : Nat) : (strOf x).extract 0 n = strOf (x.take n) := by
  unfold strOf
  apply ByteArray.ext
  rw [ByteArray.data_extract]
  simp
theorem ext_drop (x : List UInt8) (n : Nat) : (strOf x).extract n (strOf x).size = strOf (x.drop n) := by
  unfold strOf
  apply ByteArray.ext
  rw [ByteArray.data_extract]
  simp only [ByteArray.size]
  simp only [List.size_toArray, List.extract_toArray]
  congr 1
  simp only [List.extract_eq_take_drop]
  exact List.take_of_length_le (by rw [List.length_drop]; exact Nat.le_refl _)
theorem str_to {k : TypeId} (hu : Tryz.prog.underlying k = some .string) (x : List UInt8) {i : Nat} (hi : i ≤ x.length) (W : World) : (Instr.sliceAt k (.string (strOf x)) none (some (.int .i64 (i : Int))) none).run Tryz.prog W = .ok (.string (strOf (x.take i))) W := by
  rw [run_sliceAt_string W k _ _ _ _ hu, run_slice_string_h W k _ hu .i64 (i : Int) (by omega) (by rw [strOf_size]; omega), Int.toNat_natCast, ext_take]
theorem str_from {k : TypeId} (hu : Tryz.prog.underlying k = some .string) (x : List UInt8) {i : Nat} (hi : i ≤ x.length) (W : World) : (Instr.sliceAt k (.string (strOf x)) (some (.int .i64 (i : Int))) none none).run Tryz.prog W = .ok (.string (strOf (x.drop i))) W := by
  rw [run_sliceAt_string W k _ _ _ _ hu, run_slice_string_l W k _ hu .i64 (i : Int) (by omega) (by rw [strOf_size]; omega), Int.toNat_natCast, ext_drop]


/-- 'min(x, y)' as one number. -/
theorem min_run (x y : Int) (q : Nat) (h : (if y < x then y else x) = (q : Int)) : ∀ (ts : Array TypeId) (t : TypeId) (w : World), (Builtin.min_ ts t #[.int .i64 x, .int .i64 y]).run Tryz.prog w = .ok (.int .i64 (q : Int)) w := fun ts t w => by
  rw [run_min_int2, h]
end Go.Proofs.YtponfkfeflnilaaGreatDoor
namespace Go.Proofs.YtponfkfeflnilaaGreatDoor
open Go.RowKit Go.Mix

/-- v holds l, in memory from B on; what was in w0 below B has not changed. -/
def Buf (B : Nat) (w0 w : World) (v : Value) (l : List UInt8) : Prop := OwnB w B v l ∧ Below B w0 w ∧ B ≤ w0.heap.size

theorem OwnB.slice {w : World} {B : Nat} {v : Value} {l : List UInt8} (h : OwnB w B v l) : ∃ a n c, v = .slice a n c := by
  obtain ⟨a, c, e, _⟩ := h.bs; exact ⟨a, _, c, e⟩

theorem Buf.nil {B : Nat} {w0 w : World} (h : Below B w0 w) (hB : B ≤ w0.heap.size) : Buf B w0 w (.slice none 0 0) [] := ⟨OwnB.nil _ _, h, hB⟩

theorem Buf.later {B : Nat} {w0 w w' : World} {v : Value} {l : List UInt8} (h : Buf B w0 w v l) (g : Below w.heap.size w w') : Buf B w0 w' v l :=
  ⟨h.1.below g, h.2.1.trans (g.mono (Nat.le_trans h.2.2 h.2.1.size)), h.2.2⟩

theorem Buf.le {B : Nat} {w0 w : World} {v : Value} {l : List UInt8} (h : Buf B w0 w v l) : B ≤ w.heap.size := Nat.le_trans h.2.2 h.2.1.size

theorem Buf.grown {B : Nat} {w0 w w' : World} {v v' : Value} {l l' : List UInt8} (h : Buf B w0 w v l) (ho : OwnB w' B v' l') (hg : w.grownBy w' v.ownBlock) : Buf B w0 w' v' l' :=
  ⟨ho, h.2.1.grown hg h.le (fun k hk => (h.1.lt k hk).1), h.2.2⟩

theorem wpList_append_buf {w : World} {ops : Array Oper} {rest : List Oper} {o : Oper} {a : Act} {Q : Exit → Act → World → Prop} (hgd : o.guard = none) (s x : Operand)
    (ho : o.op = .call { callee := .builtin .append, args := #[s, x], argTypes := #[24, 24] })
    {B : Nat} {w0 : World} (v : Value) (xs : List UInt8) (hs : a.eval s = v) (hb : Buf B w0 w v xs) (ad : Option Addr) (c : Nat) (l : List UInt8) (hx : a.eval x = .slice ad l.length c) (hl : Bs w ad l)
    (hn : ad = none → c = 0) (hlen : xs.length + l.length ≤ 140737488355328)
    (h : ∀ v' w', Buf B w0 w' v' (xs ++ l) → w.grownBy w' v.ownBlock → wpList Tryz.prog ops Q rest (a.put o.dst v') w') : wpList Tryz.prog ops Q (o :: rest) a w :=
  wpList_append_bytes hgd s x ho B v xs hs hb.1 ad c l hx hl hn hlen hb.le (fun v' w' h1 h2 => h v' w' (hb.grown h1 h2) h2)

/-- One byte, that lies in a new block. -/
theorem wpList_append_one {w : World} {ops : Array Oper} {rest : List Oper} {o : Oper} {a : Act} {Q : Exit → Act → World → Prop} (hgd : o.guard = none) (s x : Operand)
    (ho : o.op = .call { callee := .builtin .append, args := #[s, x], argTypes := #[24, 24] })
    {B : Nat} {w0 : World} (v : Value) (xs : List UInt8) (hs : a.eval s = v) (hb : Buf B w0 w v xs) (n : Int) (b : UInt8) (hnb : n = (b.toNat : Int)) (hx : a.eval x = .slice (some ⟨w.heap.size, 0, none⟩) 1 1)
    (hlen : xs.length + 1 ≤ 140737488355328)
    (h : ∀ v' w', Buf B w0 w' v' (xs ++ [b]) → w.grownBy w' v.ownBlock → wpList Tryz.prog ops Q rest (a.put o.dst v') w') : wpList Tryz.prog ops Q (o :: rest) a (w.alloc (.cells #[.int .u8 n] 5)) := by
  subst hnb
  have g : Below w.heap.size w (w.alloc (.cells #[.int .u8 (b.toNat : Int)] 5)) := (Below.refl _ _).alloc (Nat.le_refl _) _
  refine wpList_append_buf hgd s x ho v xs hs (hb.later g) _ 1 [b] hx (.block (heap_alloc_last _ _ _ rfl) rfl) (by simp) hlen (fun v' w' h1 h2 => h v' w' h1 ?_)
  exact ⟨h2.os, h2.tape, h2.output, Nat.le_trans g.size h2.size, fun k hk hne => (h2.block k (Nat.lt_of_lt_of_le hk g.size) hne).trans (g.block k hk)⟩

/-- A row of bytes that lies in a new block. -/
theorem wpList_append_new {w : World} {ops : Array Oper} {rest : List Oper} {o : Oper} {a : Act} {Q : Exit → Act → World → Prop} (hgd : o.guard = none) (s x : Operand)
    (ho : o.op = .call { callee := .builtin .append, args := #[s, x], argTypes := #[24, 24] })
    {B : Nat} {w0 : World} (v : Value) (xs : List UInt8) (hs : a.eval s = v) (hb : Buf B w0 w v xs) (C : Array Value) (l : List UInt8) (hC : C.toList = bcells l) (n c : Nat) (hx : a.eval x = .slice (some ⟨w.heap.size, 0, none⟩) n c) (hn : n = l.length)
    (hlen : xs.length + l.length ≤ 140737488355328)
    (h : ∀ v' w', Buf B w0 w' v' (xs ++ l) → w.grownBy w' v.ownBlock → wpList Tryz.prog ops Q rest (a.put o.dst v') w') : wpList Tryz.prog ops Q (o :: rest) a (w.alloc (.cells C 5)) := by
  subst hn
  have g : Below w.heap.size w (w.alloc (.cells C 5)) := (Below.refl _ _).alloc (Nat.le_refl _) _
  refine wpList_append_buf hgd s x ho v xs hs (hb.later g) _ c l hx (.block (heap_alloc_last _ _ _ rfl) ?_) (by simp) hlen (fun v' w' h1 h2 => h v' w' h1 ?_)
  · rw [hC, List.take_of_length_le (by rw [bcells_length]; omega)]; rfl
  · exact ⟨h2.os, h2.tape, h2.output, Nat.le_trans g.size h2.size, fun k hk hne => (h2.block k (Nat.lt_of_lt_of_le hk g.size) hne).trans (g.block k hk)⟩

/-- '[]byte{}'. -/
theorem Buf.made {B : Nat} {w0 w : World} (h : Below B w0 w) (hB : B ≤ w0.heap.size) : Buf B w0 (w.alloc (.cells #[] 5)) (.slice (some ⟨w.heap.size, 0, none⟩) 0 0) [] :=
  ⟨World.ownsRow_made w #[] 0 (Nat.le_trans hB h.size) (by decide) rfl, h.alloc (Nat.le_trans hB h.size) _, hB⟩

/-- 'b[k:]', k an Int. -/
theorem cut_from_i {P : Program} {w0 : World} {a : Option Addr} {l : List UInt8} (h : Bs w0 a l) (t : TypeId) {e : TypeId} (ht : P.underlying t = some (.slice e)) (hs : ∀ w : World, (sizeOf e).run P w = .ok 1 w) (cap : Nat) (ki : Int) (k : Nat) (hki : ki = k) (hc : l.length ≤ cap) (hn : a = none → cap = 0) (hk : k ≤ l.length) :
    ∃ a2 l2 cap2, l2 = l.drop k ∧ Bs w0 a2 l2 ∧ l2.length ≤ cap2 ∧ cap2 ≤ cap ∧ (a2 = none → cap2 = 0) ∧ ∀ w : World, (Instr.slice t (.slice a l.length cap) (some (.int .i64 ki)) none none).run P w = .ok (.slice a2 l2.length cap2) w := by
  subst hki; exact cut_from h t ht hs cap k hc hn hk

/-- 'b[i:k]', both Ints. -/
theorem cut_mid_i {P : Program} {w0 : World} {a : Option Addr} {l : List UInt8} (h : Bs w0 a l) (t : TypeId) {e : TypeId} (ht : P.underlying t = some (.slice e)) (hs : ∀ w : World, (sizeOf e).run P w = .ok 1 w) (cap : Nat) (ii ki : Int) (i k : Nat) (hii : ii = i) (hki : ki = k) (hc : l.length ≤ cap) (hn : a = none → cap = 0) (hi : i ≤ k) (hk : k ≤ l.length) :
    ∃ a2 l2 cap2, l2 = (l.drop i).take (k - i) ∧ l2.length = k - i ∧ Bs w0 a2 l2 ∧ l2.length ≤ cap2 ∧ cap2 ≤ cap ∧ (a2 = none → cap2 = 0) ∧ ∀ w : World, (Instr.slice t (.slice a l.length cap) (some (.int .i64 ii)) (some (.int .i64 ki)) none).run P w = .ok (.slice a2 l2.length cap2) w := by
  subst hii hki; exact cut_mid h t ht hs cap i k hc hn hi hk

/-- 'b[:k]', k an Int. -/
theorem cut_to_i {P : Program} {w0 : World} {a : Option Addr} {l : List UInt8} (h : Bs w0 a l) (t : TypeId) {e : TypeId} (ht : P.underlying t = some (.slice e)) (hs : ∀ w : World, (sizeOf e).run P w = .ok 1 w) (cap : Nat) (ki : Int) (k : Nat) (hki : ki = k) (hc : l.length ≤ cap) (hn : a = none → cap = 0) (hk : k ≤ l.length) :
    ∃ l2, l2 = l.take k ∧ l2.length = k ∧ Bs w0 a l2 ∧ ∀ w : World, (Instr.slice t (.slice a l.length cap) none (some (.int .i64 ki)) none).run P w = .ok (.slice a l2.length cap) w := by
  subst hki
  refine ⟨l.take k, rfl, by rw [List.length_take]; omega, h.take k, fun w => ?_⟩
  rw [run_slice_to t ht a l.length cap k (by omega) hn hs w, List.length_take, Nat.min_eq_left hk]

end Go.Proofs.YtponfkfeflnilaaGreatDoor
namespace Go.Proofs.YtponfkfeflnilaaGreatDoor
open Go.RowKit Go.Mix Go.WideMaps

theorem wpList_load_at {P : Program} {ops : Array Oper} {rest : List Oper} {o : Oper} {a : Act} {w : World} {Q : Exit → Act → World → Prop} (hgd : o.guard = none)
    (ty : TypeId) (x : Operand) (hop : o.op = .load ty x) (V v : Value) (hx : a.eval x = V) (hl : (Instr.loadAt ty V).run P w = .ok v w)
    (h : wpList P ops Q rest (a.put o.dst v) w) : wpList P ops Q (o :: rest) a w :=
  wpList_plain hgd fun _ hK => by
    unfold Oper.wp execOp
    simp only [hop, hx, Sem.run_bind, Sem.run_pure, Result.andThen_ok, hl]
    exact hK _ _ h
theorem wpList_load_g {P : Program} {ops : Array Oper} {rest : List Oper} {o : Oper} {a : Act} {w : World} {Q : Exit → Act → World → Prop} (hw : Region.wanted o (yielded ops a.tmps) = true)
    (ty : TypeId) (x : Operand) (hop : o.op = .load ty x) (V v : Value) (hx : a.eval x = V) (hl : (Instr.loadAt ty V).run P w = .ok v w)
    (h : wpList P ops Q rest (a.put o.dst v) w) : wpList P ops Q (o :: rest) a w := by
  unfold wpList
  rw [if_pos hw]
  refine .inl ?_
  unfold Oper.wp execOp
  simp only [hop, hx, Sem.run_bind, Sem.run_pure, Result.andThen_ok, hl]
  exact h
theorem below_setRow {B : Nat} {a w : World} (h : Below B a w) {g : Nat} (hg : B ≤ g) (cs : Array Value) : Below B a (w.setRow g cs) :=
  ⟨h.os, h.tape, h.output, by rw [setRow_size]; exact h.size, fun k hk => by rw [setRow_other w g k cs (by omega)]; exact h.block k hk⟩
theorem mg_look {P : Program} {ops : Array Oper} {Q : Act → World → Prop} {i : Nat} {r : List (Nat × Nat)} {o : Oper} {a : Act} {w : World} (ho : ops[i]? = some o) (hw : Region.wanted o (yielded ops a.tmps) = true)
    (ty : TypeId) (x k : Operand) (hop : o.op = .lookup ty x k false) (V K v : Value) (hx : a.eval x = V) (hk : a.eval k = K) (hl : ∀ y : Later w, (Instr.lookup ty V K false).run P y.1 = .ok v y.1)
    (h : MG P ops Q r (a.put o.dst v) w) : MG P ops Q ((i, 0) :: r) a w := mg_calm ho fun K' hK => by
  unfold calmStep
  rw [if_pos hw]
  refine ⟨v, fun y => ?_, hK _ h⟩
  unfold calmAt execOp
  simp only [hop, hx, hk, Sem.run_bind, Sem.run_pure, Result.andThen_ok, hl y]
  exact ⟨rfl, rfl⟩
/-- A value in a box. -/
theorem recBox {α : Type} {enc : α → List Value} {W : World} {B : Nat} {p : α} {t : TypeId} {fr : Nat × Nat} (h : W.heap[B]? = some (.cells (recA enc p) t fr)) : W.rangeAt B 0 (enc p) := fun j v hj => by
  rw [cell_of_row _ _ _ _ _ _ h, Nat.zero_add]
  simpa [recA] using hj
/-- A load of one cell, in whatever world that is grown. -/
theorem load_later {w : World} {b o : Nat} {v : Value} (h : w.cell? ⟨b, o, none⟩ = some v) (y : Later w) : y.1.cell? ⟨b, o, none⟩ = some v := (y.2.cell (p := ⟨b, o, none⟩) (lt_of_cell h)).trans h
/-- A store of one cell into a box. -/
theorem wpList_store_cell {P : Program} {ops : Array Oper} {rest : List Oper} {o : Oper} {a : Act} {w : World} {Q : Exit → Act → World → Prop} (hgd : o.guard = none) (ty : TypeId) (x y : Operand) (ho : o.op = .store ty x y)
    (hd : o.dst = none) (g k : Nat) (v : Value) (hx : a.eval x = .pointer (some ⟨g, k, none⟩)) (hy : a.eval y = v) (h1 : v.oneCell' = true)
    (t : TypeId) (old : List Value) (hg : w.heap[g]? = some (.cells old.toArray t (0, 0))) (hk : k < old.length) (hi : (P.info? ty).map (·.size) = some 1)
    (h : wpList P ops Q rest a (w.setRow g (old.take k ++ [v] ++ old.drop (k + 1)).toArray)) : wpList P ops Q (o :: rest) a w :=
  wpList_plain hgd fun _ hK => by
    have hc : v.cells = #[v] := by cases v <;> first | rfl | cases h1
    have hs := run_storeCells_at P g k t [v] 0 old.toArray w hg (by simp; omega) (fun x hx => by simp at hx; subst hx; exact h1)
    have hr : (storeVar ty ⟨g, k, none⟩ v).run P w = .ok () (w.setRow g (old.take k ++ [v] ++ old.drop (k + 1)).toArray) := by
      cases hq : P.info? ty with
      | none => simp [hq] at hi
      | some i =>
        have hsz : i.size = 1 := by simpa [hq] using hi
        have : (sizeOf ty).run P w = .ok 1 w := by simp [sizeOf, typeInfo, hq, hsz]
        simp at hs
        simp [storeVar, this, hc, hs]
    unfold Oper.wp execOp
    simp only [ho, hx, hy, Instr.storeAt, Instr.sureAddr, Sem.run_bind, Sem.run_pure, Result.andThen_ok, hr]
    refine hK _ _ ?_
    rw [hd]
    exact h
end Go.Proofs.YtponfkfeflnilaaGreatDoor
namespace Go.Proofs.YtponfkfeflnilaaGreatDoor
open Go.RowKit Go.Mix

theorem sizeOf_u8 (w : World) : (sizeOf 5).run Tryz.prog w = .ok 1 w := by kernel_rfl
theorem neq0 (x : Nat) (h : x ≠ 0) : (((x : Nat) : Int) != 0) = true := by rw [bne_iff_ne]; omega
theorem eq0 (x : Nat) (h : x ≠ 0) : (((x : Nat) : Int) == 0) = false := by rw [beq_eq_false_iff_ne]; omega

theorem xor_255 : ∀ x, x < 256 → 255 ^^^ x = 255 - x := by decide +kernel
theorem not_u8 (x : Int) (k : Nat) (hx : x = (k : Int)) (h : k < 256) : bits .xor .u8 IntKind.u8.max x = ((255 - k : Nat) : Int) := by
  subst hx
  have e : IntKind.u8.max = ((255 : Nat) : Int) := by decide
  rw [e, u8_xor_nat 255 k (by decide) h, xor_255 k h]

theorem OwnB.other {w : World} {B P : Nat} {v : Value} {l : List UInt8} {C : Array Value} {e : TypeId} {fr : Nat × Nat} (h : OwnB w B v l) (hP : w.heap[P]? = some (.cells C e fr)) (he : e ≠ 5) : v.ownBlock ≠ some P := by
  rcases h.2 with ⟨rfl, _⟩ | ⟨g, cap, cur, rfl, _, hg, _⟩
  · simp [Value.ownBlock]
  · simp [Value.ownBlock]
    rintro rfl
    rw [hg] at hP
    simp at hP
    exact he hP.2.1.symm

theorem OwnB.apart {w w' : World} {B : Nat} {v v2 : Value} {l : List UInt8} (h : OwnB w B v l) (hlt : ∀ k, v2.ownBlock = some k → k < B) (hg : w.grownBy w' v2.ownBlock) : OwnB w' B v l := by
  refine World.ownsRow.kept h hg ?_
  cases hv : v.ownBlock with
  | none => exact .inl rfl
  | some k =>
    refine .inr fun e => ?_
    have h1 := (World.ownsRow.lt h k hv).1
    have h2 := hlt k e.symm
    omega

theorem OwnB.bs_of {w : World} {B : Nat} {a : Option Addr} {n c : Nat} {l : List UInt8} (h : OwnB w B (.slice a n c) l) : Bs w a l := by
  obtain ⟨a', c', e, hb, _⟩ := h.bs
  injection e with e1
  rw [e1]; exact hb

theorem Buf.rebase {B B' : Nat} {w0 w1 w : World} {v : Value} {l : List UInt8} (h : Buf B' w1 w v l) (hB : B ≤ B') (g : Below B w0 w1) (hB2 : B ≤ w0.heap.size) : Buf B w0 w v l := by
  refine ⟨?_, g.trans (h.2.1.mono hB), hB2⟩
  obtain ⟨h1, h2⟩ := h.1
  refine ⟨h1, h2.imp id ?_⟩
  rintro ⟨g, cap, cur, e, hg, r⟩
  exact ⟨g, cap, cur, e, Nat.le_trans hB hg, r⟩

/-- The slice (a, l.length, cap) reads as l. -/
structure Sl (w : World) (a : Option Addr) (cap : Nat) (l : List UInt8) : Prop where
  bs : Bs w a l
  le : l.length ≤ cap
  max : cap ≤ 9223372036854775807
  non : a = none → cap = 0

theorem Sl.below {w w' : World} {a : Option Addr} {cap : Nat} {l : List UInt8} (h : Sl w a cap l) (g : Below w.heap.size w w') : Sl w' a cap l := ⟨h.bs.below g, h.le, h.max, h.non⟩

theorem OwnB.sl {w : World} {B : Nat} {v : Value} {l : List UInt8} (h : OwnB w B v l) : ∃ a cap, v = .slice a l.length cap ∧ Sl w a cap l := by
  obtain ⟨a, cap, rfl, hb, hc, hm, hn⟩ := h.bs
  exact ⟨a, cap, rfl, hb, hc, hm, fun e => (hn e).2⟩

theorem Sl.str {w : World} {a : Option Addr} {cap : Nat} {l : List UInt8} (h : Sl w a cap l) : (convert 24 9 (.slice a l.length cap)).run Tryz.prog w = .ok (.string ⟨l.toArray⟩) w :=
  run_string_of_bytes (P := Tryz.prog) h.bs 24 5 9 Tryz.underlying24 Tryz.underlying5 Tryz.underlying9 cap

def RowIn (w : World) (a : Option Addr) (len cap : Nat) (zs : List Int) : Prop :=
  (a = none ∧ len = 0 ∧ cap = 0 ∧ zs = []) ∨ ∃ x, a = some x ∧ len ≤ cap ∧ cap ≤ maxLen ∧ zs.length = cap ∧ (∀ i, i < zs.length → w.cell? (x.add i) = some (.int .u8 (zs.getD i 0))) ∧ ∀ n ∈ zs, (Lit.int .u8 n).wf = true

/-- What an argument of a law is. -/
theorem open_sl {w : World} {a : Option Addr} {len cap : Nat} {zs : List Int} (h : RowIn w a len cap zs) : ∃ L : List UInt8, L.length = len ∧ Sl w a cap L := by
  obtain ⟨L, hL, hb, hle, hc, hn⟩ := open_row h
  exact ⟨L.take len, by rw [List.length_take]; omega, hb.take _, by rw [List.length_take]; omega, hc, fun e => (hn e).2⟩

/-- 's[:k]', 's[k:]', 's[i:k]' of such a slice, the bounds as Ints. -/
theorem Sl.to {w : World} {a : Option Addr} {cap : Nat} {l : List UInt8} (h : Sl w a cap l) (ki : Int) (k : Nat) (hki : ki = k) (hk : k ≤ l.length) :
    ∃ l2, l2 = l.take k ∧ l2.length = k ∧ Sl w a cap l2 ∧ ∀ w : World, (Instr.slice 24 (.slice a l.length cap) none (some (.int .i64 ki)) none).run Tryz.prog w = .ok (.slice a l2.length cap) w := by
  obtain ⟨l2, h1, h2, h3, h4⟩ := cut_to_i (P := Tryz.prog) h.bs 24 Tryz.underlying24 sizeOf_u8 cap ki k hki h.le h.non hk
  exact ⟨l2, h1, h2, ⟨h3, by have := h.le; omega, h.max, h.non⟩, h4⟩
theorem Sl.from {w : World} {a : Option Addr} {cap : Nat} {l : List UInt8} (h : Sl w a cap l) (ki : Int) (k : Nat) (hki : ki = k) (hk : k ≤ l.length) :
    ∃ a2 l2 cap2, l2 = l.drop k ∧ Sl w a2 cap2 l2 ∧ ∀ w : World, (Instr.slice 24 (.slice a l.length cap) (some (.int .i64 ki)) none none).run Tryz.prog w = .ok (.slice a2 l2.length cap2) w := by
  obtain ⟨a2, l2, cap2, h1, h2, h3, h4, h5, h6⟩ := cut_from_i (P := Tryz.prog) h.bs 24 Tryz.underlying24 sizeOf_u8 cap ki k hki h.le h.non hk
  exact ⟨a2, l2, cap2, h1, ⟨h2, h3, by have := h.max; omega, h5⟩, h6⟩
theorem Sl.mid {w : World} {a : Option Addr} {cap : Nat} {l : List UInt8} (h : Sl w a cap l) (ii ki : Int) (i k : Nat) (hii : ii = i) (hki : ki = k) (hi : i ≤ k) (hk : k ≤ l.length) :
    ∃ a2 l2 cap2, l2 = (l.drop i).take (k - i) ∧ l2.length = k - i ∧ Sl w a2 cap2 l2 ∧ ∀ w : World, (Instr.slice 24 (.slice a l.length cap) (some (.int .i64 ii)) (some (.int .i64 ki)) none).run Tryz.prog w = .ok (.slice a2 l2.length cap2) w := by
  obtain ⟨a2, l2, cap2, h1, h1n, h2, h3, h4, h5, h6⟩ := cut_mid_i (P := Tryz.prog) h.bs 24 Tryz.underlying24 sizeOf_u8 cap ii ki i k hii hki h.le h.non hi hk
  exact ⟨a2, l2, cap2, h1, h1n, ⟨h2, h3, by have := h.max; omega, h5⟩, h6⟩
/-- 's[k]': where it lies, what it holds. -/
theorem Sl.at {w : World} {a : Option Addr} {cap : Nat} {l : List UInt8} (h : Sl w a cap l) (ki : Int) (k : Nat) (hki : ki = k) (hk : k < l.length) :
    (∀ w : World, (Instr.indexAt 24 (.slice a l.length cap) (.int .i64 ki)).run Tryz.prog w = .ok (.pointer (some (elt a k))) w) ∧ w.cell? (elt a k) = some (.int .u8 (l[k].toNat : Int)) := by
  subst hki
  exact ⟨fun w => run_index_any (P := Tryz.prog) h.bs.cells 24 Tryz.underlying24 sizeOf_u8 cap (n := l.length) hk (by rw [bcells_length]; omega) .i64 w, h.bs.cell hk⟩

/-- '[]byte(s)'. -/
theorem bytes_made (w : World) (s : ByteArray) (hs : s.size ≤ 140737488355328) :
    ∃ cap w', (convert 9 24 (.string s)).run Tryz.prog w = .ok (.slice (some ⟨w.heap.size, 0, none⟩) s.size cap) w' ∧ Sl w' (some ⟨w.heap.size, 0, none⟩) cap s.data.toList ∧ Below w.heap.size w w' := by
  have hsz : s.data.toList.length = s.size := Array.length_toList
  refine ⟨_, _, Lib.run_convert_string_bytes w 9 24 5 s Tryz.underlying9 Tryz.underlying24 Tryz.underlying5, ⟨?_, ?_, ?_, fun h => nomatch h⟩, ?_⟩
  · have hlen : (Lib.bytesCells w 5 s).toList.take s.data.toList.length = bcells s.data.toList := by
      unfold Lib.bytesCells
      rw [Array.toList_append, List.take_append_of_le_length (by simp)]
      refine (List.take_of_length_le ?_).trans ?_
      · simp
      · simp [bcells]
    exact .block (Lib.bytesWorld_at_new w 5 s) hlen
  · rw [hsz]; exact grownCap_ge _ _ _ _
  · have := grownCap_le_maxLen w s.size 0 5 (by unfold maxLen; omega)
    unfold maxLen at this; omega
  · refine ⟨rfl, rfl, rfl, by rw [Lib.bytesWorld_size]; omega, fun k hk => Lib.bytesWorld_at_old w _ _ k hk⟩
end Go.Proofs.YtponfkfeflnilaaGreatDoor
namespace Go.Proofs.YtponfkfeflnilaaGreatDoor
open Go.RowKit Go.Mix

theorem foldl_place : ∀ (X : List Value) (off k : Nat) (C : Array Value), off + k + X.length ≤ C.size →
    ((X.zipIdx k).foldl (fun cs (c : Value × Nat) => cs.setIfInBounds (off + c.2) c.1) C).toList = C.toList.take (off + k) ++ X ++ C.toList.drop (off + k + X.length)
  | [], off, k, C, _ => by simp
  | x :: X, off, k, C, h => by
    simp only [List.length_cons] at h
    have hlt : off + k < C.toList.length := by rw [Array.length_toList]; omega
    rw [List.zipIdx_cons, List.foldl_cons, foldl_place X off (k + 1) _ (by rw [Array.size_setIfInBounds]; omega)]
    rw [Array.toList_setIfInBounds, List.length_cons]
    have e1 : (C.toList.set (off + k) x).take (off + (k + 1)) = C.toList.take (off + k) ++ [x] := by
      rw [show off + (k + 1) = off + k + 1 by omega, List.take_add_one, List.take_set_of_le (by omega)]
      simp [List.getElem?_set]
      simpa using hlt
    have e2 : (C.toList.set (off + k) x).drop (off + (k + 1) + X.length) = C.toList.drop (off + k + (X.length + 1)) := by
      rw [List.drop_set_of_lt (by omega), show off + (k + 1) + X.length = off + k + (X.length + 1) by omega]
    rw [e1, e2]
    simp
theorem fill_two {place : Nat → Option (Nat × Nat)} {C X Y : Array Value} {n m : Nat} (h0 : place 0 = some (0, n)) (h1 : place 1 = some (n, m)) (hC : C.size = n + m) (hX : X.size = n) (hY : Y.size = m) :
    Instr.fill place C [(0, .agg X), (1, .agg Y)] = some (X ++ Y) := by
  have f0 : ((X.zipIdx.foldl (fun cs (c : Value × Nat) => cs.setIfInBounds (0 + c.2) c.1) C)).toList = X.toList ++ C.toList.drop n := by
    have := foldl_place X.toList 0 0 C (by simp; omega)
    rw [← Array.foldl_toList, Array.toList_zipIdx, this]; simp [hX]
  have s0 : (X.zipIdx.foldl (fun cs (c : Value × Nat) => cs.setIfInBounds (0 + c.2) c.1) C).size = n + m := by
    rw [← Array.length_toList, f0]; simp [hX, hC]
  have f1 : ((Y.zipIdx.foldl (fun cs (c : Value × Nat) => cs.setIfInBounds (n + c.2) c.1) (X.zipIdx.foldl (fun cs (c : Value × Nat) => cs.setIfInBounds (0 + c.2) c.1) C))).toList = X.toList ++ Y.toList := by
    have := foldl_place Y.toList n 0 (X.zipIdx.foldl (fun cs (c : Value × Nat) => cs.setIfInBounds (0 + c.2) c.1) C) (by rw [s0]; simp; omega)
    rw [← Array.foldl_toList (xs := Y.zipIdx), Array.toList_zipIdx, this, f0]
    have hl : X.toList.length = n := by simpa using hX
    have hd : C.toList.length = n + m := by simpa using hC
    rw [Nat.add_zero, List.take_append_of_le_length (by omega), List.take_of_length_le (by omega), List.drop_of_length_le (by simp; omega), List.append_nil]
  have eX : (Value.agg X).cells = X := rfl
  have eY : (Value.agg Y).cells = Y := rfl
  simp only [Instr.fill, h0, h1, eX, eY, hX, hY, hC, s0, ne_eq, not_true_eq_false, decide_false, Bool.false_or, decide_eq_true_eq]
  rw [if_neg (by omega), if_neg (by omega)]
  congr 1
  exact Array.ext' (by rw [Array.toList_append]; exact f1)
theorem fill_cons {place : Nat → Option (Nat × Nat)} {C : List Value} {k o n : Nat} {v : Value} {rest : List (Nat × Value)} (h0 : place k = some (o, n)) (hv : v.cells.size = n) (hC : o + n ≤ C.length) :
    Instr.fill place C.toArray ((k, v) :: rest) = Instr.fill place (C.take o ++ v.cells.toList ++ C.drop (o + n)).toArray rest := by
  have f0 : ((v.cells.zipIdx.foldl (fun cs (c : Value × Nat) => cs.setIfInBounds (o + c.2) c.1) C.toArray)) = (C.take o ++ v.cells.toList ++ C.drop (o + n)).toArray := by
    have := foldl_place v.cells.toList o 0 C.toArray (by simp; omega)
    refine Array.ext' ?_
    rw [← Array.foldl_toList, Array.toList_zipIdx, this]
    simp [hv]
  simp only [Instr.fill, h0, hv, ne_eq, not_true_eq_false, decide_false, Bool.false_or, decide_eq_true_eq]
  rw [if_neg (by simp; omega)]
  rw [f0]
theorem parts_map {a : Act} {ps : Array (Nat × Operand)} {PS : List (Nat × Value)} (hx : (ps.toList.map fun p => (p.1, a.eval p.2)) = PS) : (ps.map fun (i, x) => (i, a.eval x)) = PS.toArray :=
  Array.ext' (by rw [Array.toList_map]; exact hx)
theorem wpList_build_at {P : Program} {ops : Array Oper} {rest : List Oper} {o : Oper} {a : Act} {w : World} {Q : Exit → Act → World → Prop} (hgd : o.guard = none)
    (ty : TypeId) (ps : Array (Nat × Operand)) (hop : o.op = .build ty ps) (PS : List (Nat × Value)) (v : Value) (hx : (ps.toList.map fun p => (p.1, a.eval p.2)) = PS) (hl : (Instr.build ty PS.toArray).run P w = .ok v w)
    (h : wpList P ops Q rest (a.put o.dst v) w) : wpList P ops Q (o :: rest) a w :=
  wpList_plain hgd fun _ hK => by
    unfold Oper.wp execOp
    simp only [hop, parts_map hx, Sem.run_bind, Sem.run_pure, Result.andThen_ok, hl]
    exact hK _ _ h
theorem wpList_buildSlice_at {P : Program} {ops : Array Oper} {rest : List Oper} {o : Oper} {a : Act} {w w' : World} {Q : Exit → Act → World → Prop} (hgd : o.guard = none)
    (ty : TypeId) (n : Nat) (ps : Array (Nat × Operand)) (hop : o.op = .buildSlice ty n ps) (PS : List (Nat × Value)) (v : Value) (hx : (ps.toList.map fun p => (p.1, a.eval p.2)) = PS) (hl : (Instr.buildSlice ty n PS.toArray).run P w = .ok v w')
    (h : wpList P ops Q rest (a.put o.dst v) w') : wpList P ops Q (o :: rest) a w :=
  wpList_plain hgd fun _ hK => by
    unfold Oper.wp execOp
    simp only [hop, parts_map hx, Sem.run_bind, Sem.run_pure, Result.andThen_ok, hl]
    exact hK _ _ h
theorem fill_nil {place : Nat → Option (Nat × Nat)} {C : Array Value} : Instr.fill place C [] = some C := rfl
theorem built_struct {P : Program} {t : TypeId} {it : TypeInfo} {fields : Array Field} {z : Value} {places : List (Nat × Nat)} {parts : List (Nat × Value)} {cells : Array Value} (hi : P.info? t = some it) (hu : P.underlying t = some (.struct fields))
    (hz : it.zero = some z) (hp : fields.toList.mapM (fun f => (P.info? f.type).map fun i => (f.offset, i.size)) = some places) (h : Instr.fill (places.toArray[·]?) z.cells parts = some cells) : P.built t parts = some cells := by
  unfold Program.built
  rw [hi, hu]
  simp only [hz, hp]
  exact h
/-- A type's cells: its zero value, and where its fields lie. -/
theorem built_at {P : Program} {t : TypeId} {fields : Array Field} {Z : List Value} {places : List (Nat × Nat)} {parts : List (Nat × Value)} {cells : List Value} (hi : (P.info? t).map (·.zero) = some (some (.agg Z.toArray))) (hu : P.underlying t = some (.struct fields))
    (hp : fields.toList.mapM (fun f => (P.info? f.type).map fun i => (f.offset, i.size)) = some places) (h : Instr.fill (places.toArray[·]?) Z.toArray parts = some cells.toArray) (w : World) : (Instr.build t parts.toArray).run P w = .ok (.agg cells.toArray) w := by
  refine run_build w t _ _ ?_
  cases hit : P.info? t with
  | none => rw [hit] at hi; cases hi
  | some it =>
    rw [hit] at hi
    have hz : it.zero = some (.agg Z.toArray) := by injection hi
    exact built_struct hit hu hz hp h

section
variable {α : Type} [Inhabited α] {enc : α → List Value} {L : Nat} {t e : TypeId}

def partsR (enc : α → List Value) (ps : List α) (k : Nat) : List (Nat × Value) := (ps.zipIdx k).map fun x => (x.2, .agg (recA enc x.1))
theorem RecTy.fill (T : RecTy α enc L t e) : ∀ (ps : List α) (k : Nat) (C : List Value), C.length = (k + ps.length) * L → Instr.fill (fun i => some (i * L, L)) C.toArray (partsR enc ps k) = some (C.take (k * L) ++ flatR enc ps).toArray
  | [], k, C, h => by
    rw [List.length_nil, Nat.add_zero] at h
    unfold partsR
    rw [List.zipIdx_nil, List.map_nil, fill_nil, List.take_of_length_le (by omega)]
    simp [flatR]
  | p :: ps, k, C, h => by
    have hz : (recA enc p).size = L := by simp [recA, T.len]
    have e1 : (k + (p :: ps).length) * L = k * L + L + ps.length * L := by rw [List.length_cons, Nat.add_mul, Nat.succ_mul]; omega
    have e2 : (k + 1 + ps.length) * L = k * L + L + ps.length * L := by rw [Nat.add_mul, Nat.succ_mul]
    have h1 := RecTy.fill T ps (k + 1) (C.take (k * L) ++ (Value.agg (recA enc p)).cells.toList ++ C.drop (k * L + L)) (by
      simp only [Value.cells, List.length_append, List.length_take, List.length_drop, Array.length_toList, hz]
      omega)
    unfold partsR at h1 ⊢
    rw [List.zipIdx_cons, List.map_cons]
    show Instr.fill _ _ ((k, Value.agg (recA enc p)) :: _) = _
    rw [fill_cons (v := Value.agg (recA enc p)) (o := k * L) (n := L) rfl hz (by omega), h1]
    congr 1
    congr 1
    have e3 : (k + 1) * L = k * L + L := Nat.succ_mul k L
    have e4 : (C.take (k * L) ++ (Value.agg (recA enc p)).cells.toList).length = (k + 1) * L := by
      simp only [Value.cells, List.length_append, List.length_take, Array.length_toList, hz]
      omega
    rw [List.take_append_of_le_length (by omega), List.take_of_length_le (by omega), List.append_assoc]
    congr 1
/-- 'T{p, q, ..}' of a slice type. -/
theorem RecTy.sliceL (T : RecTy α enc L t e) (ps : List α) (h0 : 0 < ps.length) (h1 : ps.length ≤ 100) (w : World) :
    (Instr.buildSlice t ps.length (partsR enc ps 0).toArray).run Tryz.prog w = .ok (.slice (some ⟨w.heap.size, 0, none⟩) ps.length ps.length) (w.alloc (.cells (flatR enc ps).toArray e)) := by
  obtain ⟨z, by_, hi0, hzs, hby⟩ := T.hi
  obtain ⟨i, hi, hz0, hz1, hz2⟩ := info_parts hi0
  have hpos := T.pos
  have hsm := T.small
  have hm := Nat.mul_le_mul h1 hsm
  have hp : 0 < ps.length * L := Nat.mul_pos h0 hpos
  refine run_buildSlice w t e _ _ _ i _ T.ht hi hz0 (by rw [hz1]; omega) (by rw [hz1]; omega) ?_
  rw [hz1]
  have hs : ((Array.range (ps.length * L)).map (z[· % z.size]!)).toList.length = (0 + ps.length) * L := by simp
  have := T.fill ps 0 _ hs
  simp only [Nat.zero_mul, List.take_zero, List.nil_append] at this
  exact this
theorem RecTy.slice1 (T : RecTy α enc L t e) (p : α) (w : World) :
    (Instr.buildSlice t 1 #[(0, .agg (recA enc p))]).run Tryz.prog w = .ok (.slice (some ⟨w.heap.size, 0, none⟩) 1 1) (w.alloc (.cells (recA enc p) e)) := by
  have := T.sliceL [p] (by simp) (by simp) w
  rw [flatR_one] at this
  exact this
/-- Values that lie in a new block. -/
theorem RecTy.rsNew (T : RecTy α enc L t e) (w : World) (ps : List α) (h0 : ps.length ≤ 9223372036854775807) : RsAt enc L (w.alloc (.cells (flatR enc ps).toArray e)) (some ⟨w.heap.size, 0, none⟩) ps.length ps := by
  refine ⟨Nat.le_refl _, h0, (fun h => nomatch h), .inr ⟨_, 0, rfl, (T.range_flat ps 0).1 fun j v hj => ?_⟩⟩
  rw [cell_of_row _ _ _ _ _ _ (heap_alloc_last w _ _ rfl), Nat.zero_add]
  simpa using hj
end
end Go.Proofs.YtponfkfeflnilaaGreatDoor
namespace Go.Proofs.YtponfkfeflnilaaGreatDoor
open Go.RowKit Go.Mix

section
variable {α : Type} [Inhabited α] {enc : α → List Value} {L : Nat} {t e : TypeId}
set_option maxRecDepth 100000 in
theorem wpList_append_empty_r (T : RecTy α enc L t e) {w0 w : World} {ops : Array Oper} {rest : List Oper} {o : Oper} {a : Act} {Q : Exit → Act → World → Prop} (hwant : Region.wanted o (yielded ops a.tmps) = true) (s x : Operand)
    (ho : o.op = .call { callee := .builtin .append, args := #[s, x], argTypes := #[t, t] })
    (g : Nat) (hs : a.eval s = .slice (some ⟨g, 0, none⟩) 0 0) (hO : OwnR enc L e w0 w (.slice (some ⟨g, 0, none⟩) 0 0) []) (ad : Option Addr) (n c : Nat) (l : List α) (hx : a.eval x = .slice ad n c) (hn : n = l.length) (hl : RsAt enc L w ad c l)
    (hlen : l.length ≤ 1000000000)
    (h : ∀ v' w', OwnR enc L e w0 w' v' l → Grow w w' → wpList Tryz.prog ops Q rest (a.put o.dst v') w') : wpList Tryz.prog ops Q (o :: rest) a w := by
  subst hn
  have hsmall := T.small
  have hpos := T.pos
  have key : ∃ v' w', (Builtin.append_ #[t, t] o.type #[.slice (some ⟨g, 0, none⟩) 0 0, .slice ad l.length c]).run Tryz.prog w = .ok v' w' ∧ OwnR enc L e w0 w' v' l ∧ Grow w w' := by
    obtain ⟨z, by_, hi0, hzs, hby⟩ := T.hi
    obtain ⟨i, hi, hz0, hz1, hz2⟩ := info_parts hi0
    have hbound : l.length * by_ ≤ 140737488355328 := Nat.le_trans (Nat.mul_le_mul hlen hby) (by decide)
    obtain ⟨hO1, hO2⟩ := hO.own
    rcases hO2 with ⟨hv, _⟩ | ⟨g', cap, cur, hv, hb, hh, hn, hm, hcs, ht⟩
    · cases hv
    injection hv with h1 h2 h3
    injection h1 with h1
    injection h1 with h1
    subst h1 h3
    have hcur : cur = #[] := Array.eq_empty_of_size_eq_zero (by omega)
    subst hcur
    cases ad with
    | none =>
      have h0 := hl.non rfl
      subst h0
      have e0 : l = [] := List.eq_nil_of_length_eq_zero (by have := hl.le; omega)
      subst e0
      have hrun := run_append_owned_none (P := Tryz.prog) (w := w) 0 t o.type e i L T.ht (by rw [hi]) (.slice (some ⟨g, 0, none⟩) 0 0) 0 [] ⟨by simp, .inr ⟨g, 0, #[], rfl, Nat.zero_le _, hh, Nat.le_refl _, by decide, by simp, by simp⟩⟩
      exact ⟨_, w, hrun, hO, Grow.refl _⟩
    | some ad =>
      cases l with
      | nil =>
        have hrun := run_append_room (P := Tryz.prog) w t o.type e i T.ht hi g 0 0 #[] hh ad 0 c [] (by simp) (by simp) (by simp) (by simp) (by simp)
        simp only [List.take_nil, List.drop_nil, List.append_nil] at hrun
        rw [setRow_self w g #[] _ _ hh] at hrun
        exact ⟨_, _, hrun, hO, Grow.refl _⟩
      | cons y ys =>
        generalize hgl : y :: ys = l at *
        have hll : 0 < l.length := by rw [← hgl]; simp
        have hfl := T.flat_len l
        rcases hl.cells with h0 | ⟨b, off, hbe, hc⟩
        · rw [h0] at hll; simp at hll
        injection hbe with hbe
        subst hbe
        have hcells : ∀ j u, (flatR enc l)[j]? = some u → w.cell? ((⟨b, off, none⟩ : Addr).add j) = some u := fun j u hu => by
          rw [Addr.add_mid]
          exact (T.range_flat l off).2 hc j u hu
        have hrun := run_append_grow (P := Tryz.prog) w t o.type e i (.agg z) T.ht hi hz0 ⟨g, 0, none⟩ 0 0 [] (by simp) (by simp) ⟨b, off, none⟩ l.length c (flatR enc l) (by rw [hfl, hz1]) hcells (by omega) (by omega)
          (by rw [Nat.zero_add, nextslicecap_zero (by omega), hz2]; omega)
        simp only [Nat.zero_add] at hrun
        have hge := grownCap_ge w l.length 0 e
        have hle := grownCap_le_maxLen w l.length 0 e (by unfold maxLen; omega)
        refine ⟨_, _, hrun, ⟨⟨hfl, .inr ⟨w.heap.size, _, _, rfl, hO.frame.size, heap_alloc_last _ _ _ rfl, hge, hle, ?_, ?_⟩⟩, ?_⟩, ((Below.refl _ _).drew).alloc (by simp) _⟩
        · have hzc : (Value.cells (.agg z)).size = L := by simpa [Value.cells] using hzs
          simp only [Array.size_append, List.size_toArray, size_zeroCells, hzc, hfl, List.length_nil, Nat.zero_add, ← Nat.add_mul]
          congr 1
          omega
        · simp only [Array.toList_append, List.nil_append]
          rw [← hfl]
          exact List.take_left
        · exact hO.frame.trans ((((Below.refl _ _).drew).alloc (by simp) _).mono hO.frame.size)
  obtain ⟨v', w', hrun, h1, h2⟩ := key
  unfold wpList
  rw [if_pos hwant]
  refine .inl ?_
  unfold Oper.wp execOp
  simp only [ho, resolve, invoke, builtin, Sem.run_bind, Sem.run_pure, Result.andThen_ok, List.map_toArray, List.map_cons, List.map_nil, hs, hx, hrun]
  exact h v' w' h1 h2
omit [Inhabited α] in
theorem OwnR.empty (L : Nat) (enc : α → List Value) {w0 w : World} {e : TypeId} {g : Nat} (hg : w0.heap.size ≤ g) (hb : w.heap[g]? = some (.cells #[] e (0, 0))) (hf : Grow w0 w) : OwnR enc L e w0 w (.slice (some ⟨g, 0, none⟩) 0 0) [] :=
  ⟨⟨by simp [flatR], .inr ⟨g, 0, #[], rfl, hg, hb, Nat.le_refl _, by decide, by simp, by simp [flatR]⟩⟩, hf⟩
theorem RsAt.block {w : World} {e : TypeId} {g : Nat} {p : α} {fr : Nat × Nat} (hb : w.heap[g]? = some (.cells (recA enc p) e fr)) : RsAt enc L w (some ⟨g, 0, none⟩) 1 [p] := by
  refine ⟨Nat.le_refl _, by decide, (fun h => nomatch h), .inr ⟨_, 0, rfl, fun j hj => ?_⟩⟩
  obtain rfl : j = 0 := by simpa using hj
  intro i v hi
  rw [show 0 + 0 * L + i = i by omega, cell_of_row _ _ _ _ _ _ hb]
  simpa [recA] using hi
theorem RecTy.slice0 (T : RecTy α enc L t e) (w : World) : (Instr.buildSlice t 0 (([] : List (Nat × Value)).toArray)).run Tryz.prog w = .ok (.slice (some ⟨w.heap.size, 0, none⟩) 0 0) (w.alloc (.cells #[] e)) := by
  simp [Instr.buildSlice, run_underlying T.ht, T.se, Instr.fill, newRow]
  rw [show Array.range 0 = #[] from by decide, Array.map_empty]
omit [Inhabited α] in
/-- An empty row, made. -/
theorem OwnR.made (L : Nat) (enc : α → List Value) (w : World) (e : TypeId) : OwnR enc L e w (w.alloc (.cells #[] e)) (.slice (some ⟨w.heap.size, 0, none⟩) 0 0) [] :=
  ⟨World.ownsRow_made w #[] 0 (Nat.le_refl _) (by decide) (by simp), (Below.refl _ _).alloc (Nat.le_refl _) _⟩
end
theorem wpList_unguardR {P : Program} {ops : Array Oper} {rest : List Oper} {o : Oper} {a : Act} {w : World} {Q : Exit → Act → World → Prop} (hw : Region.wanted o (yielded ops a.tmps) = true)
    (h : wpList P ops Q ({ o with guard := none } :: rest) a w) : wpList P ops Q (o :: rest) a w := by
  unfold wpList at h ⊢
  rw [if_pos hw]
  have hw' : Region.wanted { o with guard := none } (yielded ops a.tmps) = true := rfl
  rw [if_pos hw'] at h
  exact h
theorem mg_buildSlice_g {P : Program} {ops : Array Oper} {Q : Act → World → Prop} {i : Nat} {r : List (Nat × Nat)} {o : Oper} {a : Act} {w : World} (ho : ops[i]? = some o) (hw : Region.wanted o (yielded ops a.tmps) = true)
    (ty : TypeId) (k : Nat) (ps : Array (Nat × Operand)) (hop : o.op = .buildSlice ty k ps) (PS : List (Nat × Value)) (C : Array Value) (et : TypeId) (n c : Nat) (hx : (ps.toList.map fun p => (p.1, a.eval p.2)) = PS)
    (hl : ∀ y : World, (Instr.buildSlice ty k PS.toArray).run P y = .ok (.slice (some ⟨y.heap.size, 0, none⟩) n c) (y.alloc (.cells C et)))
    (h : ∀ w', Grow w w' → MG P ops Q r (a.put o.dst (.slice (some ⟨w'.heap.size, 0, none⟩) n c)) (w'.alloc (.cells C et))) : MG P ops Q ((i, 1) :: r) a w :=
  mg_loud ho hw fun w' hw' K hK => wpList_unguardR hw (by
    have e : (ps.map fun (i, x) => (i, a.eval x)) = PS.toArray := Array.ext' (by rw [Array.toList_map]; exact hx)
    refine wpList_plain rfl fun K' hK' => ?_
    unfold Oper.wp execOp
    simp only [hop, e, Sem.run_bind, Sem.run_pure, Result.andThen_ok, hl]
    exact hK' _ _ (hK _ _ ((Below.refl _ _).alloc (Nat.le_refl _) _) (h w' hw')))
/-- Two slices made in either order. -/
theorem mg_fork_build {P : Program} {ops : Array Oper} {Q : Act → World → Prop} {i n : Nat} {r : List (Nat × Nat)} {oi on : Oper} {a : Act} {w : World} (hi : ops[i]? = some oi) (hn : ops[n]? = some on)
    (wi : Region.wanted oi (yielded ops a.tmps) = true) (wn : Region.wanted on (yielded ops a.tmps) = true) (wi' : ∀ v, Region.wanted oi (yielded ops (a.put on.dst v).tmps) = true) (wn' : ∀ v, Region.wanted on (yielded ops (a.put oi.dst v).tmps) = true)
    (hc : ∀ u v, (a.put on.dst v).put oi.dst u = (a.put oi.dst u).put on.dst v)
    (ty1 : TypeId) (k1 : Nat) (ps1 : Array (Nat × Operand)) (hop1 : oi.op = .buildSlice ty1 k1 ps1) (PS1 : List (Nat × Value)) (C1 : Array Value) (et1 : TypeId) (n1 c1 : Nat) (hx1 : (ps1.toList.map fun p => (p.1, a.eval p.2)) = PS1) (hx1' : ∀ v, (ps1.toList.map fun p => (p.1, (a.put on.dst v).eval p.2)) = PS1)
    (hl1 : ∀ y : World, (Instr.buildSlice ty1 k1 PS1.toArray).run P y = .ok (.slice (some ⟨y.heap.size, 0, none⟩) n1 c1) (y.alloc (.cells C1 et1)))
    (ty2 : TypeId) (k2 : Nat) (ps2 : Array (Nat × Operand)) (hop2 : on.op = .buildSlice ty2 k2 ps2) (PS2 : List (Nat × Value)) (C2 : Array Value) (et2 : TypeId) (n2 c2 : Nat) (hx2 : (ps2.toList.map fun p => (p.1, a.eval p.2)) = PS2) (hx2' : ∀ v, (ps2.toList.map fun p => (p.1, (a.put oi.dst v).eval p.2)) = PS2)
    (hl2 : ∀ y : World, (Instr.buildSlice ty2 k2 PS2.toArray).run P y = .ok (.slice (some ⟨y.heap.size, 0, none⟩) n2 c2) (y.alloc (.cells C2 et2)))
    (h : ∀ g1 g2 w', Grow w w' → w.heap.size ≤ g1 → w.heap.size ≤ g2 → w'.heap[g1]? = some (.cells C1 et1 (0, 0)) → w'.heap[g2]? = some (.cells C2 et2 (0, 0)) → g1 ≠ g2 →
      MG P ops Q r ((a.put oi.dst (.slice (some ⟨g1, 0, none⟩) n1 c1)).put on.dst (.slice (some ⟨g2, 0, none⟩) n2 c2)) w') : MG P ops Q ((i, n + 4) :: r) a w := by
  have B : ∀ (o : Oper) (ty : TypeId) (k : Nat) (ps : Array (Nat × Operand)) (_ : o.op = .buildSlice ty k ps) (PS : List (Nat × Value)) (C : Array Value) (et : TypeId) (n c : Nat)
      (_ : ∀ y : World, (Instr.buildSlice ty k PS.toArray).run P y = .ok (.slice (some ⟨y.heap.size, 0, none⟩) n c) (y.alloc (.cells C et))) (a : Act) (w : World) (_ : (ps.toList.map fun p => (p.1, a.eval p.2)) = PS) (_ : Region.wanted o (yielded ops a.tmps) = true) (K : Act → World → Prop)
      (_ : ∀ w', Grow w w' → K (a.put o.dst (.slice (some ⟨w'.heap.size, 0, none⟩) n c)) (w'.alloc (.cells C et))), loudStep P ops false o K a w := by
    intro o ty k ps hop PS C et n c hl a w hx hw K hK
    unfold loudStep
    rw [if_pos hw]
    intro w' hw'
    have e : (ps.map fun (i, x) => (i, a.eval x)) = PS.toArray := Array.ext' (by rw [Array.toList_map]; exact hx)
    unfold Oper.wp execOp
    simp only [hop, e, Sem.run_bind, Sem.run_pure, Result.andThen_ok, hl]
    exact ⟨fun _ => (Below.refl _ _).alloc (Nat.le_refl _) _, hK w' hw'⟩
  refine ⟨?_⟩
  simp only [wpMix, hi, hn]
  refine ⟨?_, ?_⟩
  · refine B oi ty1 k1 ps1 hop1 PS1 C1 et1 n1 c1 hl1 a w hx1 wi _ fun w1 h1 => ?_
    refine B on ty2 k2 ps2 hop2 PS2 C2 et2 n2 c2 hl2 _ _ (hx2' _) (wn' _) _ fun w2 h2 => ?_
    have hb : (w1.alloc (.cells C1 et1)).heap[w1.heap.size]? = some (.cells C1 et1 (0, 0)) := heap_alloc_last _ _ _ rfl
    have hlt := lt_of_block hb
    have h3 : w1.heap.size < w2.heap.size := Nat.lt_of_lt_of_le hlt h2.size
    have h4 : Grow w2 (w2.alloc (.cells C2 et2)) := (Below.refl _ _).alloc (Nat.le_refl _) _
    have g1 : Grow w w2 := Grow.trans h1 (Grow.trans ((Below.refl _ _).alloc (Nat.le_refl _) _) h2)
    exact (h _ _ _ (Grow.trans g1 h4) h1.size g1.size (blockR_below (blockR_below hb h2) h4) (heap_alloc_last _ _ _ rfl) (by omega)).out
  · refine B on ty2 k2 ps2 hop2 PS2 C2 et2 n2 c2 hl2 a w hx2 wn _ fun w1 h1 => ?_
    refine B oi ty1 k1 ps1 hop1 PS1 C1 et1 n1 c1 hl1 _ _ (hx1' _) (wi' _) _ fun w2 h2 => ?_
    have hb : (w1.alloc (.cells C2 et2)).heap[w1.heap.size]? = some (.cells C2 et2 (0, 0)) := heap_alloc_last _ _ _ rfl
    have hlt := lt_of_block hb
    have h3 : w1.heap.size < w2.heap.size := Nat.lt_of_lt_of_le hlt h2.size
    have h4 : Grow w2 (w2.alloc (.cells C1 et1)) := (Below.refl _ _).alloc (Nat.le_refl _) _
    have g1 : Grow w w2 := Grow.trans h1 (Grow.trans ((Below.refl _ _).alloc (Nat.le_refl _) _) h2)
    rw [hc]
    exact (h _ _ _ (Grow.trans g1 h4) g1.size h1.size (heap_alloc_last _ _ _ rfl) (blockR_below (blockR_below hb h2) h4) (by omega)).out
end Go.Proofs.YtponfkfeflnilaaGreatDoor
