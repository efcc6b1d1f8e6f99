/-
  Slices of pairs: that are read, and that the call owns.
-/
import Derived.Test.YtnlkanhakmkejaaPairs
import Derived.Lib.Hide
import Derived.Great.BuildSlice
namespace Go.Proofs.Ytnlkanhakmkejaa
open Go.RowKit Go.Mix Go.WideMaps

/-- A whole struct or array is read: calm. -/
theorem mix_load {P : Program} {ops : Array Oper} {Q : Act → World → Prop} {i : Nat} {r : List (Nat × Nat)} {o : Oper} {a : Act} {w : World} (ho : ops[i]? = some o) (hw : Region.wanted o (yielded ops a.tmps) = true)
    (ty : TypeId) (x : Operand) (hop : o.op = .load ty x) (V v : Value) (hx : a.eval x = V) (hl : ∀ y : Later w, (Instr.loadAt ty V).run P y.1 = .ok v y.1)
    (h : wpMix P ops Q r (a.put o.dst v) w) : wpMix P ops Q ((i, 0) :: r) a w := by
  refine mix_calm ho (fun K hK => ?_)
  unfold calmStep
  rw [if_pos hw]
  refine ⟨v, fun y => ?_, hK _ h⟩
  unfold calmAt execOp
  simp only [hop, hx, Sem.run_bind, Sem.run_pure, Result.andThen_ok, hl y]
  exact ⟨rfl, rfl⟩
theorem wpList_load_at {P : Program} {ops : Array Oper} {rest : List Oper} {o : Oper} {a : Act} {w : World} {Q : Exit → Act → World → Prop} (hgd : o.guard = none)
    (ty : TypeId) (x : Operand) (hop : o.op = .load ty x) (V v : Value) (hx : a.eval x = V) (hl : (Instr.loadAt ty V).run P w = .ok v w)
    (h : wpList P ops Q rest (a.put o.dst v) w) : wpList P ops Q (o :: rest) a w :=
  wpList_plain hgd fun _ hK => by
    unfold Oper.wp execOp
    simp only [hop, hx, Sem.run_bind, Sem.run_pure, Result.andThen_ok, hl]
    exact hK _ _ h

theorem parts_map {a : Act} {ps : Array (Nat × Operand)} {PS : List (Nat × Value)} (hx : (ps.toList.map fun p => (p.1, a.eval p.2)) = PS) : (ps.map fun (i, x) => (i, a.eval x)) = PS.toArray :=
  Array.ext' (by rw [Array.toList_map]; exact hx)
theorem mix_build {P : Program} {ops : Array Oper} {Q : Act → World → Prop} {i : Nat} {r : List (Nat × Nat)} {o : Oper} {a : Act} {w : World} (ho : ops[i]? = some o) (hw : Region.wanted o (yielded ops a.tmps) = true)
    (ty : TypeId) (ps : Array (Nat × Operand)) (hop : o.op = .build ty ps) (PS : List (Nat × Value)) (v : Value) (hx : (ps.toList.map fun p => (p.1, a.eval p.2)) = PS) (hl : ∀ y : World, (Instr.build ty PS.toArray).run P y = .ok v y)
    (h : wpMix P ops Q r (a.put o.dst v) w) : wpMix P ops Q ((i, 0) :: r) a w := by
  refine mix_calm ho (fun K hK => ?_)
  unfold calmStep
  rw [if_pos hw]
  refine ⟨v, fun y => ?_, hK _ h⟩
  unfold calmAt execOp
  simp only [hop, parts_map hx, Sem.run_bind, Sem.run_pure, Result.andThen_ok, hl y.1]
  exact ⟨rfl, rfl⟩
theorem wpList_build_at {P : Program} {ops : Array Oper} {rest : List Oper} {o : Oper} {a : Act} {w : World} {Q : Exit → Act → World → Prop} (hgd : o.guard = none)
    (ty : TypeId) (ps : Array (Nat × Operand)) (hop : o.op = .build ty ps) (PS : List (Nat × Value)) (v : Value) (hx : (ps.toList.map fun p => (p.1, a.eval p.2)) = PS) (hl : (Instr.build ty PS.toArray).run P w = .ok v w)
    (h : wpList P ops Q rest (a.put o.dst v) w) : wpList P ops Q (o :: rest) a w :=
  wpList_plain hgd fun _ hK => by
    unfold Oper.wp execOp
    simp only [hop, parts_map hx, Sem.run_bind, Sem.run_pure, Result.andThen_ok, hl]
    exact hK _ _ h
theorem wpList_buildSlice_at {P : Program} {ops : Array Oper} {rest : List Oper} {o : Oper} {a : Act} {w w' : World} {Q : Exit → Act → World → Prop} (hgd : o.guard = none)
    (ty : TypeId) (n : Nat) (ps : Array (Nat × Operand)) (hop : o.op = .buildSlice ty n ps) (PS : List (Nat × Value)) (v : Value) (hx : (ps.toList.map fun p => (p.1, a.eval p.2)) = PS) (hl : (Instr.buildSlice ty n PS.toArray).run P w = .ok v w')
    (h : wpList P ops Q rest (a.put o.dst v) w') : wpList P ops Q (o :: rest) a w :=
  wpList_plain hgd fun _ hK => by
    unfold Oper.wp execOp
    simp only [hop, parts_map hx, Sem.run_bind, Sem.run_pure, Result.andThen_ok, hl]
    exact hK _ _ h

theorem block_below {w w' : World} {P : Nat} {o : Obj} (h : w.heap[P]? = some o) (g : Below w.heap.size w w') : w'.heap[P]? = some o := (g.block P (lt_of_block h)).trans h
theorem range_below {w w' : World} {b o : Nat} {cs : List Value} (h : w.rangeAt b o cs) (g : Below w.heap.size w w') : w'.rangeAt b o cs := fun j v hv =>
  (g.cell (p := ⟨b, o + j, none⟩) (lt_of_cell (h j v hv))).trans (h j v hv)
theorem below_drewN {B : Nat} {a w : World} (h : Below B a w) (q : Nat) : Below B a (w.drewN q) := ⟨h.os, h.tape, h.output, h.size, h.block⟩

/-- The slice at a, of the capacity cap, reads as the pairs l. -/
structure PsAt (w : World) (a : Option Addr) (cap : Nat) (l : List Pr) : Prop where
  le : l.length ≤ cap
  big : cap ≤ 9223372036854775807
  non : a = none → cap = 0
  cells : l = [] ∨ ∃ b o, a = some ⟨b, o, none⟩ ∧ ∀ j, j < l.length → w.rangeAt b (o + j * 40) (enc l[j]!)

theorem PsAt.below {w w' : World} {a : Option Addr} {cap : Nat} {l : List Pr} (h : PsAt w a cap l) (g : Below w.heap.size w w') : PsAt w' a cap l :=
  ⟨h.le, h.big, h.non, h.cells.imp id fun ⟨b, o, e, hc⟩ => ⟨b, o, e, fun j hj => range_below (hc j hj) g⟩⟩
theorem PsAt.take {w : World} {a : Option Addr} {cap : Nat} {l : List Pr} (h : PsAt w a cap l) (k : Nat) : PsAt w a cap (l.take k) := by
  refine ⟨by have := h.le; simp; omega, h.big, h.non, ?_⟩
  rcases h.cells with rfl | ⟨b, o, e, hc⟩
  · exact .inl (by simp)
  · refine .inr ⟨b, o, e, fun j hj => ?_⟩
    have h1 : j < l.length := by simp at hj; omega
    have := hc j h1
    rw [getElem!_pos l j h1] at this
    rw [getElem!_pos _ j hj, List.getElem_take]; exact this
theorem PsAt.nil (w : World) : PsAt w none 0 [] := ⟨Nat.le_refl _, by decide, fun _ => rfl, .inl rfl⟩

theorem rangeAt_append {w : World} {b o : Nat} {x y : List Value} : w.rangeAt b o (x ++ y) ↔ w.rangeAt b o x ∧ w.rangeAt b (o + x.length) y := by
  refine ⟨fun h => ⟨fun j v hj => h j v ?_, fun j v hj => ?_⟩, fun ⟨h1, h2⟩ j v hj => ?_⟩
  · have hl : j < x.length := (List.getElem?_eq_some_iff.1 hj).1
    rw [List.getElem?_append_left hl]; exact hj
  · have := h (x.length + j) v (by rw [List.getElem?_append_right (by omega), Nat.add_sub_cancel_left]; exact hj)
    rw [← Nat.add_assoc] at this; exact this
  · rcases Nat.lt_or_ge j x.length with hl | hl
    · exact h1 j v (by rw [List.getElem?_append_left hl] at hj; exact hj)
    · have := h2 (j - x.length) v (by rw [List.getElem?_append_right hl] at hj; exact hj)
      rw [show o + x.length + (j - x.length) = o + j by omega] at this; exact this
theorem rangeAt_enc {w : World} {b o : Nat} {p : Pr} : w.rangeAt b o (enc p) ↔ w.rangeAt b o (idc p.1) ∧ w.rangeAt b (o + 20) (idc p.2) := by
  unfold enc; rw [rangeAt_append, idc_len]
theorem rangeAt_flat {w : World} {b : Nat} : ∀ (l : List Pr) (o : Nat), w.rangeAt b o (flat l) ↔ ∀ j, j < l.length → w.rangeAt b (o + j * 40) (enc l[j]!)
  | [], o => ⟨fun _ j hj => by simp at hj, fun _ j v hj => by simp [flat] at hj⟩
  | p :: l, o => by
    have e : flat (p :: l) = enc p ++ flat l := by simp [flat]
    rw [e, rangeAt_append, enc_len, rangeAt_flat l (o + 40)]
    refine ⟨fun ⟨h0, h⟩ j hj => ?_, fun h => ⟨by simpa using h 0 (by simp), fun j hj => ?_⟩⟩
    · cases j with
      | zero => simpa using h0
      | succ j =>
        have := h j (by simp at hj; omega)
        rw [show o + (j + 1) * 40 = o + 40 + j * 40 by omega]
        simpa using this
    · have := h (j + 1) (by simp; omega)
      rw [show o + 40 + j * 40 = o + (j + 1) * 40 by omega]
      simpa using this

/-- Where pair k lies: its index, its loads. -/
theorem PsAt.at {w : World} {a : Option Addr} {cap : Nat} {l : List Pr} (h : PsAt w a cap l) {t e f : TypeId} (T : PairTy t e f) (ki : Int) (k : Nat) (hki : ki = (k : Int)) (hk : k < l.length) :
    ∃ b q, (∀ W : World, (Instr.indexAt t (.slice a l.length cap) (.int .i64 ki)).run Try.prog W = .ok (.pointer (some ⟨b, q, none⟩)) W) ∧
      (∀ W : World, Below w.heap.size w W → (Instr.loadAt e (.pointer (some ⟨b, q, none⟩))).run Try.prog W = .ok (.agg (encA l[k]!)) W) ∧
      (∀ W : World, Below w.heap.size w W → (Instr.loadAt f (.pointer (some ⟨b, q, none⟩))).run Try.prog W = .ok (.agg (idA l[k]!.1)) W) ∧
      (∀ W : World, Below w.heap.size w W → (Instr.loadAt f (.pointer (some ⟨b, q + 20, none⟩))).run Try.prog W = .ok (.agg (idA l[k]!.2)) W) := by
  subst hki
  rcases h.cells with rfl | ⟨b, o, rfl, hc⟩
  · simp at hk
  · have hr := hc k hk
    have hr2 := rangeAt_enc.1 hr
    exact ⟨b, o + k * 40, fun W => T.index b o l.length cap k hk W, fun W g => T.load _ b _ W (range_below hr g), fun W g => T.loadId _ b _ W (range_below hr2.1 g), fun W g => T.loadId _ b _ W (range_below hr2.2 g)⟩

/-- v holds the pairs l, in a block that was not there in w0; what was there in w0 is as it was. -/
structure OwnP (e : TypeId) (w0 w : World) (v : Value) (l : List Pr) : Prop where
  own : w.ownsRow w0.heap.size e 40 v l.length (flat l)
  frame : Below w0.heap.size w0 w

section
variable {e : TypeId} {w0 w w' : World} {v v' : Value} {l : List Pr}

theorem OwnP.nil (h : Below w0.heap.size w0 w) : OwnP e w0 w (.slice none 0 0) [] := ⟨World.ownsRow_nil _ _ _ _, h⟩
theorem OwnP.later (h : OwnP e w0 w v l) (g : Below w.heap.size w w') : OwnP e w0 w' v l :=
  ⟨World.ownsRow.kept h.own (row := none) ⟨g.os, g.tape, g.output, g.size, fun k hk _ => g.block k hk⟩ (by cases hv : v.ownBlock <;> simp), h.frame.trans (g.mono h.frame.size)⟩
theorem OwnP.ps (h : OwnP e w0 w v l) : ∃ a c, v = .slice a l.length c ∧ PsAt w a c l := by
  rcases h.own.2 with ⟨rfl, h0⟩ | ⟨g, cap, cur, rfl, _, hh, hn, hm, _, ht⟩
  · have e0 := List.eq_nil_of_length_eq_zero h0
    subst e0
    exact ⟨none, 0, rfl, PsAt.nil w⟩
  · unfold maxLen at hm
    refine ⟨some ⟨g, 0, none⟩, cap, rfl, hn, by omega, (fun h => nomatch h), .inr ⟨g, 0, rfl, (rangeAt_flat l 0).1 fun j u hj => ?_⟩⟩
    have hjl : j < (flat l).length := (List.getElem?_eq_some_iff.1 hj).1
    have hfl := flat_len l
    have h2 : (cur.toList.take (l.length * 40))[j]? = (flat l)[j]? := by rw [ht]
    rw [List.getElem?_take, if_pos (by omega), hj] at h2
    simp only [World.cell?, hh, Nat.zero_add]
    simpa using h2
theorem OwnP.block (h : OwnP e w0 w v l) : ∀ g, v.ownBlock = some g → w0.heap.size ≤ g ∧ g < w.heap.size := fun g hg => World.ownsRow.lt h.own g hg
end

/-- A pair in a block of its own. -/
theorem PsAt.one (w : World) (e : TypeId) (p : Pr) : PsAt (w.alloc (.cells (encA p) e)) (some ⟨w.heap.size, 0, none⟩) 1 [p] := by
  refine ⟨Nat.le_refl _, by decide, (fun h => nomatch h), .inr ⟨_, 0, rfl, fun j hj => ?_⟩⟩
  obtain rfl : j = 0 := by simpa using hj
  intro i v hi
  have hb : (w.alloc (.cells (encA p) e)).heap[w.heap.size]? = some (.cells (encA p) e (0, 0)) := heap_alloc_last w _ _ rfl
  rw [show 0 + 0 * 40 + i = i by omega, cell_of_row _ _ _ _ _ _ hb]
  simpa [encA] using hi

/-- 'append' of pairs onto pairs of the call's own. -/
theorem wpList_append_p {t e f : TypeId} (T : PairTy t e f) {w0 w : World} {ops : Array Oper} {rest : List Oper} {o : Oper} {a : Act} {Q : Exit → Act → World → Prop} (hgd : o.guard = none) (s x : Operand)
    (ho : o.op = .call { callee := .builtin .append, args := #[s, x], argTypes := #[t, t] })
    (v : Value) (xs : List Pr) (hs : a.eval s = v) (hR : OwnP e w0 w v xs) (ad : Option Addr) (n c : Nat) (ys : List Pr) (hx : a.eval x = .slice ad n c) (hn : n = ys.length) (hy : PsAt w ad c ys)
    (hlen : xs.length + ys.length ≤ 1000000000000)
    (h : ∀ v' w', OwnP e w0 w' v' (xs ++ ys) → w.grownBy w' v.ownBlock → (v' = .slice none 0 0 ↔ v = .slice none 0 0 ∧ n = 0) → wpList Try.prog ops Q rest (a.put o.dst v') w') : wpList Try.prog ops Q (o :: rest) a w := by
  subst hn
  obtain ⟨i, hi, hz0, hz1, hz2⟩ := info_parts T.hi
  have hF := hR.frame
  rcases hy.cells with rfl | ⟨b, off, rfl, hc⟩
  · cases ad with
    | none =>
      obtain rfl := hy.non rfl
      refine wpList_append_own_none hgd s x t ho w0.heap.size e i 40 T.ht (by rw [hi]) v _ _ hs hR.own (by simpa using hx) ?_
      exact h v w (by rw [List.append_nil]; exact hR) ⟨rfl, rfl, rfl, Nat.le_refl _, fun _ _ _ => rfl⟩ (by simp)
    | some ad =>
      refine wpList_append_own_at w hgd s x t ho w0.heap.size e i _ 40 40 T.ht hi hz0 hz1 hz2 (by simp [Value.cells, encA, enc_len]) (by decide) v xs.length (flat xs) hs hR.own ad 0 c [] hx (by simp) (by simp) (by simp) (by unfold maxLen; omega) (by omega) hF.size ?_
      intro v' w' h1 h2 h3 _
      refine h v' w' ⟨by rw [List.append_nil] at h1 ⊢; exact h1, ?_⟩ h2 h3
      exact ⟨h2.os.trans hF.os, h2.tape.trans hF.tape, h2.output.trans hF.output, Nat.le_trans hF.size h2.size, fun k hk => (h2.block k (Nat.lt_of_lt_of_le hk hF.size) (fun e => by have := (hR.block k e.symm).1; omega)).trans (hF.block k hk)⟩
  · refine wpList_append_own_at w hgd s x t ho w0.heap.size e i _ 40 40 T.ht hi hz0 hz1 hz2 (by simp [Value.cells, encA, enc_len]) (by decide) v xs.length (flat xs) hs hR.own _ ys.length c (flat ys) hx (by rw [flat_len]) (fun j u hj => ?_) (flat_oneCell ys) (by unfold maxLen; omega) (by omega) hF.size ?_
    · rw [Addr.add_mid]; exact (rangeAt_flat ys off).2 hc j u hj
    · intro v' w' h1 h2 h3 _
      refine h v' w' ⟨by rw [List.length_append, flat_append]; exact h1, ?_⟩ h2 h3
      exact ⟨h2.os.trans hF.os, h2.tape.trans hF.tape, h2.output.trans hF.output, Nat.le_trans hF.size h2.size, fun k hk => (h2.block k (Nat.lt_of_lt_of_le hk hF.size) (fun e => by have := (hR.block k e.symm).1; omega)).trans (hF.block k hk)⟩

theorem fill_one {place : Nat → Option (Nat × Nat)} {C X : Array Value} {n : Nat} (h0 : place 0 = some (0, n)) (hC : C.size = n) (hX : X.size = n) : Instr.fill place C [(0, .agg X)] = some X := by
  have eX : (Value.agg X).cells = X := rfl
  have f0 : ((X.zipIdx.foldl (fun cs (c : Value × Nat) => cs.setIfInBounds (0 + c.2) c.1) C)).toList = X.toList := by
    have := foldl_place X.toList 0 0 C (by simp; omega)
    rw [← Array.foldl_toList, Array.toList_zipIdx, this]; simp [hX, hC]
  simp only [Instr.fill, h0, eX, hX, hC, ne_eq, not_true_eq_false, decide_false, Bool.false_or, decide_eq_true_eq]
  rw [if_neg (by omega)]
  congr 1
  exact Array.ext' f0

/-- 'T{p}' of a slice type, one pair long. -/
theorem PairTy.one {t e f : TypeId} (T : PairTy t e f) (p : Pr) (w : World) : (Instr.buildSlice t 1 #[(0, .agg (encA p))]).run Try.prog w = .ok (.slice (some ⟨w.heap.size, 0, none⟩) 1 1) (w.alloc (.cells (encA p) e)) := by
  obtain ⟨i, hi, hz0, hz1, hz2⟩ := info_parts T.hi
  refine run_buildSlice w t e 1 _ _ i _ T.ht hi hz0 (by rw [hz1]; decide) (by rw [hz1]; decide) (fill_one (n := 40) (by simp [hz1]) (by simp [hz1]) (by simp [encA, enc_len]))
end Go.Proofs.Ytnlkanhakmkejaa
