/-
  Slices whose values take one cell each (texts, numbers, ..): that are read, and that the call owns. (After XRecs, XAppR.)
-/
import Derived.Test.YtnlkanhakmkejaaDoorAppR
import Derived.Test.YtnlkanhakmkejaaDoorBuild
namespace Go.Proofs.YtnlkanhakmkejaaDoor
open Go.RowKit Go.Mix

def one1 {α : Type} (v1 : α → Value) (x : α) : List Value := [v1 x]
/-- How a value lies in one cell. -/
structure OneTy (α : Type) [Inhabited α] (v1 : α → Value) (t e : TypeId) : Prop where
  one' : ∀ x, (v1 x).oneCell' = true
  ht : Tryd.prog.underlying t = some (.slice e)
  se : ∀ w : World, (sizeOf e).run Tryd.prog w = .ok 1 w
  ie : (Tryd.prog.info? e).map (·.size) = some 1
  hi : ∃ (z : Value) (by_ : Nat), (Tryd.prog.info? e).map (fun i => (i.zero, i.size, i.bytes)) = some (some z, 1, by_) ∧ z.cells.size = 1 ∧ by_ ≤ 100
  ld : ∀ (w : World) (b o : Nat) (x : α), w.cell? ⟨b, o, none⟩ = some (v1 x) → (Instr.loadAt e (.pointer (some ⟨b, o, none⟩))).run Tryd.prog w = .ok (v1 x) w

section
variable {α : Type} [Inhabited α] {v1 : α → Value} {t e : TypeId}
theorem OneTy.pos (_T : OneTy α v1 t e) : 0 < 1 := by decide
theorem OneTy.small (_T : OneTy α v1 t e) : 1 ≤ 1000 := by decide
theorem OneTy.len (_T : OneTy α v1 t e) (x : α) : (one1 v1 x).length = 1 := rfl
theorem OneTy.one (T : OneTy α v1 t e) (x : α) : ∀ u ∈ one1 v1 x, u.oneCell' = true := fun u hu => by
  obtain rfl : u = v1 x := by simpa [one1] using hu
  exact T.one' x
variable (T : OneTy α v1 t e)
include T

theorem OneTy.flat_len : ∀ l : List α, (flatR (one1 v1) l).length = l.length * 1
  | [] => by simp [flatR]
  | p :: l => by
    have := OneTy.flat_len l
    unfold flatR at this ⊢
    rw [List.flatMap_cons, List.length_append, this, T.len, List.length_cons, Nat.succ_mul]; omega
theorem OneTy.flat_oneCell (l : List α) : ∀ u ∈ flatR (one1 v1) l, u.oneCell' = true := fun u hu => by
  unfold flatR at hu
  obtain ⟨p, _, hp⟩ := List.mem_flatMap.1 hu
  exact T.one p u hp
theorem OneTy.range_flat {w : World} {b : Nat} : ∀ (l : List α) (o : Nat), w.rangeAt b o (flatR (one1 v1) l) ↔ ∀ j, j < l.length → w.rangeAt b (o + j * 1) ((one1 v1) l[j]!)
  | [], o => ⟨fun _ j hj => by simp at hj, fun _ j v hj => by simp [flatR] at hj⟩
  | p :: l, o => by
    have e : flatR (one1 v1) (p :: l) = (one1 v1) p ++ flatR (one1 v1) l := by simp [flatR]
    rw [e, rangeR_append, T.len, OneTy.range_flat l (o + 1)]
    refine ⟨fun ⟨h0, h⟩ j hj => ?_, fun h => ⟨by simpa using h 0 (by simp), fun j hj => ?_⟩⟩
    · cases j with
      | zero => simpa using h0
      | succ j =>
        have := h j (by simp at hj; omega)
        rw [show o + (j + 1) * 1 = o + 1 + j * 1 by rw [Nat.succ_mul]; omega]
        simpa using this
    · have := h (j + 1) (by simp; omega)
      rw [show o + 1 + j * 1 = o + (j + 1) * 1 by rw [Nat.succ_mul]; omega]
      simpa using this

theorem OneTy.index (b o n cap k : Nat) (hk : k < n) (w : World) : (Instr.indexAt t (.slice (some ⟨b, o, none⟩) n cap) (.int .i64 (k : Int))).run Tryd.prog w = .ok (.pointer (some ⟨b, o + k * 1, none⟩)) w := by
  have he : Tryd.prog.elem t = e := by simp [Program.elem, T.ht]
  rw [run_indexAt_slice w t _ n cap .i64 k (by rw [he]; exact T.ht), if_pos ⟨by omega, by omega⟩, he, T.se]
  simp [Result.andThen, Addr.add_lit]
theorem OneTy.load (p : α) (b o : Nat) (w : World) (h : w.rangeAt b o (one1 v1 p)) : (Instr.loadAt e (.pointer (some ⟨b, o, none⟩))).run Tryd.prog w = .ok (v1 p) w := T.ld w b o p (by simpa [one1] using h 0 (v1 p) rfl)

/-- Where value k lies: its index, its cells, its load. -/
theorem RsAt.at1 {w : World} {a : Option Addr} {cap : Nat} {l : List α} (h : RsAt (one1 v1) 1 w a cap l) (ki : Int) (k : Nat) (hki : ki = (k : Int)) (hk : k < l.length) :
    ∃ b q, (∀ W : World, (Instr.indexAt t (.slice a l.length cap) (.int .i64 ki)).run Tryd.prog W = .ok (.pointer (some ⟨b, q, none⟩)) W) ∧ w.rangeAt b q ((one1 v1) l[k]!) ∧
      (∀ W : World, Below w.heap.size w W → (Instr.loadAt e (.pointer (some ⟨b, q, none⟩))).run Tryd.prog W = .ok (v1 l[k]!) W) := by
  subst hki
  rcases h.cells with rfl | ⟨b, o, rfl, hc⟩
  · simp at hk
  · have hr := hc k hk
    exact ⟨b, o + k * 1, fun W => T.index b o l.length cap k hk W, hr, fun W g => T.load _ b _ W (rangeR_below hr g)⟩
omit T

include T in
theorem OwnR.rs1 {w0 w : World} {v : Value} {l : List α} (h : OwnR (one1 v1) 1 e w0 w v l) : ∃ a c, v = .slice a l.length c ∧ RsAt (one1 v1) 1 w a c l ∧ (a = none ∨ ∃ b o, a = some ⟨b, o, none⟩) := by
  rcases h.own.2 with ⟨rfl, h0⟩ | ⟨g, cap, cur, rfl, _, hh, hn, hm, _, ht⟩
  · have e0 := List.eq_nil_of_length_eq_zero h0
    subst e0
    exact ⟨none, 0, rfl, RsAt.nil w, .inl rfl⟩
  · unfold maxLen at hm
    refine ⟨some ⟨g, 0, none⟩, cap, rfl, ⟨hn, by omega, (fun h => nomatch h), .inr ⟨g, 0, rfl, (T.range_flat l 0).1 fun j u hj => ?_⟩⟩, .inr ⟨g, 0, rfl⟩⟩
    have hjl : j < (flatR (one1 v1) l).length := (List.getElem?_eq_some_iff.1 hj).1
    have hfl := T.flat_len l
    have h2 : (cur.toList.take (l.length * 1))[j]? = (flatR (one1 v1) l)[j]? := by rw [ht]
    rw [List.getElem?_take, if_pos (by omega), hj] at h2
    simp only [World.cell?, hh, Nat.zero_add]
    simpa using h2

/-- 'append' of values onto values of the call's own. -/
theorem wpList_append_1 (T : OneTy α v1 t e) {w0 w : World} {ops : Array Oper} {rest : List Oper} {o : Oper} {a : Act} {Q : Exit → Act → World → Prop} (hgd : o.guard = none) (s x : Operand)
    (ho : o.op = .call { callee := .builtin .append, args := #[s, x], argTypes := #[t, t] })
    (v : Value) (xs : List α) (hs : a.eval s = v) (hR : OwnR (one1 v1) 1 e w0 w v xs) (ad : Option Addr) (n c : Nat) (ys : List α) (hx : a.eval x = .slice ad n c) (hn : n = ys.length) (hy : RsAt (one1 v1) 1 w ad c ys)
    (hlen : xs.length + ys.length ≤ 1000000000)
    (h : ∀ v' w', OwnR (one1 v1) 1 e w0 w' v' (xs ++ ys) → w.grownBy w' v.ownBlock → (v' = .slice none 0 0 ↔ v = .slice none 0 0 ∧ n = 0) → wpList Tryd.prog ops Q rest (a.put o.dst v') w') : wpList Tryd.prog ops Q (o :: rest) a w := by
  subst hn
  obtain ⟨z, by_, hi0, hzs, hby⟩ := T.hi
  obtain ⟨i, hi, hz0, hz1, hz2⟩ := info_parts hi0
  have hF := hR.frame
  have hsmall := T.small
  have hbound : by_ * (xs.length + ys.length) ≤ 140737488355328 := Nat.le_trans (Nat.mul_le_mul hby hlen) (by decide)
  rcases hy.cells with rfl | ⟨b, off, rfl, hc⟩
  · cases ad with
    | none =>
      obtain rfl := hy.non rfl
      refine wpList_append_own_none hgd s x t ho w0.heap.size e i 1 T.ht (by rw [hi]) v _ _ hs hR.own (by simpa using hx) ?_
      exact h v w (by rw [List.append_nil]; exact hR) ⟨rfl, rfl, rfl, Nat.le_refl _, fun _ _ _ => rfl⟩ (by simp)
    | some ad =>
      refine wpList_append_own_at w hgd s x t ho w0.heap.size e i _ 1 by_ T.ht hi hz0 hz1 hz2 hzs T.pos v xs.length (flatR (one1 v1) xs) hs hR.own ad 0 c [] hx (by simp) (by simp) (by simp) (by unfold maxLen; simp at hlen; omega) (by simpa [Nat.mul_comm] using hbound) hF.size ?_
      intro v' w' h1 h2 h3 _
      refine h v' w' ⟨by rw [List.append_nil] at h1 ⊢; exact h1, ?_⟩ h2 h3
      exact ⟨h2.os.trans hF.os, h2.tape.trans hF.tape, h2.output.trans hF.output, Nat.le_trans hF.size h2.size, fun k hk => (h2.block k (Nat.lt_of_lt_of_le hk hF.size) (fun e => by have := (hR.block k e.symm).1; omega)).trans (hF.block k hk)⟩
  · refine wpList_append_own_at w hgd s x t ho w0.heap.size e i _ 1 by_ T.ht hi hz0 hz1 hz2 hzs T.pos v xs.length (flatR (one1 v1) xs) hs hR.own _ ys.length c (flatR (one1 v1) ys) hx (by rw [T.flat_len]) (fun j u hj => ?_) (T.flat_oneCell ys) (by unfold maxLen; omega) (by simpa [Nat.mul_comm] using hbound) hF.size ?_
    · rw [Addr.add_mid]; exact (T.range_flat ys off).2 hc j u hj
    · intro v' w' h1 h2 h3 _
      refine h v' w' ⟨by rw [List.length_append, flatR_append]; exact h1, ?_⟩ h2 h3
      exact ⟨h2.os.trans hF.os, h2.tape.trans hF.tape, h2.output.trans hF.output, Nat.le_trans hF.size h2.size, fun k hk => (h2.block k (Nat.lt_of_lt_of_le hk hF.size) (fun e => by have := (hR.block k e.symm).1; omega)).trans (hF.block k hk)⟩

/-- A part of values that are read: 's[:j]', 's[j:]', 's[i:i+1]'. -/
theorem RsAt.to1 {w : World} {a : Option Addr} {cap : Nat} {l : List α} (h : RsAt (one1 v1) 1 w a cap l) (T : OneTy α v1 t e) {j : Nat} (hj : j ≤ l.length) (J : Int) (hJ : J = (j : Int)) :
    ∀ W : World, (Instr.slice t (.slice a l.length cap) none (some (.int .i64 J)) none).run Tryd.prog W = .ok (.slice a j cap) W := fun W => by
  subst hJ
  have hle := h.le
  exact run_slice_to t T.ht a l.length cap j (by omega) h.non T.se W
theorem RsAt.from1 {w : World} {a : Option Addr} {cap : Nat} {l : List α} (h : RsAt (one1 v1) 1 w a cap l) (T : OneTy α v1 t e) {j : Nat} (hj : j ≤ l.length) (J : Int) (hJ : J = (j : Int)) :
    ∃ a2 c2, (∀ W : World, (Instr.slice t (.slice a l.length cap) (some (.int .i64 J)) none none).run Tryd.prog W = .ok (.slice a2 (l.length - j) c2) W) ∧ RsAt (one1 v1) 1 w a2 c2 (l.drop j) := by
  subst hJ
  have hle := h.le
  have hbig := h.big
  have he : Tryd.prog.elem t = e := by simp [Program.elem, T.ht]
  refine ⟨if cap = j then a else a.map (·.add (j * 1)), cap - j, fun W => ?_, ⟨by rw [List.length_drop]; omega, by omega, fun hn => ?_, ?_⟩⟩
  · rw [run_slice_l W t _ _ _ (by rw [he]; exact T.ht) .i64 (j : Int) (by omega) (by omega), he, T.se]
    simp [Result.andThen, sliced]
  · by_cases hc : cap = j
    · omega
    · rw [if_neg hc] at hn
      have := h.non (by cases a with | none => rfl | some x => simp at hn)
      omega
  · by_cases hd : j = l.length
    · subst hd; exact .inl (List.drop_length ..)
    · rcases h.cells with rfl | ⟨b, o, rfl, hc⟩
      · exact absurd (by simp at hj ⊢; exact hj) hd
      · rw [if_neg (by omega)]
        refine .inr ⟨b, o + j * 1, by simp [Addr.add_mid], fun i hi => ?_⟩
        rw [List.length_drop] at hi
        have := hc (j + i) (by omega)
        rw [getElem!_pos _ i (by rw [List.length_drop]; omega), List.getElem_drop, show o + j * 1 + i * 1 = o + (j + i) * 1 by rw [Nat.add_mul]; omega]
        rw [getElem!_pos l (j + i) (by omega)] at this
        exact this
set_option maxRecDepth 100000 in
theorem wpList_append_empty_1 (T : OneTy α v1 t e) {w0 w : World} {ops : Array Oper} {rest : List Oper} {o : Oper} {a : Act} {Q : Exit → Act → World → Prop} (hwant : Region.wanted o (yielded ops a.tmps) = true) (s x : Operand)
    (ho : o.op = .call { callee := .builtin .append, args := #[s, x], argTypes := #[t, t] })
    (g : Nat) (hs : a.eval s = .slice (some ⟨g, 0, none⟩) 0 0) (hO : OwnR (one1 v1) 1 e w0 w (.slice (some ⟨g, 0, none⟩) 0 0) []) (ad : Option Addr) (n c : Nat) (l : List α) (hx : a.eval x = .slice ad n c) (hn : n = l.length) (hl : RsAt (one1 v1) 1 w ad c l)
    (hlen : l.length ≤ 1000000000)
    (h : ∀ v' w', OwnR (one1 v1) 1 e w0 w' v' l → Grow w w' → wpList Tryd.prog ops Q rest (a.put o.dst v') w') : wpList Tryd.prog ops Q (o :: rest) a w := by
  subst hn
  have hsmall := T.small
  have hpos := T.pos
  have key : ∃ v' w', (Builtin.append_ #[t, t] o.type #[.slice (some ⟨g, 0, none⟩) 0 0, .slice ad l.length c]).run Tryd.prog w = .ok v' w' ∧ OwnR (one1 v1) 1 e w0 w' v' l ∧ Grow w w' := by
    obtain ⟨z, by_, hi0, hzs, hby⟩ := T.hi
    obtain ⟨i, hi, hz0, hz1, hz2⟩ := info_parts hi0
    have hbound : l.length * by_ ≤ 140737488355328 := Nat.le_trans (Nat.mul_le_mul hlen hby) (by decide)
    obtain ⟨hO1, hO2⟩ := hO.own
    rcases hO2 with ⟨hv, _⟩ | ⟨g', cap, cur, hv, hb, hh, hn, hm, hcs, ht⟩
    · cases hv
    injection hv with h1 h2 h3
    injection h1 with h1
    injection h1 with h1
    subst h1 h3
    have hcur : cur = #[] := Array.eq_empty_of_size_eq_zero (by omega)
    subst hcur
    cases ad with
    | none =>
      have h0 := hl.non rfl
      subst h0
      have e0 : l = [] := List.eq_nil_of_length_eq_zero (by have := hl.le; omega)
      subst e0
      have hrun := run_append_owned_none (P := Tryd.prog) (w := w) 0 t o.type e i 1 T.ht (by rw [hi]) (.slice (some ⟨g, 0, none⟩) 0 0) 0 [] ⟨by simp, .inr ⟨g, 0, #[], rfl, Nat.zero_le _, hh, Nat.le_refl _, by decide, by simp, by simp⟩⟩
      exact ⟨_, w, hrun, hO, Grow.refl _⟩
    | some ad =>
      cases l with
      | nil =>
        have hrun := run_append_room (P := Tryd.prog) w t o.type e i T.ht hi g 0 0 #[] hh ad 0 c [] (by simp) (by simp) (by simp) (by simp) (by simp)
        simp only [List.take_nil, List.drop_nil, List.append_nil] at hrun
        rw [setRow_self w g #[] _ _ hh] at hrun
        exact ⟨_, _, hrun, hO, Grow.refl _⟩
      | cons y ys =>
        generalize hgl : y :: ys = l at *
        have hll : 0 < l.length := by rw [← hgl]; simp
        have hfl := T.flat_len l
        rcases hl.cells with h0 | ⟨b, off, hbe, hc⟩
        · rw [h0] at hll; simp at hll
        injection hbe with hbe
        subst hbe
        have hcells : ∀ j u, (flatR (one1 v1) l)[j]? = some u → w.cell? ((⟨b, off, none⟩ : Addr).add j) = some u := fun j u hu => by
          rw [Addr.add_mid]
          exact (T.range_flat l off).2 hc j u hu
        have hrun := run_append_grow (P := Tryd.prog) w t o.type e i z T.ht hi hz0 ⟨g, 0, none⟩ 0 0 [] (by simp) (by simp) ⟨b, off, none⟩ l.length c (flatR (one1 v1) l) (by rw [hfl, hz1]) hcells (by omega) (by omega)
          (by rw [Nat.zero_add, nextslicecap_zero (by omega), hz2]; omega)
        simp only [Nat.zero_add] at hrun
        have hge := grownCap_ge w l.length 0 e
        have hle := grownCap_le_maxLen w l.length 0 e (by unfold maxLen; omega)
        refine ⟨_, _, hrun, ⟨⟨hfl, .inr ⟨w.heap.size, _, _, rfl, hO.frame.size, heap_alloc_last _ _ _ rfl, hge, hle, ?_, ?_⟩⟩, ?_⟩, ((Below.refl _ _).drew).alloc (by simp) _⟩
        · have hzc : (Value.cells z).size = 1 := hzs
          simp only [Array.size_append, List.size_toArray, size_zeroCells, hzc, hfl, List.length_nil, Nat.zero_add, ← Nat.add_mul]
          congr 1
          omega
        · simp only [Array.toList_append, List.nil_append]
          rw [← hfl]
          exact List.take_left
        · exact hO.frame.trans ((((Below.refl _ _).drew).alloc (by simp) _).mono hO.frame.size)
  obtain ⟨v', w', hrun, h1, h2⟩ := key
  unfold wpList
  rw [if_pos hwant]
  refine .inl ?_
  unfold Oper.wp execOp
  simp only [ho, resolve, invoke, builtin, Sem.run_bind, Sem.run_pure, Result.andThen_ok, List.map_toArray, List.map_cons, List.map_nil, hs, hx, hrun]
  exact h v' w' h1 h2
theorem OneTy.slice0 (T : OneTy α v1 t e) (w : World) : (Instr.buildSlice t 0 (([] : List (Nat × Value)).toArray)).run Tryd.prog w = .ok (.slice (some ⟨w.heap.size, 0, none⟩) 0 0) (w.alloc (.cells #[] e)) := by
  simp [Instr.buildSlice, run_underlying T.ht, T.se, Instr.fill, newRow]
  rw [show Array.range 0 = #[] from by decide, Array.map_empty]
theorem cells_one {v : Value} (h : v.oneCell' = true) : v.cells = #[v] := by cases v <;> first | rfl | cases h
theorem OneTy.slice1 (T : OneTy α v1 t e) (p : α) (w : World) : (Instr.buildSlice t 1 ([(0, v1 p)] : List (Nat × Value)).toArray).run Tryd.prog w = .ok (.slice (some ⟨w.heap.size, 0, none⟩) 1 1) (w.alloc (.cells (recA (one1 v1) p) e)) := by
  obtain ⟨z, by_, hi0, hzs, hby⟩ := T.hi
  obtain ⟨i, hi, hz0, hz1, hz2⟩ := info_parts hi0
  refine run_buildSlice w t e _ _ _ i _ T.ht hi hz0 (by rw [hz1]; decide) (by rw [hz1]; decide) ?_
  rw [hz1]
  have hc := cells_one (T.one' p)
  simp [Instr.fill, hc, recA, one1]
  rw [show Array.range 1 = #[0] from by decide, List.map_toArray]
  simp
end
end Go.Proofs.YtnlkanhakmkejaaDoor
