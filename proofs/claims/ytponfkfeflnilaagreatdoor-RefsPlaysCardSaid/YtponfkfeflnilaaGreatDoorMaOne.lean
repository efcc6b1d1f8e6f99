/-
  Slices whose values take one cell each (texts, numbers, ..): that are read, and that the call owns. (After XRecs, XAppR.)
  Slices of texts.
  strings.Split at one byte: plain, and its contract.
  Texts: joined, cut out.
  How arguments are opened: arrays of bytes; slices whatever their elements.
-/
import Derived.Test.YtponfkfeflnilaaGreatDoorMaRec
import Derived.Test.YtponfkfeflnilaaGreatDoorShelfT
import Derived.Lib.IndexBytes
import Derived.Lib.IndexLaws
import Derived.Lib.SplitLaws
import Derived.Lib.Split
import Derived.Laws.Concat
import Derived.Test.YtponfkfeflnilaaGreatDoorMaBas
import Derived.WideKeyArr2
namespace Go.Proofs.YtponfkfeflnilaaGreatDoor
open Go.RowKit Go.Mix

def one1 {α : Type} (v1 : α → Value) (x : α) : List Value := [v1 x]
/-- How a value lies in one cell. -/
structure OneTy (α : Type) [Inhabited α] (v1 : α → Value) (t e : TypeId) : Prop where
  one' : ∀ x, (v1 x).oneCell' = true
  ht : Tryz.prog.underlying t = some (.slice e)
  se : ∀ w : World, (sizeOf e).run Tryz.prog w = .ok 1 w
  ie : (Tryz.prog.info? e).map (·.size) = some 1
  hi : ∃ (z : Value) (by_ : Nat), (Tryz.prog.info? e).map (fun i => (i.zero, i.size, i.bytes)) = some (some z, 1, by_) ∧ z.cells.size = 1 ∧ by_ ≤ 100
  ld : ∀ (w : World) (b o : Nat) (x : α), w.cell? ⟨b, o, none⟩ = some (v1 x) → (Instr.loadAt e (.pointer (some ⟨b, o, none⟩))).run Tryz.prog w = .ok (v1 x) w

section
variable {α : Type} [Inhabited α] {v1 : α → Value} {t e : TypeId}
theorem OneTy.pos (_T : OneTy α v1 t e) : 0 < 1 := by decide
theorem OneTy.small (_T : OneTy α v1 t e) : 1 ≤ 1000 := by decide
theorem OneTy.len (_T : OneTy α v1 t e) (x : α) : (one1 v1 x).length = 1 := rfl
theorem OneTy.one (T : OneTy α v1 t e) (x : α) : ∀ u ∈ one1 v1 x, u.oneCell' = true := fun u hu => by
  obtain rfl : u = v1 x := by simpa [one1] using hu
  exact T.one' x
variable (T : OneTy α v1 t e)
include T

theorem OneTy.flat_len : ∀ l : List α, (flatR (one1 v1) l).length = l.length * 1
  | [] => by simp [flatR]
  | p :: l => by
    have := OneTy.flat_len l
    unfold flatR at this ⊢
    rw [List.flatMap_cons, List.length_append, this, T.len, List.length_cons, Nat.succ_mul]; omega
theorem OneTy.flat_oneCell (l : List α) : ∀ u ∈ flatR (one1 v1) l, u.oneCell' = true := fun u hu => by
  unfold flatR at hu
  obtain ⟨p, _, hp⟩ := List.mem_flatMap.1 hu
  exact T.one p u hp
theorem OneTy.range_flat {w : World} {b : Nat} : ∀ (l : List α) (o : Nat), w.rangeAt b o (flatR (one1 v1) l) ↔ ∀ j, j < l.length → w.rangeAt b (o + j * 1) ((one1 v1) l[j]!)
  | [], o => ⟨fun _ j hj => by simp at hj, fun _ j v hj => by simp [flatR] at hj⟩
  | p :: l, o => by
    have e : flatR (one1 v1) (p :: l) = (one1 v1) p ++ flatR (one1 v1) l := by simp [flatR]
    rw [e, rangeR_append, T.len, OneTy.range_flat l (o + 1)]
    refine ⟨fun ⟨h0, h⟩ j hj => ?_, fun h => ⟨by simpa using h 0 (by simp), fun j hj => ?_⟩⟩
    · cases j with
      | zero => simpa using h0
      | succ j =>
        have := h j (by simp at hj; omega)
        rw [show o + (j + 1) * 1 = o + 1 + j * 1 by rw [Nat.succ_mul]; omega]
        simpa using this
    · have := h (j + 1) (by simp; omega)
      rw [show o + 1 + j * 1 = o + (j + 1) * 1 by rw [Nat.succ_mul]; omega]
      simpa using this

theorem OneTy.index (b o n cap k : Nat) (hk : k < n) (w : World) : (Instr.indexAt t (.slice (some ⟨b, o, none⟩) n cap) (.int .i64 (k : Int))).run Tryz.prog w = .ok (.pointer (some ⟨b, o + k * 1, none⟩)) w := by
  have he : Tryz.prog.elem t = e := by simp [Program.elem, T.ht]
  rw [run_indexAt_slice w t _ n cap .i64 k (by rw [he]; exact T.ht), if_pos ⟨by omega, by omega⟩, he, T.se]
  simp [Result.andThen, Addr.add_lit]
theorem OneTy.load (p : α) (b o : Nat) (w : World) (h : w.rangeAt b o (one1 v1 p)) : (Instr.loadAt e (.pointer (some ⟨b, o, none⟩))).run Tryz.prog w = .ok (v1 p) w := T.ld w b o p (by simpa [one1] using h 0 (v1 p) rfl)

/-- Where value k lies: its index, its cells, its load. -/
theorem RsAt.at1 {w : World} {a : Option Addr} {cap : Nat} {l : List α} (h : RsAt (one1 v1) 1 w a cap l) (ki : Int) (k : Nat) (hki : ki = (k : Int)) (hk : k < l.length) :
    ∃ b q, (∀ W : World, (Instr.indexAt t (.slice a l.length cap) (.int .i64 ki)).run Tryz.prog W = .ok (.pointer (some ⟨b, q, none⟩)) W) ∧ w.rangeAt b q ((one1 v1) l[k]!) ∧
      (∀ W : World, Below w.heap.size w W → (Instr.loadAt e (.pointer (some ⟨b, q, none⟩))).run Tryz.prog W = .ok (v1 l[k]!) W) := by
  subst hki
  rcases h.cells with rfl | ⟨b, o, rfl, hc⟩
  · simp at hk
  · have hr := hc k hk
    exact ⟨b, o + k * 1, fun W => T.index b o l.length cap k hk W, hr, fun W g => T.load _ b _ W (rangeR_below hr g)⟩
omit T

include T in
theorem OwnR.rs1 {w0 w : World} {v : Value} {l : List α} (h : OwnR (one1 v1) 1 e w0 w v l) : ∃ a c, v = .slice a l.length c ∧ RsAt (one1 v1) 1 w a c l ∧ (a = none ∨ ∃ b o, a = some ⟨b, o, none⟩) := by
  rcases h.own.2 with ⟨rfl, h0⟩ | ⟨g, cap, cur, rfl, _, hh, hn, hm, _, ht⟩
  · have e0 := List.eq_nil_of_length_eq_zero h0
    subst e0
    exact ⟨none, 0, rfl, RsAt.nil w, .inl rfl⟩
  · unfold maxLen at hm
    refine ⟨some ⟨g, 0, none⟩, cap, rfl, ⟨hn, by omega, (fun h => nomatch h), .inr ⟨g, 0, rfl, (T.range_flat l 0).1 fun j u hj => ?_⟩⟩, .inr ⟨g, 0, rfl⟩⟩
    have hjl : j < (flatR (one1 v1) l).length := (List.getElem?_eq_some_iff.1 hj).1
    have hfl := T.flat_len l
    have h2 : (cur.toList.take (l.length * 1))[j]? = (flatR (one1 v1) l)[j]? := by rw [ht]
    rw [List.getElem?_take, if_pos (by omega), hj] at h2
    simp only [World.cell?, hh, Nat.zero_add]
    simpa using h2

/-- 'append' of values onto values of the call's own. -/
theorem wpList_append_1 (T : OneTy α v1 t e) {w0 w : World} {ops : Array Oper} {rest : List Oper} {o : Oper} {a : Act} {Q : Exit → Act → World → Prop} (hgd : o.guard = none) (s x : Operand)
    (ho : o.op = .call { callee := .builtin .append, args := #[s, x], argTypes := #[t, t] })
    (v : Value) (xs : List α) (hs : a.eval s = v) (hR : OwnR (one1 v1) 1 e w0 w v xs) (ad : Option Addr) (n c : Nat) (ys : List α) (hx : a.eval x = .slice ad n c) (hn : n = ys.length) (hy : RsAt (one1 v1) 1 w ad c ys)
    (hlen : xs.length + ys.length ≤ 1000000000)
    (h : ∀ v' w', OwnR (one1 v1) 1 e w0 w' v' (xs ++ ys) → w.grownBy w' v.ownBlock → (v' = .slice none 0 0 ↔ v = .slice none 0 0 ∧ n = 0) → wpList Tryz.prog ops Q rest (a.put o.dst v') w') : wpList Tryz.prog ops Q (o :: rest) a w := by
  subst hn
  obtain ⟨z, by_, hi0, hzs, hby⟩ := T.hi
  obtain ⟨i, hi, hz0, hz1, hz2⟩ := info_parts hi0
  have hF := hR.frame
  have hsmall := T.small
  have hbound : by_ * (xs.length + ys.length) ≤ 140737488355328 := Nat.le_trans (Nat.mul_le_mul hby hlen) (by decide)
  rcases hy.cells with rfl | ⟨b, off, rfl, hc⟩
  · cases ad with
    | none =>
      obtain rfl := hy.non rfl
      refine wpList_append_own_none hgd s x t ho w0.heap.size e i 1 T.ht (by rw [hi]) v _ _ hs hR.own (by simpa using hx) ?_
      exact h v w (by rw [List.append_nil]; exact hR) ⟨rfl, rfl, rfl, Nat.le_refl _, fun _ _ _ => rfl⟩ (by simp)
    | some ad =>
      refine wpList_append_own_at w hgd s x t ho w0.heap.size e i _ 1 by_ T.ht hi hz0 hz1 hz2 hzs T.pos v xs.length (flatR (one1 v1) xs) hs hR.own ad 0 c [] hx (by simp) (by simp) (by simp) (by unfold maxLen; simp at hlen; omega) (by simpa [Nat.mul_comm] using hbound) hF.size ?_
      intro v' w' h1 h2 h3 _
      refine h v' w' ⟨by rw [List.append_nil] at h1 ⊢; exact h1, ?_⟩ h2 h3
      exact ⟨h2.os.trans hF.os, h2.tape.trans hF.tape, h2.output.trans hF.output, Nat.le_trans hF.size h2.size, fun k hk => (h2.block k (Nat.lt_of_lt_of_le hk hF.size) (fun e => by have := (hR.block k e.symm).1; omega)).trans (hF.block k hk)⟩
  · refine wpList_append_own_at w hgd s x t ho w0.heap.size e i _ 1 by_ T.ht hi hz0 hz1 hz2 hzs T.pos v xs.length (flatR (one1 v1) xs) hs hR.own _ ys.length c (flatR (one1 v1) ys) hx (by rw [T.flat_len]) (fun j u hj => ?_) (T.flat_oneCell ys) (by unfold maxLen; omega) (by simpa [Nat.mul_comm] using hbound) hF.size ?_
    · rw [Addr.add_mid]; exact (T.range_flat ys off).2 hc j u hj
    · intro v' w' h1 h2 h3 _
      refine h v' w' ⟨by rw [List.length_append, flatR_append]; exact h1, ?_⟩ h2 h3
      exact ⟨h2.os.trans hF.os, h2.tape.trans hF.tape, h2.output.trans hF.output, Nat.le_trans hF.size h2.size, fun k hk => (h2.block k (Nat.lt_of_lt_of_le hk hF.size) (fun e => by have := (hR.block k e.symm).1; omega)).trans (hF.block k hk)⟩

/-- A part of values that are read: 's[:j]', 's[j:]', 's[i:i+1]'. -/
theorem RsAt.to1 {w : World} {a : Option Addr} {cap : Nat} {l : List α} (h : RsAt (one1 v1) 1 w a cap l) (T : OneTy α v1 t e) {j : Nat} (hj : j ≤ l.length) (J : Int) (hJ : J = (j : Int)) :
    ∀ W : World, (Instr.slice t (.slice a l.length cap) none (some (.int .i64 J)) none).run Tryz.prog W = .ok (.slice a j cap) W := fun W => by
  subst hJ
  have hle := h.le
  exact run_slice_to t T.ht a l.length cap j (by omega) h.non T.se W
theorem RsAt.from1 {w : World} {a : Option Addr} {cap : Nat} {l : List α} (h : RsAt (one1 v1) 1 w a cap l) (T : OneTy α v1 t e) {j : Nat} (hj : j ≤ l.length) (J : Int) (hJ : J = (j : Int)) :
    ∃ a2 c2, (∀ W : World, (Instr.slice t (.slice a l.length cap) (some (.int .i64 J)) none none).run Tryz.prog W = .ok (.slice a2 (l.length - j) c2) W) ∧ RsAt (one1 v1) 1 w a2 c2 (l.drop j) := by
  subst hJ
  have hle := h.le
  have hbig := h.big
  have he : Tryz.prog.elem t = e := by simp [Program.elem, T.ht]
  refine ⟨if cap = j then a else a.map (·.add (j * 1)), cap - j, fun W => ?_, ⟨by rw [List.length_drop]; omega, by omega, fun hn => ?_, ?_⟩⟩
  · rw [run_slice_l W t _ _ _ (by rw [he]; exact T.ht) .i64 (j : Int) (by omega) (by omega), he, T.se]
    simp [Result.andThen, sliced]
  · by_cases hc : cap = j
    · omega
    · rw [if_neg hc] at hn
      have := h.non (by cases a with | none => rfl | some x => simp at hn)
      omega
  · by_cases hd : j = l.length
    · subst hd; exact .inl (List.drop_length ..)
    · rcases h.cells with rfl | ⟨b, o, rfl, hc⟩
      · exact absurd (by simp at hj ⊢; exact hj) hd
      · rw [if_neg (by omega)]
        refine .inr ⟨b, o + j * 1, by simp [Addr.add_mid], fun i hi => ?_⟩
        rw [List.length_drop] at hi
        have := hc (j + i) (by omega)
        rw [getElem!_pos _ i (by rw [List.length_drop]; omega), List.getElem_drop, show o + j * 1 + i * 1 = o + (j + i) * 1 by rw [Nat.add_mul]; omega]
        rw [getElem!_pos l (j + i) (by omega)] at this
        exact this
set_option maxRecDepth 100000 in
theorem wpList_append_empty_1 (T : OneTy α v1 t e) {w0 w : World} {ops : Array Oper} {rest : List Oper} {o : Oper} {a : Act} {Q : Exit → Act → World → Prop} (hwant : Region.wanted o (yielded ops a.tmps) = true) (s x : Operand)
    (ho : o.op = .call { callee := .builtin .append, args := #[s, x], argTypes := #[t, t] })
    (g : Nat) (hs : a.eval s = .slice (some ⟨g, 0, none⟩) 0 0) (hO : OwnR (one1 v1) 1 e w0 w (.slice (some ⟨g, 0, none⟩) 0 0) []) (ad : Option Addr) (n c : Nat) (l : List α) (hx : a.eval x = .slice ad n c) (hn : n = l.length) (hl : RsAt (one1 v1) 1 w ad c l)
    (hlen : l.length ≤ 1000000000)
    (h : ∀ v' w', OwnR (one1 v1) 1 e w0 w' v' l → Grow w w' → wpList Tryz.prog ops Q rest (a.put o.dst v') w') : wpList Tryz.prog ops Q (o :: rest) a w := by
  subst hn
  have hsmall := T.small
  have hpos := T.pos
  have key : ∃ v' w', (Builtin.append_ #[t, t] o.type #[.slice (some ⟨g, 0, none⟩) 0 0, .slice ad l.length c]).run Tryz.prog w = .ok v' w' ∧ OwnR (one1 v1) 1 e w0 w' v' l ∧ Grow w w' := by
    obtain ⟨z, by_, hi0, hzs, hby⟩ := T.hi
    obtain ⟨i, hi, hz0, hz1, hz2⟩ := info_parts hi0
    have hbound : l.length * by_ ≤ 140737488355328 := Nat.le_trans (Nat.mul_le_mul hlen hby) (by decide)
    obtain ⟨hO1, hO2⟩ := hO.own
    rcases hO2 with ⟨hv, _⟩ | ⟨g', cap, cur, hv, hb, hh, hn, hm, hcs, ht⟩
    · cases hv
    injection hv with h1 h2 h3
    injection h1 with h1
    injection h1 with h1
    subst h1 h3
    have hcur : cur = #[] := Array.eq_empty_of_size_eq_zero (by omega)
    subst hcur
    cases ad with
    | none =>
      have h0 := hl.non rfl
      subst h0
      have e0 : l = [] := List.eq_nil_of_length_eq_zero (by have := hl.le; omega)
      subst e0
      have hrun := run_append_owned_none (P := Tryz.prog) (w := w) 0 t o.type e i 1 T.ht (by rw [hi]) (.slice (some ⟨g, 0, none⟩) 0 0) 0 [] ⟨by simp, .inr ⟨g, 0, #[], rfl, Nat.zero_le _, hh, Nat.le_refl _, by decide, by simp, by simp⟩⟩
      exact ⟨_, w, hrun, hO, Grow.refl _⟩
    | some ad =>
      cases l with
      | nil =>
        have hrun := run_append_room (P := Tryz.prog) w t o.type e i T.ht hi g 0 0 #[] hh ad 0 c [] (by simp) (by simp) (by simp) (by simp) (by simp)
        simp only [List.take_nil, List.drop_nil, List.append_nil] at hrun
        rw [setRow_self w g #[] _ _ hh] at hrun
        exact ⟨_, _, hrun, hO, Grow.refl _⟩
      | cons y ys =>
        generalize hgl : y :: ys = l at *
        have hll : 0 < l.length := by rw [← hgl]; simp
        have hfl := T.flat_len l
        rcases hl.cells with h0 | ⟨b, off, hbe, hc⟩
        · rw [h0] at hll; simp at hll
        injection hbe with hbe
        subst hbe
        have hcells : ∀ j u, (flatR (one1 v1) l)[j]? = some u → w.cell? ((⟨b, off, none⟩ : Addr).add j) = some u := fun j u hu => by
          rw [Addr.add_mid]
          exact (T.range_flat l off).2 hc j u hu
        have hrun := run_append_grow (P := Tryz.prog) w t o.type e i z T.ht hi hz0 ⟨g, 0, none⟩ 0 0 [] (by simp) (by simp) ⟨b, off, none⟩ l.length c (flatR (one1 v1) l) (by rw [hfl, hz1]) hcells (by omega) (by omega)
          (by rw [Nat.zero_add, nextslicecap_zero (by omega), hz2]; omega)
        simp only [Nat.zero_add] at hrun
        have hge := grownCap_ge w l.length 0 e
        have hle := grownCap_le_maxLen w l.length 0 e (by unfold maxLen; omega)
        refine ⟨_, _, hrun, ⟨⟨hfl, .inr ⟨w.heap.size, _, _, rfl, hO.frame.size, heap_alloc_last _ _ _ rfl, hge, hle, ?_, ?_⟩⟩, ?_⟩, ((Below.refl _ _).drew).alloc (by simp) _⟩
        · have hzc : (Value.cells z).size = 1 := hzs
          simp only [Array.size_append, List.size_toArray, size_zeroCells, hzc, hfl, List.length_nil, Nat.zero_add, ← Nat.add_mul]
          congr 1
          omega
        · simp only [Array.toList_append, List.nil_append]
          rw [← hfl]
          exact List.take_left
        · exact hO.frame.trans ((((Below.refl _ _).drew).alloc (by simp) _).mono hO.frame.size)
  obtain ⟨v', w', hrun, h1, h2⟩ := key
  unfold wpList
  rw [if_pos hwant]
  refine .inl ?_
  unfold Oper.wp execOp
  simp only [ho, resolve, invoke, builtin, Sem.run_bind, Sem.run_pure, Result.andThen_ok, List.map_toArray, List.map_cons, List.map_nil, hs, hx, hrun]
  exact h v' w' h1 h2
theorem OneTy.slice0 (T : OneTy α v1 t e) (w : World) : (Instr.buildSlice t 0 (([] : List (Nat × Value)).toArray)).run Tryz.prog w = .ok (.slice (some ⟨w.heap.size, 0, none⟩) 0 0) (w.alloc (.cells #[] e)) := by
  simp [Instr.buildSlice, run_underlying T.ht, T.se, Instr.fill, newRow]
  rw [show Array.range 0 = #[] from by decide, Array.map_empty]
theorem cells_one {v : Value} (h : v.oneCell' = true) : v.cells = #[v] := by cases v <;> first | rfl | cases h
theorem OneTy.slice1 (T : OneTy α v1 t e) (p : α) (w : World) : (Instr.buildSlice t 1 ([(0, v1 p)] : List (Nat × Value)).toArray).run Tryz.prog w = .ok (.slice (some ⟨w.heap.size, 0, none⟩) 1 1) (w.alloc (.cells (recA (one1 v1) p) e)) := by
  obtain ⟨z, by_, hi0, hzs, hby⟩ := T.hi
  obtain ⟨i, hi, hz0, hz1, hz2⟩ := info_parts hi0
  refine run_buildSlice w t e _ _ _ i _ T.ht hi hz0 (by rw [hz1]; decide) (by rw [hz1]; decide) ?_
  rw [hz1]
  have hc := cells_one (T.one' p)
  simp [Instr.fill, hc, recA, one1]
  rw [show Array.range 1 = #[0] from by decide, List.map_toArray]
  simp
end
end Go.Proofs.YtponfkfeflnilaaGreatDoor
namespace Go.Proofs.YtponfkfeflnilaaGreatDoor
open Go.RowKit Go.Mix

def strV (x : List UInt8) : Value := .string (strOf x)
theorem tyS : OneTy (List UInt8) strV 65 9 :=
  ⟨fun _ => rfl, Tryz.underlying65, fun w => by kernel_rfl, by kernel_rfl, ⟨.string ByteArray.empty, 16, by kernel_rfl, rfl, by decide⟩, fun w b o x h => by
    unfold strV at h ⊢
    go_simp⟩
/-- Strings' cells. -/
abbrev encS : List UInt8 → List Value := one1 strV
theorem flat_texts (l : List (List UInt8)) : flatR encS l = l.map strV := by
  unfold flatR encS one1
  induction l with
  | nil => rfl
  | cons x l ih => rw [List.flatMap_cons, List.map_cons, ih]; rfl
/-- Texts that lie in a block. -/
theorem texts_block {w : World} {g : Nat} {t : TypeId} {fr : Nat × Nat} {l : List (List UInt8)} (hb : w.heap[g]? = some (.cells (l.map strV).toArray t fr)) (hl : l.length ≤ 9223372036854775807) : RsAt encS 1 w (some ⟨g, 0, none⟩) l.length l :=
  ⟨Nat.le_refl _, hl, (fun h => nomatch h), .inr ⟨g, 0, rfl, (tyS.range_flat l 0).1 fun j v hj => by
    rw [cell_of_row _ _ _ _ _ _ hb, Nat.zero_add]
    rw [flat_texts] at hj
    simpa using hj⟩⟩
end Go.Proofs.YtponfkfeflnilaaGreatDoor
namespace Go.Proofs.YtponfkfeflnilaaGreatDoor
open Go.RowKit Go.Mix

/-- A text's parts between a byte. -/
def splitC (c : UInt8) : List UInt8 → List (List UInt8)
  | [] => [[]]
  | x :: l => if x = c then [] :: splitC c l else match splitC c l with
    | p :: ps => (x :: p) :: ps
    | [] => [[x]]
theorem splitC_ne (c : UInt8) : ∀ l, splitC c l ≠ []
  | [] => by simp [splitC]
  | x :: l => by
    unfold splitC
    split
    · simp
    · split <;> simp
theorem splitC_none {c : UInt8} : ∀ {l : List UInt8}, c ∉ l → splitC c l = [l]
  | [], _ => rfl
  | x :: l, h => by
    have h1 : x ≠ c := fun e => h (by simp [e])
    unfold splitC
    rw [if_neg h1, splitC_none (l := l) (fun hm => h (by simp [hm]))]
theorem splitC_hit {c : UInt8} : ∀ {a b : List UInt8}, c ∉ a → splitC c (a ++ c :: b) = a :: splitC c b
  | [], b, _ => by rw [List.nil_append, splitC, if_pos rfl]
  | x :: a, b, h => by
    have h1 : x ≠ c := fun e => h (by simp [e])
    rw [List.cons_append, splitC, if_neg h1, splitC_hit (a := a) (fun hm => h (by simp [hm]))]
/-- One byte more at the end. -/
theorem splitC_snoc (c : UInt8) : ∀ (l : List UInt8) (x : UInt8), splitC c (l ++ [x]) = if x = c then splitC c l ++ [[]] else (splitC c l).dropLast ++ [(splitC c l).getLastD [] ++ [x]]
  | [], x => by
    by_cases h : x = c
    · simp [splitC, h]
    · simp [splitC, h]
  | y :: l, x => by
    have ih := splitC_snoc c l x
    rw [List.cons_append]
    obtain ⟨p, ps, hp⟩ := List.exists_cons_of_ne_nil (splitC_ne c l)
    rw [hp] at ih
    by_cases hy : y = c
    · have e : ∀ m, splitC c (y :: m) = [] :: splitC c m := fun m => by rw [splitC, if_pos hy]
      rw [e, e, ih, hp]
      by_cases h : x = c
      · rw [if_pos h, if_pos h]; rfl
      · rw [if_neg h, if_neg h]; rfl
    · have e : splitC c (y :: l) = (y :: p) :: ps := by rw [splitC, if_neg hy, hp]
      rw [e]
      by_cases h : x = c
      · rw [if_pos h] at ih ⊢
        rw [splitC, if_neg hy, ih]; rfl
      · rw [if_neg h] at ih ⊢
        rw [splitC, if_neg hy, ih]
        cases ps with
        | nil => rfl
        | cons q qs => rfl
theorem splitC_len (c : UInt8) (l : List UInt8) : (splitC c l).length ≤ l.length + 1 := by
  induction l with
  | nil => simp [splitC]
  | cons x l ih =>
    unfold splitC
    split
    · simp; omega
    · split
      · rename_i p ps h; rw [h] at ih; simp at ih ⊢; omega
      · simp
theorem splitC_part (c : UInt8) : ∀ (l : List UInt8), ∀ p ∈ splitC c l, p.length ≤ l.length
  | [] => by simp [splitC]
  | x :: l => by
    have ih := splitC_part c l
    unfold splitC
    split
    · intro p hp
      rcases List.mem_cons.1 hp with rfl | hp
      · simp
      · have := ih p hp; simp; omega
    · split
      · rename_i q qs h
        rw [h] at ih
        intro p hp
        rcases List.mem_cons.1 hp with rfl | hp
        · have := ih q (by simp); simp; omega
        · have := ih p (by simp [hp]); simp; omega
      · intro p hp
        simp at hp
        subst hp
        simp
theorem splitK_eq (c : UInt8) : ∀ (n : Nat) (l : List UInt8), l.count c = n → Lib.splitK [c] 0 n l = splitC c l
  | 0, l, h => by rw [splitC_none (List.count_eq_zero.1 h)]; rfl
  | n + 1, l, h => by
    unfold Lib.splitK
    rw [Lib.index_one]
    rcases (show Lib.indexByte l c = -1 ∨ ∃ i : Nat, Lib.indexByte l c = i by
      have := Lib.indexByte_ge l c
      rcases Int.lt_or_le (Lib.indexByte l c) 0 with h1 | h1
      · exact .inl (by omega)
      · exact .inr ⟨_, (Int.toNat_of_nonneg h1).symm⟩) with hi | ⟨i, hi⟩
    · exfalso
      have h0 : c ∉ l := fun hm => by
        obtain ⟨k, hk, e⟩ := List.getElem_of_mem hm
        exact Lib.indexByte_none hi k (by rw [List.getElem?_eq_getElem hk, e])
      rw [List.count_eq_zero.2 h0] at h
      cases h
    · obtain ⟨h1, h2⟩ := Lib.indexByte_some hi
      obtain ⟨hil, he⟩ := List.getElem?_eq_some_iff.1 h1
      have hno : c ∉ l.take i := fun hm => by
        obtain ⟨k, hk, e⟩ := List.getElem_of_mem hm
        rw [List.length_take] at hk
        rw [List.getElem_take] at e
        exact h2 k (by omega) (by rw [List.getElem?_eq_getElem (by omega), e])
      have hl : l = l.take i ++ c :: l.drop (i + 1) := by
        conv => lhs; rw [← List.take_append_drop i l, List.drop_eq_getElem_cons hil, he]
      have hc : (l.drop (i + 1)).count c = n := by
        rw [hl, List.count_append, List.count_cons_self, List.count_eq_zero.2 hno] at h
        omega
      rw [if_neg (by rw [hi]; simp <;> omega), hi]
      have e1 : ((i : Int).toNat + [c].length) = i + 1 := by simp
      have e2 : ((i : Int).toNat + 0) = i := by simp
      rw [e1, e2, splitK_eq c n _ hc]
      conv => rhs; rw [hl, splitC_hit hno]

/-- The parts' cells. -/
theorem splitB_cells (l : List UInt8) (c : UInt8) : (Lib.splitB ⟨#[c]⟩ 0 (Lib.countB (strOf l) ⟨#[c]⟩) (strOf l)).map Value.string = (splitC c l).map strV ∧ Lib.countB (strOf l) ⟨#[c]⟩ + 1 = (splitC c l).length := by
  have hc : Lib.countB (strOf l) ⟨#[c]⟩ = l.count c := Lib.count_one c l
  have h1 := Lib.splitB_data ⟨#[c]⟩ 0 (Lib.countB (strOf l) ⟨#[c]⟩) (strOf l)
  have h2 : Lib.splitK [c] 0 (Lib.countB (strOf l) ⟨#[c]⟩) l = splitC c l := splitK_eq c _ l hc.symm
  have h3 : (Lib.splitB ⟨#[c]⟩ 0 (Lib.countB (strOf l) ⟨#[c]⟩) (strOf l)).map (·.data.toList) = splitC c l := h1.trans h2
  have h4 : ∀ L : List ByteArray, L.map Value.string = (L.map (·.data.toList)).map strV := fun L => by
    rw [List.map_map]
    refine List.map_congr_left fun b _ => ?_
    show Value.string b = Value.string (strOf b.data.toList)
    rfl
  refine ⟨by rw [h4, h3], ?_⟩
  have := Lib.splitB_all ⟨#[c]⟩ (Nat.le_refl 1) 0 _ (strOf l) rfl
  rw [← h3, List.length_map]
  exact this.symm

set_option maxRecDepth 100000 in
set_option maxHeartbeats 2000000 in
/-- strings.Split: the parts, in a new block. -/
theorem split_any (l : List UInt8) (c : UInt8) (hl : l.length ≤ 1000000000) (w : World) : Calls Tryz.prog 43 #[.string (strOf l), .string ⟨#[c]⟩] w fun e w' =>
    e = .returned (.slice (some ⟨w.heap.size, 0, none⟩) (splitC c l).length (splitC c l).length) ∧ w' = w.alloc (.cells ((splitC c l).map strV).toArray 9) := by
  obtain ⟨e1, e2⟩ := splitB_cells l c
  have hs : (strOf l).size = l.length := strOf_size l
  have hlen := Lib.splitB_all ⟨#[c]⟩ (Nat.le_refl 1) 0 _ (strOf l) rfl
  have hle := Lib.countB_le ⟨#[c]⟩ (Nat.le_refl 1) (strOf l).size (strOf l) (Nat.le_refl _)
  have ec : Lib.cellsOf (Lib.splitB ⟨#[c]⟩ 0 (Lib.countB (strOf l) ⟨#[c]⟩) (strOf l)) (Lib.countB (strOf l) ⟨#[c]⟩ + 1) = ((Lib.splitB ⟨#[c]⟩ 0 (Lib.countB (strOf l) ⟨#[c]⟩) (strOf l)).map Value.string).toArray := by rw [← hlen]; exact Lib.cellsOf_full _
  have C := Any.strings_genSplit_core Tryz.lays221 (by kernel_rfl) (strOf l) ⟨#[c]⟩ 0 (-1) (Lib.countB (strOf l) ⟨#[c]⟩ + 1) w (by omega) (Nat.le_refl 1) (Nat.zero_le _)
    (fun x cs _ => (Tryz.strings_Index_one x c _).mono fun e w' ⟨h1, h2⟩ => ⟨by rw [h1, ← Lib.index_one], h2⟩)
    ((Tryz.strings_Count_one (strOf l) c w).mono fun e w' ⟨h1, h2⟩ => ⟨by
      rw [h1, show Lib.countB (strOf l) ⟨#[c]⟩ = l.count c from Lib.count_one c l]
      rfl, h2⟩) (by decide) (by decide) (by rw [if_pos (by decide)]; omega)
  rw [Nat.add_sub_cancel, hlen, ec, e1, e2] at C
  change Calls Tryz.prog 80 _ _ _ at C
  generalize (splitC c l).length = n at *
  generalize ((splitC c l).map strV).toArray = cs at *
  generalize strOf l = S at *
  clear e1 e2 hs hlen hle ec hl
  go_enter Tryz.func43, Tryz.ntmps43
  go_wp2_with (refine Calls.mono C ?_; rintro e5 w5 ⟨rfl, hw5⟩; rw [hw5])
  go_ret
  exact ⟨rfl, rfl⟩
end Go.Proofs.YtponfkfeflnilaaGreatDoor
namespace Go.Proofs.YtponfkfeflnilaaGreatDoor
open Go.RowKit Go.Mix

theorem str_add (x y : List UInt8) (hx : x.length ≤ 8388608) (hy : y.length ≤ 8388608) (W : World) : (Op.stringOp .add (strOf x) (strOf y)).run Tryz.prog W = .ok (.string (strOf (x ++ y))) W :=
  Go.run_string_add_lists (P := Tryz.prog) W x y (by omega) (by omega)
theorem ext_mid (x : List UInt8) (i j : Nat) : (strOf x).extract i j = strOf ((x.take j).drop i) := by
  unfold strOf
  apply ByteArray.ext
  rw [ByteArray.data_extract]
  simp [List.extract_eq_take_drop, List.drop_take]
theorem ext_one (x : List UInt8) {i : Nat} (h : i < x.length) : (strOf x).extract i (i + 1) = strOf [x[i]] := by
  rw [ext_mid, List.take_succ_eq_append_getElem h, List.drop_append, List.drop_of_length_le (by rw [List.length_take]; omega), List.nil_append, List.length_take, Nat.min_eq_left (by omega), Nat.sub_self, List.drop_zero]
end Go.Proofs.YtponfkfeflnilaaGreatDoor
namespace Go.Proofs.YtponfkfeflnilaaGreatDoor
open Go.RowKit Go.ChangeShapes Go.WideShapes

section
variable {H : Type} {enc : TypeId × Value → H} {P : Program} {w : World} {base : Nat} {sp : Nat → Bool} {held : Bool}

theorem byte_of_wf {n : Int} (h : (Lit.int .u8 n).wf = true) : ∃ b : UInt8, n = (b.toNat : Int) := by
  simp [Lit.wf, IntKind.min, IntKind.max, IntKind.signed, IntKind.bits] at h
  exact ⟨UInt8.ofNat n.toNat, by simp; omega⟩

/-- The cells of an array of n bytes. -/
theorem trod_bytes {t e : TypeId} {n fuel : Nat} {cs : List Value} {x : DataW H × List MemPlace} (ht : P.underlying t = some (.array n e)) (he : P.underlying e = some (.int .u8)) (hc : P.cellsOf e = 1) (hct : P.cellsOf t = n)
    (h : DataW.trod enc P w base sp held fuel t cs = some x) : ∃ l : List UInt8, l.length = n ∧ cs = bcells l := by
  obtain ⟨xs, m, rfl, rfl, hlen, hxs, hel⟩ := DataW.trod_array ht h
  rw [hct] at hlen
  have each : ∀ i, i < n → ∃ b : UInt8, cs[i]? = some (.int .u8 (b.toNat : Int)) := fun i hi => by
    have h1 := hel i hi
    rw [hc, Nat.mul_one, List.getElem?_eq_getElem (by omega)] at h1
    obtain ⟨n', e0, _, hw⟩ := DataW.trod_int he h1
    obtain ⟨b, rfl⟩ := byte_of_wf hw
    refine ⟨b, ?_⟩
    have h2 : ((cs.drop i).take 1)[0]? = some (.int .u8 (b.toNat : Int)) := by rw [e0]; rfl
    rw [List.getElem?_take, if_pos (by decide), List.getElem?_drop, Nat.add_zero] at h2
    exact h2
  have key : ∀ (k : Nat), k ≤ n → ∃ l : List UInt8, l.length = k ∧ cs.take k = bcells l := by
    intro k
    induction k with
    | zero => intro _; exact ⟨[], rfl, by simp [bcells]⟩
    | succ k ih =>
      intro hk
      obtain ⟨l, hl, e1⟩ := ih (by omega)
      obtain ⟨b, hb⟩ := each k (by omega)
      refine ⟨l ++ [b], by simp [hl], ?_⟩
      rw [List.take_add_one, e1, hb, bcells_append]; rfl
  obtain ⟨l, hl, e1⟩ := key n (Nat.le_refl _)
  rw [List.take_of_length_le (by omega)] at e1
  exact ⟨l, hl, e1⟩

theorem open_bytes {t e : TypeId} {n : Nat} {r : Reach} {b0 : Nat} {v : Value} {d : DataW H} {ps : List MemPlace} (ht : P.underlying t = some (.array n e)) (he : P.underlying e = some (.int .u8)) (hc : P.cellsOf e = 1) (hct : P.cellsOf t = n)
    (hv : Value.okWide P w r b0 t v) (h : DataW.Trod enc P w base sp held t v d ps) : ∃ l : List UInt8, l.length = n ∧ v = .agg (bcells l).toArray := by
  simp only [Value.okWide, ht] at hv
  obtain ⟨cs, rfl, _, _⟩ := hv
  obtain ⟨fuel, hf⟩ := h
  obtain ⟨l, hl, e1⟩ := trod_bytes ht he hc hct hf
  refine ⟨l, hl, ?_⟩
  rw [← e1]
  simp [Value.cells]

end
end Go.Proofs.YtponfkfeflnilaaGreatDoor
