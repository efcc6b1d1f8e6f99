/-
  'append([]T{}, l...)' at structs: only new memory is made; guarded operations met by laws for unguarded ones.
-/
import Derived.Test.YtnlkanhakmkejaaDoorRecs
import Derived.Test.YtnlkanhakmkejaaDoorMixG
import Derived.Laws.CopyRow
import Derived.WalkSmall
namespace Go.Proofs.YtnlkanhakmkejaaDoor
open Go.RowKit Go.Mix

section
variable {α : Type} [Inhabited α] {enc : α → List Value} {L : Nat} {t e : TypeId}
set_option maxRecDepth 100000 in
theorem wpList_append_empty_r (T : RecTy α enc L t e) {w0 w : World} {ops : Array Oper} {rest : List Oper} {o : Oper} {a : Act} {Q : Exit → Act → World → Prop} (hwant : Region.wanted o (yielded ops a.tmps) = true) (s x : Operand)
    (ho : o.op = .call { callee := .builtin .append, args := #[s, x], argTypes := #[t, t] })
    (g : Nat) (hs : a.eval s = .slice (some ⟨g, 0, none⟩) 0 0) (hO : OwnR enc L e w0 w (.slice (some ⟨g, 0, none⟩) 0 0) []) (ad : Option Addr) (n c : Nat) (l : List α) (hx : a.eval x = .slice ad n c) (hn : n = l.length) (hl : RsAt enc L w ad c l)
    (hlen : l.length ≤ 1000000000)
    (h : ∀ v' w', OwnR enc L e w0 w' v' l → Grow w w' → wpList Tryd.prog ops Q rest (a.put o.dst v') w') : wpList Tryd.prog ops Q (o :: rest) a w := by
  subst hn
  have hsmall := T.small
  have hpos := T.pos
  have key : ∃ v' w', (Builtin.append_ #[t, t] o.type #[.slice (some ⟨g, 0, none⟩) 0 0, .slice ad l.length c]).run Tryd.prog w = .ok v' w' ∧ OwnR enc L e w0 w' v' l ∧ Grow w w' := by
    obtain ⟨z, by_, hi0, hzs, hby⟩ := T.hi
    obtain ⟨i, hi, hz0, hz1, hz2⟩ := info_parts hi0
    have hbound : l.length * by_ ≤ 140737488355328 := Nat.le_trans (Nat.mul_le_mul hlen hby) (by decide)
    obtain ⟨hO1, hO2⟩ := hO.own
    rcases hO2 with ⟨hv, _⟩ | ⟨g', cap, cur, hv, hb, hh, hn, hm, hcs, ht⟩
    · cases hv
    injection hv with h1 h2 h3
    injection h1 with h1
    injection h1 with h1
    subst h1 h3
    have hcur : cur = #[] := Array.eq_empty_of_size_eq_zero (by omega)
    subst hcur
    cases ad with
    | none =>
      have h0 := hl.non rfl
      subst h0
      have e0 : l = [] := List.eq_nil_of_length_eq_zero (by have := hl.le; omega)
      subst e0
      have hrun := run_append_owned_none (P := Tryd.prog) (w := w) 0 t o.type e i L T.ht (by rw [hi]) (.slice (some ⟨g, 0, none⟩) 0 0) 0 [] ⟨by simp, .inr ⟨g, 0, #[], rfl, Nat.zero_le _, hh, Nat.le_refl _, by decide, by simp, by simp⟩⟩
      exact ⟨_, w, hrun, hO, Grow.refl _⟩
    | some ad =>
      cases l with
      | nil =>
        have hrun := run_append_room (P := Tryd.prog) w t o.type e i T.ht hi g 0 0 #[] hh ad 0 c [] (by simp) (by simp) (by simp) (by simp) (by simp)
        simp only [List.take_nil, List.drop_nil, List.append_nil] at hrun
        rw [setRow_self w g #[] _ _ hh] at hrun
        exact ⟨_, _, hrun, hO, Grow.refl _⟩
      | cons y ys =>
        generalize hgl : y :: ys = l at *
        have hll : 0 < l.length := by rw [← hgl]; simp
        have hfl := T.flat_len l
        rcases hl.cells with h0 | ⟨b, off, hbe, hc⟩
        · rw [h0] at hll; simp at hll
        injection hbe with hbe
        subst hbe
        have hcells : ∀ j u, (flatR enc l)[j]? = some u → w.cell? ((⟨b, off, none⟩ : Addr).add j) = some u := fun j u hu => by
          rw [Addr.add_mid]
          exact (T.range_flat l off).2 hc j u hu
        have hrun := run_append_grow (P := Tryd.prog) w t o.type e i (.agg z) T.ht hi hz0 ⟨g, 0, none⟩ 0 0 [] (by simp) (by simp) ⟨b, off, none⟩ l.length c (flatR enc l) (by rw [hfl, hz1]) hcells (by omega) (by omega)
          (by rw [Nat.zero_add, nextslicecap_zero (by omega), hz2]; omega)
        simp only [Nat.zero_add] at hrun
        have hge := grownCap_ge w l.length 0 e
        have hle := grownCap_le_maxLen w l.length 0 e (by unfold maxLen; omega)
        refine ⟨_, _, hrun, ⟨⟨hfl, .inr ⟨w.heap.size, _, _, rfl, hO.frame.size, heap_alloc_last _ _ _ rfl, hge, hle, ?_, ?_⟩⟩, ?_⟩, ((Below.refl _ _).drew).alloc (by simp) _⟩
        · have hzc : (Value.cells (.agg z)).size = L := by simpa [Value.cells] using hzs
          simp only [Array.size_append, List.size_toArray, size_zeroCells, hzc, hfl, List.length_nil, Nat.zero_add, ← Nat.add_mul]
          congr 1
          omega
        · simp only [Array.toList_append, List.nil_append]
          rw [← hfl]
          exact List.take_left
        · exact hO.frame.trans ((((Below.refl _ _).drew).alloc (by simp) _).mono hO.frame.size)
  obtain ⟨v', w', hrun, h1, h2⟩ := key
  unfold wpList
  rw [if_pos hwant]
  refine .inl ?_
  unfold Oper.wp execOp
  simp only [ho, resolve, invoke, builtin, Sem.run_bind, Sem.run_pure, Result.andThen_ok, List.map_toArray, List.map_cons, List.map_nil, hs, hx, hrun]
  exact h v' w' h1 h2
omit [Inhabited α] in
theorem OwnR.empty (L : Nat) (enc : α → List Value) {w0 w : World} {e : TypeId} {g : Nat} (hg : w0.heap.size ≤ g) (hb : w.heap[g]? = some (.cells #[] e (0, 0))) (hf : Grow w0 w) : OwnR enc L e w0 w (.slice (some ⟨g, 0, none⟩) 0 0) [] :=
  ⟨⟨by simp [flatR], .inr ⟨g, 0, #[], rfl, hg, hb, Nat.le_refl _, by decide, by simp, by simp [flatR]⟩⟩, hf⟩
theorem RsAt.block {w : World} {e : TypeId} {g : Nat} {p : α} {fr : Nat × Nat} (hb : w.heap[g]? = some (.cells (recA enc p) e fr)) : RsAt enc L w (some ⟨g, 0, none⟩) 1 [p] := by
  refine ⟨Nat.le_refl _, by decide, (fun h => nomatch h), .inr ⟨_, 0, rfl, fun j hj => ?_⟩⟩
  obtain rfl : j = 0 := by simpa using hj
  intro i v hi
  rw [show 0 + 0 * L + i = i by omega, cell_of_row _ _ _ _ _ _ hb]
  simpa [recA] using hi
theorem RecTy.slice0 (T : RecTy α enc L t e) (w : World) : (Instr.buildSlice t 0 (([] : List (Nat × Value)).toArray)).run Tryd.prog w = .ok (.slice (some ⟨w.heap.size, 0, none⟩) 0 0) (w.alloc (.cells #[] e)) := by
  simp [Instr.buildSlice, run_underlying T.ht, T.se, Instr.fill, newRow]
  rw [show Array.range 0 = #[] from by decide, Array.map_empty]
omit [Inhabited α] in
/-- An empty row, made. -/
theorem OwnR.made (L : Nat) (enc : α → List Value) (w : World) (e : TypeId) : OwnR enc L e w (w.alloc (.cells #[] e)) (.slice (some ⟨w.heap.size, 0, none⟩) 0 0) [] :=
  ⟨World.ownsRow_made w #[] 0 (Nat.le_refl _) (by decide) (by simp), (Below.refl _ _).alloc (Nat.le_refl _) _⟩
end
theorem wpList_unguardR {P : Program} {ops : Array Oper} {rest : List Oper} {o : Oper} {a : Act} {w : World} {Q : Exit → Act → World → Prop} (hw : Region.wanted o (yielded ops a.tmps) = true)
    (h : wpList P ops Q ({ o with guard := none } :: rest) a w) : wpList P ops Q (o :: rest) a w := by
  unfold wpList at h ⊢
  rw [if_pos hw]
  have hw' : Region.wanted { o with guard := none } (yielded ops a.tmps) = true := rfl
  rw [if_pos hw'] at h
  exact h
theorem mg_buildSlice_g {P : Program} {ops : Array Oper} {Q : Act → World → Prop} {i : Nat} {r : List (Nat × Nat)} {o : Oper} {a : Act} {w : World} (ho : ops[i]? = some o) (hw : Region.wanted o (yielded ops a.tmps) = true)
    (ty : TypeId) (k : Nat) (ps : Array (Nat × Operand)) (hop : o.op = .buildSlice ty k ps) (PS : List (Nat × Value)) (C : Array Value) (et : TypeId) (n c : Nat) (hx : (ps.toList.map fun p => (p.1, a.eval p.2)) = PS)
    (hl : ∀ y : World, (Instr.buildSlice ty k PS.toArray).run P y = .ok (.slice (some ⟨y.heap.size, 0, none⟩) n c) (y.alloc (.cells C et)))
    (h : ∀ w', Grow w w' → MG P ops Q r (a.put o.dst (.slice (some ⟨w'.heap.size, 0, none⟩) n c)) (w'.alloc (.cells C et))) : MG P ops Q ((i, 1) :: r) a w :=
  mg_loud ho hw fun w' hw' K hK => wpList_unguardR hw (by
    have e : (ps.map fun (i, x) => (i, a.eval x)) = PS.toArray := Array.ext' (by rw [Array.toList_map]; exact hx)
    refine wpList_plain rfl fun K' hK' => ?_
    unfold Oper.wp execOp
    simp only [hop, e, Sem.run_bind, Sem.run_pure, Result.andThen_ok, hl]
    exact hK' _ _ (hK _ _ ((Below.refl _ _).alloc (Nat.le_refl _) _) (h w' hw')))
/-- Two slices made in either order. -/
theorem mg_fork_build {P : Program} {ops : Array Oper} {Q : Act → World → Prop} {i n : Nat} {r : List (Nat × Nat)} {oi on : Oper} {a : Act} {w : World} (hi : ops[i]? = some oi) (hn : ops[n]? = some on)
    (wi : Region.wanted oi (yielded ops a.tmps) = true) (wn : Region.wanted on (yielded ops a.tmps) = true) (wi' : ∀ v, Region.wanted oi (yielded ops (a.put on.dst v).tmps) = true) (wn' : ∀ v, Region.wanted on (yielded ops (a.put oi.dst v).tmps) = true)
    (hc : ∀ u v, (a.put on.dst v).put oi.dst u = (a.put oi.dst u).put on.dst v)
    (ty1 : TypeId) (k1 : Nat) (ps1 : Array (Nat × Operand)) (hop1 : oi.op = .buildSlice ty1 k1 ps1) (PS1 : List (Nat × Value)) (C1 : Array Value) (et1 : TypeId) (n1 c1 : Nat) (hx1 : (ps1.toList.map fun p => (p.1, a.eval p.2)) = PS1) (hx1' : ∀ v, (ps1.toList.map fun p => (p.1, (a.put on.dst v).eval p.2)) = PS1)
    (hl1 : ∀ y : World, (Instr.buildSlice ty1 k1 PS1.toArray).run P y = .ok (.slice (some ⟨y.heap.size, 0, none⟩) n1 c1) (y.alloc (.cells C1 et1)))
    (ty2 : TypeId) (k2 : Nat) (ps2 : Array (Nat × Operand)) (hop2 : on.op = .buildSlice ty2 k2 ps2) (PS2 : List (Nat × Value)) (C2 : Array Value) (et2 : TypeId) (n2 c2 : Nat) (hx2 : (ps2.toList.map fun p => (p.1, a.eval p.2)) = PS2) (hx2' : ∀ v, (ps2.toList.map fun p => (p.1, (a.put oi.dst v).eval p.2)) = PS2)
    (hl2 : ∀ y : World, (Instr.buildSlice ty2 k2 PS2.toArray).run P y = .ok (.slice (some ⟨y.heap.size, 0, none⟩) n2 c2) (y.alloc (.cells C2 et2)))
    (h : ∀ g1 g2 w', Grow w w' → w.heap.size ≤ g1 → w.heap.size ≤ g2 → w'.heap[g1]? = some (.cells C1 et1 (0, 0)) → w'.heap[g2]? = some (.cells C2 et2 (0, 0)) → g1 ≠ g2 →
      MG P ops Q r ((a.put oi.dst (.slice (some ⟨g1, 0, none⟩) n1 c1)).put on.dst (.slice (some ⟨g2, 0, none⟩) n2 c2)) w') : MG P ops Q ((i, n + 4) :: r) a w := by
  have B : ∀ (o : Oper) (ty : TypeId) (k : Nat) (ps : Array (Nat × Operand)) (_ : o.op = .buildSlice ty k ps) (PS : List (Nat × Value)) (C : Array Value) (et : TypeId) (n c : Nat)
      (_ : ∀ y : World, (Instr.buildSlice ty k PS.toArray).run P y = .ok (.slice (some ⟨y.heap.size, 0, none⟩) n c) (y.alloc (.cells C et))) (a : Act) (w : World) (_ : (ps.toList.map fun p => (p.1, a.eval p.2)) = PS) (_ : Region.wanted o (yielded ops a.tmps) = true) (K : Act → World → Prop)
      (_ : ∀ w', Grow w w' → K (a.put o.dst (.slice (some ⟨w'.heap.size, 0, none⟩) n c)) (w'.alloc (.cells C et))), loudStep P ops false o K a w := by
    intro o ty k ps hop PS C et n c hl a w hx hw K hK
    unfold loudStep
    rw [if_pos hw]
    intro w' hw'
    have e : (ps.map fun (i, x) => (i, a.eval x)) = PS.toArray := Array.ext' (by rw [Array.toList_map]; exact hx)
    unfold Oper.wp execOp
    simp only [hop, e, Sem.run_bind, Sem.run_pure, Result.andThen_ok, hl]
    exact ⟨fun _ => (Below.refl _ _).alloc (Nat.le_refl _) _, hK w' hw'⟩
  refine ⟨?_⟩
  simp only [wpMix, hi, hn]
  refine ⟨?_, ?_⟩
  · refine B oi ty1 k1 ps1 hop1 PS1 C1 et1 n1 c1 hl1 a w hx1 wi _ fun w1 h1 => ?_
    refine B on ty2 k2 ps2 hop2 PS2 C2 et2 n2 c2 hl2 _ _ (hx2' _) (wn' _) _ fun w2 h2 => ?_
    have hb : (w1.alloc (.cells C1 et1)).heap[w1.heap.size]? = some (.cells C1 et1 (0, 0)) := heap_alloc_last _ _ _ rfl
    have hlt := lt_of_block hb
    have h3 : w1.heap.size < w2.heap.size := Nat.lt_of_lt_of_le hlt h2.size
    have h4 : Grow w2 (w2.alloc (.cells C2 et2)) := (Below.refl _ _).alloc (Nat.le_refl _) _
    have g1 : Grow w w2 := Grow.trans h1 (Grow.trans ((Below.refl _ _).alloc (Nat.le_refl _) _) h2)
    exact (h _ _ _ (Grow.trans g1 h4) h1.size g1.size (blockR_below (blockR_below hb h2) h4) (heap_alloc_last _ _ _ rfl) (by omega)).out
  · refine B on ty2 k2 ps2 hop2 PS2 C2 et2 n2 c2 hl2 a w hx2 wn _ fun w1 h1 => ?_
    refine B oi ty1 k1 ps1 hop1 PS1 C1 et1 n1 c1 hl1 _ _ (hx1' _) (wi' _) _ fun w2 h2 => ?_
    have hb : (w1.alloc (.cells C2 et2)).heap[w1.heap.size]? = some (.cells C2 et2 (0, 0)) := heap_alloc_last _ _ _ rfl
    have hlt := lt_of_block hb
    have h3 : w1.heap.size < w2.heap.size := Nat.lt_of_lt_of_le hlt h2.size
    have h4 : Grow w2 (w2.alloc (.cells C1 et1)) := (Below.refl _ _).alloc (Nat.le_refl _) _
    have g1 : Grow w w2 := Grow.trans h1 (Grow.trans ((Below.refl _ _).alloc (Nat.le_refl _) _) h2)
    rw [hc]
    exact (h _ _ _ (Grow.trans g1 h4) g1.size h1.size (heap_alloc_last _ _ _ rfl) (blockR_below (blockR_below hb h2) h4) (by omega)).out
end Go.Proofs.YtnlkanhakmkejaaDoor
