/-
  A crash: what is plain of it; stores into a file.
-/
import Derived.Test.YtnlkanhakmkejaaDoorStList
namespace Go.Proofs.YtnlkanhakmkejaaDoor
open Go.RowKit Go.Mix Go.WideMaps Go.Maps

/-- The first files crashed. -/
def crashM (keep : List Int) : Nat → Nat → Files → Files
  | _, _, [] => []
  | i, n, p :: r => (if i < n then (p.1, crashF p.2 (keepK keep i p.2)) else p) :: crashM keep (i + 1) n r
theorem crashM_none (keep : List Int) : ∀ (l : Files) (i n : Nat), n ≤ i → crashM keep i n l = l
  | [], _, _, _ => rfl
  | p :: r, i, n, h => by
    unfold crashM
    rw [if_neg (by omega), crashM_none keep r (i + 1) n (by omega)]
theorem crashM_all (keep : List Int) : ∀ (l : Files) (i n : Nat), i + l.length ≤ n → crashM keep i n l = crashL keep i l
  | [], _, _, _ => rfl
  | p :: r, i, n, h => by
    unfold crashM crashL
    rw [List.length_cons] at h
    rw [if_pos (by omega), crashM_all keep r (i + 1) n (by omega)]
theorem crashM_length (keep : List Int) : ∀ (l : Files) (i n : Nat), (crashM keep i n l).length = l.length
  | [], _, _ => rfl
  | p :: r, i, n => by unfold crashM; rw [List.length_cons, List.length_cons, crashM_length keep r]
theorem crashM_keys (keep : List Int) : ∀ (l : Files) (i n : Nat), keysF (crashM keep i n l) = keysF l
  | [], _, _ => rfl
  | p :: r, i, n => by
    unfold crashM keysF
    rw [List.map_cons, List.map_cons]
    have := crashM_keys keep r (i + 1) n
    unfold keysF at this
    rw [this]
    split <;> rfl
theorem sorted_keys {l l' : Files} (h : keysF l' = keysF l) (hs : Sorted l) : Sorted l' := by
  unfold Sorted at *
  have h1 : (keysF l).Pairwise (· < ·) := List.pairwise_map.2 hs
  rw [← h] at h1
  exact List.pairwise_map.1 h1
theorem crashM_sorted (keep : List Int) {l : Files} (hs : Sorted l) (i n : Nat) : Sorted (crashM keep i n l) := sorted_keys (crashM_keys keep l i n) hs
theorem crashM_at (keep : List Int) : ∀ (l : Files) (i n j : Nat), n ≤ i + j → (crashM keep i n l)[j]? = l[j]?
  | [], _, _, _, _ => rfl
  | p :: r, i, n, 0, h => by unfold crashM; rw [if_neg (by omega)]; rfl
  | p :: r, i, n, j + 1, h => by
    unfold crashM
    rw [List.getElem?_cons_succ, List.getElem?_cons_succ]
    exact crashM_at keep r (i + 1) n j (by omega)
theorem crashM_step (keep : List Int) : ∀ (l : Files) (i j : Nat) (p : Bytes × FileP), l[j]? = some p → crashM keep i (i + j + 1) l = (crashM keep i (i + j) l).set j (p.1, crashF p.2 (keepK keep (i + j) p.2))
  | [], _, _, _, h => by simp at h
  | q :: r, i, 0, p, h => by
    simp only [List.getElem?_cons_zero, Option.some.injEq] at h
    subst h
    unfold crashM
    rw [if_pos (by omega), if_neg (by omega), List.set_cons_zero, crashM_none keep r (i + 1) (i + 0 + 1) (by omega), crashM_none keep r (i + 1) (i + 0) (by omega)]
    rfl
  | q :: r, i, j + 1, p, h => by
    rw [List.getElem?_cons_succ] at h
    have := crashM_step keep r (i + 1) j p h
    unfold crashM
    rw [if_pos (by omega), if_pos (by omega), List.set_cons_succ, show i + (j + 1) + 1 = i + 1 + j + 1 by omega, this, show i + (j + 1) = i + 1 + j by omega]
theorem keys_set (l : Files) (j : Nat) (x : Bytes) (f g : FileP) (h : l[j]? = some (x, g)) : keysF (l.set j (x, f)) = keysF l := by
  unfold keysF
  rw [List.map_set]
  refine List.ext_getElem? fun k => ?_
  rw [List.getElem?_set]
  split
  · rename_i e
    subst e
    rw [List.getElem?_map, h]
    split
    · rfl
    · rename_i hn
      have := (List.getElem?_eq_some_iff.1 h).1
      rw [List.length_map] at hn
      exact absurd this hn
  · rfl
theorem putF_at {l : Files} (hs : Sorted l) {j : Nat} {x : Bytes} {g : FileP} (h : l[j]? = some (x, g)) (f : FileP) : putF l x f = l.set j (x, f) := by
  have hs' : Sorted (l.set j (x, f)) := sorted_keys (keys_set l j x f g h) hs
  have hj := (List.getElem?_eq_some_iff.1 h).1
  have hmem : (x, f) ∈ l.set j (x, f) := List.mem_set hj _
  refine files_ext (sorted_put hs x f) hs' fun y => ?_
  rw [getF_put]
  by_cases hy : y = x
  · rw [if_pos hy, hy]
    exact (getF_of_mem hs' hmem).symm
  · rw [if_neg hy]
    cases hg : getF l y with
    | none =>
      symm
      rw [getF_none]
      intro p hp e
      rcases List.mem_or_eq_of_mem_set hp with h1 | h1
      · exact getF_none.1 hg p h1 e
      · rw [h1] at e; exact hy e.symm
    | some k =>
      have hm := getF_mem hg
      obtain ⟨i, hi, e⟩ := List.mem_iff_getElem.1 hm
      have hne : j ≠ i := fun e2 => by
        subst e2
        rw [List.getElem?_eq_getElem hi, e] at h
        injection h with h
        injection h with h
        exact hy h
      have hm2 : (y, k) ∈ l.set j (x, f) := by
        rw [List.mem_iff_getElem]
        exact ⟨i, by rw [List.length_set]; exact hi, by rw [List.getElem_set_ne hne, e]⟩
      exact (getF_of_mem hs' hm2).symm
/-- How many bytes the first ones have. -/
theorem sumF_append (a b : Files) : sumF (a ++ b) = sumF a + sumF b := by
  induction a with
  | nil => simp [sumF]
  | cons p a ih => rw [List.cons_append]; simp only [sumF, ih]; omega
theorem sum_step (l : Files) (j : Nat) (p : Bytes × FileP) (h : l[j]? = some p) : sumF (l.take (j + 1)) = sumF (l.take j) + p.2.now.length := by
  obtain ⟨hj, e⟩ := List.getElem?_eq_some_iff.1 h
  rw [List.take_succ_eq_append_getElem hj, sumF_append, e]
  simp [sumF]
theorem crashL_length (keep : List Int) : ∀ (l : Files) (i : Nat), (crashL keep i l).length = l.length
  | [], _ => rfl
  | p :: r, i => by unfold crashL; rw [List.length_cons, List.length_cons, crashL_length keep r]
theorem crashL_at (keep : List Int) : ∀ (l : Files) (i j : Nat) (p : Bytes × FileP), l[j]? = some p → (crashL keep i l)[j]? = some (p.1, crashF p.2 (keepK keep (i + j) p.2))
  | [], _, _, _, h => by simp at h
  | q :: r, i, 0, p, h => by
    simp only [List.getElem?_cons_zero, Option.some.injEq] at h
    subst h
    rfl
  | q :: r, i, j + 1, p, h => by
    rw [List.getElem?_cons_succ] at h
    unfold crashL
    rw [List.getElem?_cons_succ, crashL_at keep r (i + 1) j p h, show i + 1 + j = i + (j + 1) by omega]

section
variable {own own' : Owns} {w w' : World}
theorem rs_foreign {α : Type} [Inhabited α] {enc : α → List Value} {L : Nat} {T : Option Own → Prop} {a : Option Addr} {c : Nat} {l : List α} (h : RsAt enc L w a c l) (g : Turn T own own' w w') (hT : ¬ T none) (ho : ∀ x, a = some x → own x.block = none) : RsAt enc L w' a c l := by
  refine ⟨h.le, h.big, h.non, h.cells.imp id ?_⟩
  rintro ⟨b, o, rfl, hc⟩
  refine ⟨b, o, rfl, fun j hj i v hv => ?_⟩
  have h1 := hc j hj i v hv
  have hb : b < w.heap.size := lt_of_cell h1
  rw [World.cell?_of_block (a := ⟨b, o + j * L + i, none⟩) (g.frame.keep b ⟨hb, by rw [ho _ rfl]; exact hT⟩).2]
  exact h1
/-- A row reads as its values. -/
theorem rows_rs {α : Type} [Inhabited α] {enc : α → List Value} {L : Nat} {t e : TypeId} (T : RecTy α enc L t e) {v : Value} {l : List α} (h : w.ownsRow 0 e L v l.length (flatR enc l)) : ∃ a c, v = .slice a l.length c ∧ RsAt enc L w a c l := by
  rcases h.2 with ⟨rfl, h0⟩ | ⟨g, cap, cur, rfl, _, hh, hn, hm, _, ht⟩
  · have e0 := List.eq_nil_of_length_eq_zero h0
    subst e0
    exact ⟨none, 0, rfl, RsAt.nil w⟩
  · unfold maxLen at hm
    refine ⟨some ⟨g, 0, none⟩, cap, rfl, ⟨hn, by omega, (fun h => nomatch h), .inr ⟨g, 0, rfl, (T.range_flat l 0).1 fun j u hj => ?_⟩⟩⟩
    have hjl : j < (flatR enc l).length := (List.getElem?_eq_some_iff.1 hj).1
    have hfl := T.flat_len l
    have h2 : (cur.toList.take (l.length * L))[j]? = (flatR enc l)[j]? := by rw [ht]
    rw [List.getElem?_take, if_pos (by omega), hj] at h2
    simp only [World.cell?, hh, Nat.zero_add]
    simpa using h2
/-- What is kept has been stored. -/
theorem FileAt.keepK {w6 w7 : World} {b : Nat} {f : FileP} {v1 v2 v3 : Value} (hf : FileAt own w b f) (h1 : w.heap[b]? = some (.cells #[v1, v2, v3] 70 (0, 0))) (hlt : ∀ k, own k ≠ none → k < w.heap.size) (g1 : Below w.heap.size w w6) {v : Value} {l : Bytes} (hv : OwnB w6 w.heap.size v l) (g2 : Below w6.heap.size (w6.setCell ⟨b, 1, none⟩ v) w7) :
    FileAt (own.new w.heap.size w7.heap.size fun _ => .bytes) w7 b { f with kept := l } ∧ Turn (fun o => o = some (.file b)) own (own.new w.heap.size w7.heap.size fun _ => .bytes) w w7 ∧ w7.heap[b]? = some (.cells #[v1, v, v3] 70 (0, 0)) := by
  obtain ⟨u1, u2, u3, L, p1, h2, h3, h4, h5, h6⟩ := hf.ex
  rw [p1] at h1
  injection h1 with h1
  injection h1 with h1
  simp only [Array.mk.injEq, List.cons.injEq, and_true] at h1
  obtain ⟨rfl, rfl, rfl⟩ := h1
  have h1 := p1
  have hbl : b < w.heap.size := hlt b (by rw [hf.tag]; simp)
  have hs6 : w.heap.size ≤ w6.heap.size := g1.size
  have hs7 : w6.heap.size ≤ w7.heap.size := by have := g2.size; simpa [World.setCell] using this
  have hk : ∀ k, k < w6.heap.size → k ≠ b → w7.heap[k]? = w6.heap[k]? := fun k hk hne => (g2.block k hk).trans (Below.heap_setCell _ _ _ _ hne)
  have ht : Turn (fun o => o = some (.file b)) own (own.new w.heap.size w7.heap.size fun _ => .bytes) w w7 := by
    refine ⟨⟨g2.os.trans g1.os, g2.tape.trans g1.tape, g2.output.trans g1.output, Nat.le_trans hs6 hs7, fun k hk' => ⟨hk'.1, ?_⟩⟩, own.onto_new (Nat.le_trans hs6 hs7) _⟩
    exact (hk k (Nat.lt_of_lt_of_le hk'.1 hs6) (fun e => hk'.2 (by rw [e]; exact hf.tag))).trans (g1.block k hk'.1)
  have hb7 : w7.heap[b]? = some (.cells #[u1, v, u3] 70 (0, 0)) := by
    rw [g2.block b (Nat.lt_of_lt_of_le hbl hs6), heap_setCell_same _ _ _ _ _ _ ((g1.block b hbl).trans h1)]
    rfl
  refine ⟨⟨ht.ow.some hlt hf.tag, u1, v, u3, L, hb7, h2.turn ht hlt (by simp), ?_, ?_, fun g hg => ht.ow.some hlt (h5 g hg), h6.imp fun _ _ hc => hc.turn ht hlt (by simp)⟩, ht, hb7⟩
  · obtain ⟨a, c, e, hs⟩ := hv.sl
    have hx : ∀ x, a = some x → w.heap.size ≤ x.block ∧ x.block < w6.heap.size := fun x hx => ownB_block hv (by rw [e, hx]; rfl)
    refine ⟨a, c, e, sl_same hs fun x hx' => hk _ (hx x hx').2 (by have := (hx x hx').1; omega), fun x hx' => Owns.new_at _ _ (hx x hx').1 (Nat.lt_of_lt_of_le (hx x hx').2 hs7)⟩
  · refine ownsRow_same h4 fun g hg => ?_
    have hgl := (World.ownsRow.lt h4 g hg).2
    exact (hk g (Nat.lt_of_lt_of_le hgl hs6) (rows_other h4 h1 (by decide) g hg)).trans (g1.block g hgl)
/-- What is kept stands. -/
theorem FileAt.crashed {b : Nat} {f : FileP} (hf : FileAt own w b f) (hlt : ∀ k, own k ≠ none → k < w.heap.size) {v1 v2 v3 : Value} (h1 : w.heap[b]? = some (.cells #[v1, v2, v3] 70 (0, 0))) :
    FileAt own ((w.setCell ⟨b, 0, none⟩ v2).setCell ⟨b, 2, none⟩ (.slice none 0 0)) b ⟨f.kept, f.kept, []⟩ ∧ Turn (fun o => o = some (.file b)) own own w ((w.setCell ⟨b, 0, none⟩ v2).setCell ⟨b, 2, none⟩ (.slice none 0 0)) := by
  obtain ⟨u1, u2, u3, L, p1, p2, p3, p4, p5, p6⟩ := hf.ex
  rw [p1] at h1
  injection h1 with h1
  injection h1 with h1
  simp only [Array.mk.injEq, List.cons.injEq, and_true] at h1
  obtain ⟨rfl, rfl, rfl⟩ := h1
  have ht : Turn (fun o => o = some (.file b)) own own w ((w.setCell ⟨b, 0, none⟩ u2).setCell ⟨b, 2, none⟩ (.slice none 0 0)) := ((Turn.below (Below.refl _ w) hlt).set (fun _ => hf.tag) u2).set (fun _ => hf.tag) _
  refine ⟨⟨hf.tag, u2, u2, .slice none 0 0, [], ?_, p3.turn ht hlt (by simp), p3.turn ht hlt (by simp), World.ownsRow_nil _ _ _ _, fun g hg => by simp [Value.ownBlock] at hg, .nil⟩, ht⟩
  have e1 := heap_setCell_same w b 0 _ _ u2 p1
  have e2 := heap_setCell_same _ b 2 _ _ (.slice none 0 0) e1
  exact e2
end

/-- Slices of ints. -/
def intV (x : Int) : Value := .int .i64 x
theorem tyI : OneTy Int intV 23 3 :=
  ⟨fun _ => rfl, Tryd.underlying23, fun w => by kernel_rfl, by kernel_rfl, ⟨.int .i64 0, 8, by kernel_rfl, rfl, by decide⟩, fun w b o x h => by
    unfold intV at h ⊢
    go_simp⟩
abbrev encI : Int → List Value := one1 intV
end Go.Proofs.YtnlkanhakmkejaaDoor
