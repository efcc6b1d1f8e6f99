/-
  Plain: the document's store beside the store of ours.
  The document's store as it lies.
  The document's store: what only reads.
  The document's store: New, and what sets its row.
  The document's paths: the walk.
  A struct stored into a row of the call's own: 's[i] = x'.
  One of the document's files in a box; a row's file, a file's field set.
  Plain: bytes written one by one; when there is no room.
  Plain: what a call leaves of the arming.
-/
import Derived.Test.YthjjdcfkdmhmlaaDoorStOk
import Derived.Test.YthjjdcfkdmhmlaaDoorOpen7
import Derived.Test.YthjjdcfkdmhmlaaDoorAppR
import Derived.Test.YthjjdcfkdmhmlaaDoorRoomPure
import Derived.Test.YthjjdcfkdmhmlaaDoorStrOps
import Derived.Test.YthjjdcfkdmhmlaaDoorTexts
import Derived.Test.YthjjdcfkdmhmlaaDoorFew7
import Derived.Test.YthjjdcfkdmhmlaaDoorCat
import Derived.Test.YthjjdcfkdmhmlaaDoorRecs
import Derived.Test.YthjjdcfkdmhmlaaDoorMixG
import Derived.Laws.OwnMore
import Derived.Test.YthjjdcfkdmhmlaaDoorActDo
namespace Go.Proofs.YthjjdcfkdmhmlaaDoor

/-- What stood behind each change since. -/
def sinceL (f : FileP) : List Bytes := (List.range f.since.length).map fun j => runs f.kept (f.since.take (j + 1))
theorem sinceL_len (f : FileP) : (sinceL f).length = f.since.length := by unfold sinceL; rw [List.length_map, List.length_range]
theorem sinceL_at (f : FileP) {j : Nat} (hj : j < (sinceL f).length) : (sinceL f)[j]! = runs f.kept (f.since.take (j + 1)) := by
  have hj' : j < f.since.length := by rw [← sinceL_len]; exact hj
  unfold sinceL
  rw [getElem!_pos _ j (by rw [List.length_map, List.length_range]; exact hj'), List.getElem_map, List.getElem_range]
theorem sinceL_do {f : FileP} (hf : f.ok) (c : Chg) : sinceL (doF f c) = sinceL f ++ [c.on f.now] := by
  unfold sinceL doF
  simp only [List.length_append, List.length_singleton]
  rw [List.range_succ, List.map_append, List.map_singleton]
  congr 1
  · refine List.map_congr_left fun j hj => ?_
    rw [List.mem_range] at hj
    rw [List.take_append_of_le_length (by omega)]
  · rw [List.take_of_length_le (by simp), runs_snoc, hf.now]
theorem sinceL_nil (now kept : Bytes) : sinceL ⟨now, kept, []⟩ = [] := rfl

/-! ### A file's place -/
theorem getF_idx {l : Files} (hs : Sorted l) {k : Nat} (hk : k < l.length) : getF l l[k].1 = some l[k].2 := getF_of_mem hs (List.getElem_mem hk)
theorem key_ne {l : Files} (hs : Sorted l) {i k : Nat} (hi : i < l.length) (hk : k < l.length) (hik : i ≠ k) : l[i].1 ≠ l[k].1 := fun e => by
  rcases Nat.lt_or_gt_of_ne hik with h | h
  · exact lt_irr _ (e ▸ List.pairwise_iff_getElem.1 hs i k hi hk h)
  · exact lt_irr _ (e ▸ List.pairwise_iff_getElem.1 hs k i hk hi h)
theorem del_idx : ∀ {l : Files} (_ : Sorted l) {k : Nat} (hk : k < l.length), delF l l[k].1 = l.take k ++ l.drop (k + 1)
  | p :: r, hs, 0, _ => by
    obtain ⟨h1, h2⟩ := List.pairwise_cons.1 hs
    have hr : getF r p.1 = none := getF_none.2 fun q hq e => by have := h1 q hq; rw [e] at this; exact lt_irr _ this
    have hd := delF_none hr
    unfold delF at hd ⊢
    simp only [List.getElem_cons_zero, List.take_zero, List.nil_append, List.drop_succ_cons, List.drop_zero]
    rw [List.filter_cons_of_neg (by simp), hd]
  | p :: r, hs, k + 1, hk => by
    obtain ⟨h1, h2⟩ := List.pairwise_cons.1 hs
    have hk' : k < r.length := by simpa using hk
    have ih := del_idx h2 hk'
    have hne : p.1 ≠ r[k].1 := fun e => by have := h1 _ (List.getElem_mem hk'); rw [e] at this; exact lt_irr _ this
    unfold delF at ih ⊢
    simp only [List.getElem_cons_succ, List.take_succ_cons, List.drop_succ_cons, List.cons_append]
    rw [List.filter_cons_of_pos (by simpa using hne), ih]
theorem ins_idx {x : Bytes} {f : FileP} : ∀ {l : Files} {k : Nat} (_ : k ≤ l.length) (_ : ∀ i (hi : i < l.length), i < k → l[i].1 < x) (_ : ∀ h : k < l.length, ¬ l[k].1 < x), insF x f l = l.take k ++ (x, f) :: l.drop k
  | [], k, hk, _, _ => by
    have : k = 0 := by simpa using hk
    subst this
    rfl
  | p :: r, 0, _, _, h2 => by
    have := h2 (by simp)
    unfold insF
    rw [if_neg (by simpa using this)]
    rfl
  | p :: r, k + 1, hk, h1, h2 => by
    have hp := h1 0 (by simp) (by omega)
    unfold insF
    rw [if_pos (by simpa using hp), ins_idx (k := k) (by simpa using hk) (fun i hi hik => h1 (i + 1) (by simpa using hi) (by omega)) (fun h => h2 (by simpa using h))]
    rfl
theorem put_idx {l : Files} (hs : Sorted l) {k : Nat} (hk : k < l.length) (f : FileP) : putF l l[k].1 f = l.set k (l[k].1, f) := by
  have hset : Sorted (l.set k (l[k].1, f)) := by
    unfold Sorted
    rw [List.pairwise_iff_getElem]
    intro i j hi hj hij
    rw [List.length_set] at hi hj
    rw [List.getElem_set, List.getElem_set]
    have h := List.pairwise_iff_getElem.1 hs i j hi hj hij
    by_cases c1 : k = i
    · subst c1
      rw [if_pos rfl, if_neg (by omega)]
      exact h
    · rw [if_neg c1]
      by_cases c2 : k = j
      · subst c2
        rw [if_pos rfl]
        exact h
      · rw [if_neg c2]
        exact h
  refine files_ext (sorted_put hs _ _) hset fun y => ?_
  rw [getF_put]
  by_cases hy : y = l[k].1
  · rw [if_pos hy, hy]
    have := getF_idx hset (k := k) (by rw [List.length_set]; exact hk)
    rw [List.getElem_set_self] at this
    exact this.symm
  · rw [if_neg hy]
    cases hg : getF l y with
    | none =>
      refine (getF_none.2 fun q hq e => ?_).symm
      obtain ⟨i, hi, rfl⟩ := List.getElem_of_mem hq
      rw [List.length_set] at hi
      rw [List.getElem_set] at e
      by_cases c : k = i
      · rw [if_pos c] at e; exact hy e.symm
      · rw [if_neg c] at e
        exact getF_none.1 hg _ (List.getElem_mem hi) e
    | some g =>
      obtain ⟨i, hi, e⟩ := List.getElem_of_mem (getF_mem hg)
      have hik : k ≠ i := fun c => by subst c; rw [e] at hy; exact hy rfl
      have := getF_idx hset (k := i) (by rw [List.length_set]; exact hi)
      rw [List.getElem_set_ne hik, e] at this
      exact this.symm

/-- Where a path is found. -/
def FirstF (l : Files) (x : Bytes) : Option Nat → Prop
  | none => getF l x = none
  | some k => ∃ h : k < l.length, l[k].1 = x
def atF : Option Nat → Int
  | none => -1
  | some i => (i : Int)

/-! ### Paths -/
def scanF (name : Bytes) : Bytes → Bool
  | [] => !badF name
  | a :: l => if a = 47 then !badF name && scanF [] l else !decide (a = 0) && scanF (name ++ [a]) l
def headP (name : Bytes) : List Bytes → List Bytes
  | [] => [name]
  | p :: r => (name ++ p) :: r
theorem headP_snoc (name : Bytes) (a : UInt8) (P : List Bytes) : headP (name ++ [a]) P = headP name (match P with | [] => [[a]] | p :: r => (a :: p) :: r) := by
  cases P with
  | nil => rfl
  | cons p r => simp [headP]
theorem partsF_ne (l : Bytes) : partsF l ≠ [] := by
  cases l with
  | nil => simp [partsF]
  | cons a l =>
    unfold partsF
    split
    · simp
    · split <;> simp
theorem scan_any : ∀ (l name : Bytes), scanF name l = (!l.contains 0 && !(headP name (partsF l)).any badF)
  | [], name => by simp [scanF, partsF, headP]
  | a :: l, name => by
    unfold scanF partsF
    by_cases ha : a = 47
    · subst ha
      rw [if_pos rfl, if_pos rfl, scan_any l []]
      have hh : headP [] (partsF l) = partsF l := by
        cases h : partsF l with
        | nil => exact absurd h (partsF_ne l)
        | cons p r => rfl
      rw [hh]
      simp only [headP, List.append_nil, List.any_cons, List.contains_cons]
      have h0 : ((0 : UInt8) == 47) = false := rfl
      rw [h0]
      cases badF name <;> cases l.contains 0 <;> simp
    · rw [if_neg ha, if_neg ha, scan_any l (name ++ [a]), headP_snoc, List.contains_cons]
      have h0 : ((0 : UInt8) == a) = decide (a = 0) := by rw [Bool.eq_iff_iff, beq_iff_eq, decide_eq_true_eq]; exact eq_comm
      rw [h0]
      cases decide (a = 0) <;> simp <;> rfl
theorem scan_right (p : Bytes) : (decide (p.length ≤ 255) && scanF [] p) = rightF p := by
  unfold rightF
  rw [scan_any]
  have hh : headP [] (partsF p) = partsF p := by
    cases h : partsF p with
    | nil => exact absurd h (partsF_ne p)
    | cons p r => rfl
  rw [hh, Bool.and_assoc]

/-- Does q begin with p and a slash? -/
theorem under_iff (p q : Bytes) : underF p q = (decide (p.length < q.length) && decide (q.take p.length = p) && decide (q[p.length]? = some 47)) := by
  rw [Bool.eq_iff_iff]
  unfold underF
  simp only [Bool.and_eq_true, decide_eq_true_eq, List.isPrefixOf_iff_prefix]
  constructor
  · rintro ⟨r, rfl⟩
    exact ⟨⟨by simp, by rw [List.append_assoc, List.take_append_of_le_length (Nat.le_refl _), List.take_length]⟩, by simp⟩
  · rintro ⟨⟨h1, h2⟩, h3⟩
    refine ⟨q.drop (p.length + 1), ?_⟩
    have h4 : q[p.length] = 47 := by rw [List.getElem?_eq_getElem h1] at h3; injection h3
    have h5 : q = q.take p.length ++ q.drop p.length := (List.take_append_drop _ _).symm
    rw [List.drop_eq_getElem_cons h1, h4, h2] at h5
    rw [List.append_assoc]
    exact h5.symm

theorem doneS_files (S : StP) : (doneS S).files = S.files := by unfold doneS; split <;> rfl
end Go.Proofs.YthjjdcfkdmhmlaaDoor
namespace Go.Proofs.YthjjdcfkdmhmlaaDoor
open Go.RowKit Go.Mix Go.WideMaps

/-- One of the document's files as it lies. -/
structure RfA where
  path : Bytes
  now : RowA
  kept : RowA
  since : RowA
instance : Inhabited RfA := ⟨⟨[], default, default, default⟩⟩
def encF (x : RfA) : List Value := [.string (strOf x.path), rowV x.now, rowV x.kept, rowV x.since]
set_option maxRecDepth 100000 in
theorem tyF : RecTy RfA encF 4 74 79 :=
  ⟨by decide, by decide, fun _ => rfl, fun x u hu => by simp [encF] at hu; rcases hu with rfl | rfl | rfl | rfl <;> rfl, Tryd.underlying74, ⟨_, Tryd.underlying79⟩, fun w => by kernel_rfl, by kernel_rfl, ⟨#[.string ByteArray.empty, .slice none 0 0, .slice none 0 0, .slice none 0 0], 88, by kernel_rfl, rfl, by decide⟩⟩
theorem rf_cells {w : World} {b q : Nat} {x : RfA} (h : w.rangeAt b q (encF x)) :
    w.cell? ⟨b, q, none⟩ = some (.string (strOf x.path)) ∧ w.cell? ⟨b, q + 1, none⟩ = some (rowV x.now) ∧ w.cell? ⟨b, q + 2, none⟩ = some (rowV x.kept) ∧ w.cell? ⟨b, q + 3, none⟩ = some (rowV x.since) :=
  ⟨h 0 _ rfl, h 1 _ rfl, h 2 _ rfl, h 3 _ rfl⟩

/-- Bytes in blocks that P names. -/
structure BsAt (P : Nat → Prop) (w : World) (x : RowA) (l : Bytes) : Prop where
  n : x.n = l.length
  sl : Sl w x.a x.c l
  blk : ∀ y, x.a = some y → P y.block
structure SnAt (P : Nat → Prop) (w : World) (x : RowA) (L : List Bytes) : Prop where
  ex : ∃ M : List RowA, x.n = M.length ∧ RsAt encR 1 w x.a x.c M ∧ All2 (BsAt P w) M L
  blk : ∀ y, x.a = some y → P y.block
structure RfIs (P : Nat → Prop) (w : World) (x : RfA) (p : Bytes × FileP) : Prop where
  path : x.path = p.1
  now : BsAt P w x.now p.2.now
  kept : BsAt P w x.kept p.2.kept
  since : SnAt P w x.since (sinceL p.2)
section
variable {P P' : Nat → Prop} {w w' : World}
theorem BsAt.nil (P : Nat → Prop) (w : World) : BsAt P w ⟨none, 0, 0⟩ [] := ⟨rfl, ⟨.inl rfl, Nat.le_refl _, by decide, fun _ => rfl⟩, fun _ h => nomatch h⟩
theorem SnAt.nil (P : Nat → Prop) (w : World) : SnAt P w ⟨none, 0, 0⟩ [] := ⟨⟨[], rfl, RsAt.nil w, .nil⟩, fun _ h => nomatch h⟩
theorem BsAt.keep {x : RowA} {l : Bytes} (h : BsAt P w x l) (hk : ∀ k, P k → P' k ∧ w'.heap[k]? = w.heap[k]?) : BsAt P' w' x l :=
  ⟨h.n, sl_same h.sl fun y hy => (hk _ (h.blk y hy)).2, fun y hy => (hk _ (h.blk y hy)).1⟩
theorem rs_same {α : Type} [Inhabited α] {enc : α → List Value} {L : Nat} {a : Option Addr} {c : Nat} {l : List α} (h : RsAt enc L w a c l) (hk : ∀ y, a = some y → w'.heap[y.block]? = w.heap[y.block]?) : RsAt enc L w' a c l := by
  refine ⟨h.le, h.big, h.non, h.cells.imp id ?_⟩
  rintro ⟨b, o, rfl, hc⟩
  refine ⟨b, o, rfl, fun j hj i v hv => ?_⟩
  have h1 := hc j hj i v hv
  rw [World.cell?_of_block (a := ⟨b, o + j * L + i, none⟩) (hk ⟨b, o, none⟩ rfl)]
  exact h1
theorem SnAt.keep {x : RowA} {L : List Bytes} (h : SnAt P w x L) (hk : ∀ k, P k → P' k ∧ w'.heap[k]? = w.heap[k]?) : SnAt P' w' x L := by
  obtain ⟨M, h1, h2, h3⟩ := h.ex
  exact ⟨⟨M, h1, rs_same h2 fun y hy => (hk _ (h.blk y hy)).2, h3.imp fun _ _ hc => hc.keep hk⟩, fun y hy => (hk _ (h.blk y hy)).1⟩
theorem RfIs.keep {x : RfA} {p : Bytes × FileP} (h : RfIs P w x p) (hk : ∀ k, P k → P' k ∧ w'.heap[k]? = w.heap[k]?) : RfIs P' w' x p :=
  ⟨h.path, h.now.keep hk, h.kept.keep hk, h.since.keep hk⟩
end

/-- The blocks that are read alone. -/
def Pof (Q : Nat → Prop) (n t : Nat) (v : Value) (k : Nat) : Prop := Q k ∧ k < n ∧ k ≠ t ∧ v.ownBlock ≠ some k
structure RefAt (Q : Nat → Prop) (w : World) (t : Nat) (v : Value) (q : Int) (l : Files) (left : Int) (down : Bool) : Prop where
  tq : Q t
  blk : w.heap[t]? = some (.cells #[.int .i64 q, v, .int .i64 left, .bool down] 76 (0, 0))
  row : ∃ L : List RfA, w.ownsRow 0 79 4 v L.length (flatR encF L) ∧ All2 (RfIs (Pof Q w.heap.size t v) w) L l
  own : ∀ g, v.ownBlock = some g → Q g ∧ g ≠ t
/-- Nothing old is turned but block t. -/
structure ButT (t : Nat) (w w' : World) : Prop where
  os : w'.os = w.os
  tape : w'.tape = w.tape
  output : w'.output = w.output
  size : w.heap.size ≤ w'.heap.size
  keep : ∀ k, k < w.heap.size → k ≠ t → w'.heap[k]? = w.heap[k]?

section
variable {Q Q' : Nat → Prop} {w w' w2 : World} {t : Nat} {v v' : Value} {q left : Int} {l l' : Files} {down : Bool}
theorem RefAt.tlt (h : RefAt Q w t v q l left down) : t < w.heap.size := lt_of_block h.blk
theorem RefAt.cells (h : RefAt Q w t v q l left down) : w.cell? ⟨t, 0, none⟩ = some (.int .i64 q) ∧ w.cell? ⟨t, 1, none⟩ = some v ∧ w.cell? ⟨t, 2, none⟩ = some (.int .i64 left) ∧ w.cell? ⟨t, 3, none⟩ = some (.bool down) :=
  ⟨cell_of_row _ _ _ _ _ _ h.blk, cell_of_row _ _ _ _ _ _ h.blk, cell_of_row _ _ _ _ _ _ h.blk, cell_of_row _ _ _ _ _ _ h.blk⟩
theorem row_rs (L : List RfA) (h : w.ownsRow 0 79 4 v L.length (flatR encF L)) : ∃ a c, v = .slice a L.length c ∧ RsAt encF 4 w a c L ∧ ∀ y, a = some y → v.ownBlock = some y.block := by
  rcases h.2 with ⟨rfl, h0⟩ | ⟨g, cap, cur, rfl, _, hh, hn, hm, _, ht⟩
  · have e0 := List.eq_nil_of_length_eq_zero h0
    subst e0
    exact ⟨none, 0, rfl, RsAt.nil w, fun _ h => nomatch h⟩
  · unfold maxLen at hm
    refine ⟨some ⟨g, 0, none⟩, cap, rfl, ⟨hn, by omega, (fun h => nomatch h), .inr ⟨g, 0, rfl, (tyF.range_flat L 0).1 fun j u hj => ?_⟩⟩, fun y hy => by injection hy with hy; subst hy; rfl⟩
    have hjl : j < (flatR encF L).length := (List.getElem?_eq_some_iff.1 hj).1
    have hfl : (flatR encF L).length = L.length * 4 := tyF.flat_len L
    have h2 : (cur.toList.take (L.length * 4))[j]? = (flatR encF L)[j]? := by rw [ht]
    rw [List.getElem?_take, if_pos (by omega), hj] at h2
    simp only [World.cell?, hh, Nat.zero_add]
    simpa using h2
theorem RefAt.rs (h : RefAt Q w t v q l left down) : ∃ L a c, v = .slice a l.length c ∧ L.length = l.length ∧ RsAt encF 4 w a c L ∧ All2 (RfIs (Pof Q w.heap.size t v) w) L l := by
  obtain ⟨L, h1, h2⟩ := h.row
  obtain ⟨a, c, h3, h4, -⟩ := row_rs L h1
  exact ⟨L, a, c, by rw [h3, h2.length], h2.length, h4, h2⟩
theorem row_same {L : List RfA} (h : w.ownsRow 0 79 4 v L.length (flatR encF L)) (hb : ∀ g, v.ownBlock = some g → w'.heap[g]? = w.heap[g]?) : w'.ownsRow 0 79 4 v L.length (flatR encF L) := ownsRow_same h hb
theorem row_lt {L : List RfA} (h : w.ownsRow 0 79 4 v L.length (flatR encF L)) {g : Nat} (hg : v.ownBlock = some g) : g < w.heap.size := (World.ownsRow.lt h g hg).2
/-- What is named may be relied on. -/
theorem RefAt.keep (h : RefAt Q w t v q l left down) (hs : w.heap.size ≤ w'.heap.size) (hk : ∀ k, Q k → k < w.heap.size → Q' k ∧ w'.heap[k]? = w.heap[k]?) : RefAt Q' w' t v q l left down := by
  obtain ⟨L, h1, h2⟩ := h.row
  have hg : ∀ g, v.ownBlock = some g → Q' g ∧ w'.heap[g]? = w.heap[g]? := fun g e => hk g (h.own g e).1 (row_lt h1 e)
  refine ⟨(hk t h.tq h.tlt).1, (hk t h.tq h.tlt).2.trans h.blk, ⟨L, row_same h1 fun g e => (hg g e).2, h2.imp fun _ _ hc => hc.keep fun k hp => ?_⟩, fun g e => ⟨(hg g e).1, (h.own g e).2⟩⟩
  have := hk k hp.1 hp.2.1
  exact ⟨⟨this.1, Nat.lt_of_lt_of_le hp.2.1 hs, hp.2.2⟩, this.2⟩
theorem RefAt.below (h : RefAt Q w t v q l left down) (g : Below w.heap.size w w') : RefAt Q w' t v q l left down := h.keep g.size fun k hq hk => ⟨hq, g.block k hk⟩
theorem ButT.refl (t : Nat) (w : World) : ButT t w w := ⟨rfl, rfl, rfl, Nat.le_refl _, fun _ _ _ => rfl⟩
theorem ButT.below (h : ButT t w w') (g : Below w'.heap.size w' w2) : ButT t w w2 := ⟨g.os.trans h.os, g.tape.trans h.tape, g.output.trans h.output, Nat.le_trans h.size g.size, fun k hk hn => (g.block k (Nat.lt_of_lt_of_le hk h.size)).trans (h.keep k hk hn)⟩
theorem ButT.of (g : Below w.heap.size w w') : ButT t w w' := ⟨g.os, g.tape, g.output, g.size, fun k hk _ => g.block k hk⟩
theorem ButT.trans (h : ButT t w w') (g : ButT t w' w2) : ButT t w w2 := ⟨g.os.trans h.os, g.tape.trans h.tape, g.output.trans h.output, Nat.le_trans h.size g.size, fun k hk hn => (g.keep k (Nat.lt_of_lt_of_le hk h.size) hn).trans (h.keep k hk hn)⟩
theorem ButT.set (h : ButT t w w') (i : Nat) (u : Value) : ButT t w (w'.setCell ⟨t, i, none⟩ u) :=
  ⟨h.os, h.tape, h.output, by simpa [World.setCell] using h.size, fun k hk hn => (Below.heap_setCell _ _ _ _ hn).trans (h.keep k hk hn)⟩
theorem ButT.frame (h : ButT t w w') (hq : Q t) : FrameS (fun k => k < w.heap.size ∧ ¬ Q k) w w' := ⟨h.os, h.tape, h.output, h.size, fun k hk => ⟨hk.1, h.keep k hk.1 fun e => hk.2 (e ▸ hq)⟩⟩
/-- A new row is set. -/
theorem RefAt.newRow (h : RefAt Q w t v q l left down) (hQ : ∀ k, w.heap.size ≤ k → Q k) {L : List RfA} (ho : OwnR encF 4 79 w w' v' L) (hl : All2 (RfIs (Pof Q w.heap.size t v) w) L l') :
    RefAt Q (w'.setCell ⟨t, 1, none⟩ v') t v' q l' left down ∧ ButT t w (w'.setCell ⟨t, 1, none⟩ v') ∧ ∀ g, v'.ownBlock = some g → w.heap.size ≤ g := by
  have hb := ho.frame
  have hblk : w'.heap[t]? = some (.cells #[.int .i64 q, v, .int .i64 left, .bool down] 76 (0, 0)) := (hb.block t h.tlt).trans h.blk
  have hs : (w'.setCell ⟨t, 1, none⟩ v').heap.size = w'.heap.size := by simp [World.setCell]
  have hset : ∀ k, k ≠ t → (w'.setCell ⟨t, 1, none⟩ v').heap[k]? = w'.heap[k]? := fun k hk => Below.heap_setCell _ _ _ _ hk
  have hfr : ∀ g, v'.ownBlock = some g → w.heap.size ≤ g := fun g hg => (ho.block g hg).1
  refine ⟨⟨h.tq, by rw [Go.heap_setCell_same w' t 1 _ _ v' hblk]; rfl, ⟨L, ?_, ?_⟩, fun g hg => ⟨hQ g (hfr g hg), fun e => ?_⟩⟩, (ButT.of hb).set 1 v', hfr⟩
  · refine ⟨ho.own.1, ho.own.2.imp id ?_⟩
    rintro ⟨g, cap, cur, e1, hg, hh, r⟩
    refine ⟨g, cap, cur, e1, Nat.zero_le _, (hset g fun e => ?_).trans hh, r⟩
    have := h.tlt
    omega
  · refine hl.imp fun _ _ hc => hc.keep fun k hp => ⟨⟨hp.1, by rw [hs]; exact Nat.lt_of_lt_of_le hp.2.1 hb.size, hp.2.2.1, fun e => ?_⟩, (hset k hp.2.2.1).trans (hb.block k hp.2.1)⟩
    have := hfr k e
    have := hp.2.1
    omega
  · have := hfr g hg
    have := h.tlt
    omega
end
end Go.Proofs.YthjjdcfkdmhmlaaDoor
namespace Go.Proofs.YthjjdcfkdmhmlaaDoor
open Go.RowKit Go.Mix Go.WideMaps

set_option maxRecDepth 100000 in
set_option maxHeartbeats 2000000 in
theorem rfWithin_any (p q : Bytes) (w : World) :
    Calls Tryd.prog 61 #[.string (strOf p), .string (strOf q)] w fun e w' => e = .returned (.bool (underF p q)) ∧ w = w' := by
  have hu := under_iff p q
  obtain ⟨R, hR⟩ : ∃ R, R = underF p q := ⟨_, rfl⟩
  rw [← hR] at hu ⊢
  clear hR
  obtain ⟨np, hnp⟩ : ∃ n, n = p.length := ⟨_, rfl⟩
  obtain ⟨nq, hnq⟩ : ∃ n, n = q.length := ⟨_, rfl⟩
  have z1 : (strOf p).size = np := by rw [strOf_size, hnp]
  have z2 : (strOf q).size = nq := by rw [strOf_size, hnq]
  have HU := Lib.hid (And.intro hu (And.intro hnp hnq))
  go_enter Tryd.func61, Tryd.ntmps61
  by_cases c1 : np < nq
  · have t1 : decide ((np : Int) < (nq : Int)) = true := decide_eq_true (by omega)
    have t1' : decide (np < nq) = true := decide_eq_true c1
    have S1 := fun W => str_to Tryd.underlying9 q (i := np) (by omega) W
    have EQ : ((strOf (q.take np)).toList == (strOf p).toList) = decide (q.take np = p) := by rw [strOf_eq, strOf_list]
    have I1 := fun W => str_at Tryd.underlying9 q (i := np) (np : Int) rfl (c := q[np]) (by rw [List.getElem?_eq_getElem]) W
    have E47 : q[np]? = some 47 ↔ q[np] = 47 := by rw [List.getElem?_eq_getElem (by omega)]; exact ⟨fun h => Option.some.inj h, fun h => by rw [h]⟩
    have hc := HU.out.1
    rw [decide_eq_true (by omega : p.length < q.length), ← hnp, Bool.true_and] at hc
    generalize hcc : q[np] = ch at *
    by_cases c2 : q.take np = p
    · rw [decide_eq_true c2] at EQ hc
      rw [Bool.true_and] at hc
      by_cases c3 : ch = 47
      · rw [decide_eq_true (E47.2 c3)] at hc
        have e3 : ((ch.toNat : Int) == 47) = true := by rw [c3]; rfl
        subst hc
        clear hnp hnq hu c2 c3 E47 hcc
        generalize strOf (q.take np) = X at *
        generalize strOf p = Y at *
        generalize strOf q = Z at *
        go_wp2_with fail
        go_ret
        exact ⟨rfl, rfl⟩
      · rw [decide_eq_false (fun h => c3 (E47.1 h))] at hc
        have e3 : ((ch.toNat : Int) == 47) = false := by
          rw [beq_eq_false_iff_ne]
          intro h
          refine c3 (UInt8.toNat_inj.1 ?_)
          have : (47 : UInt8).toNat = 47 := rfl
          omega
        subst hc
        clear hnp hnq hu c2 c3 E47 hcc
        generalize strOf (q.take np) = X at *
        generalize strOf p = Y at *
        generalize strOf q = Z at *
        go_wp2_with fail
        go_ret
        exact ⟨rfl, rfl⟩
    · rw [decide_eq_false c2] at EQ hc
      rw [Bool.false_and] at hc
      subst hc
      clear hnp hnq hu c2 E47 hcc I1
      generalize strOf (q.take np) = X at *
      generalize strOf p = Y at *
      generalize strOf q = Z at *
      go_wp2_with fail
      go_ret
      exact ⟨rfl, rfl⟩
  · have t1 : decide ((np : Int) < (nq : Int)) = false := decide_eq_false (by omega)
    have t1' : decide (np < nq) = false := decide_eq_false c1
    have hc := HU.out.1
    rw [decide_eq_false (by omega : ¬ p.length < q.length), Bool.false_and, Bool.false_and] at hc
    subst hc
    clear hnp hnq hu
    generalize strOf p = Y at *
    generalize strOf q = Z at *
    go_wp2_with fail
    go_ret
    exact ⟨rfl, rfl⟩

section
variable {Q : Nat → Prop} {w : World} {t : Nat} {v : Value} {q left : Int} {l : Files} {down : Bool}
set_option maxRecDepth 100000 in
set_option maxHeartbeats 2000000 in
theorem rfFind_any (h : RefAt Q w t v q l left down) (hl : l.length ≤ 100000) (x : Bytes) :
    Calls Tryd.prog 50 #[ptr t, .string (strOf x)] w fun e w' => (∃ o, e = .returned (.int .i64 (atF o)) ∧ FirstF l x o) ∧ w = w' := by
  obtain ⟨L, a, c, rfl, hLl, hrs, hall⟩ := h.rs
  obtain ⟨-, k1, -, -⟩ := h.cells
  obtain ⟨n, hn⟩ : ∃ n, n = l.length := ⟨_, rfl⟩
  have HL := Lib.hid (And.intro hn (And.intro hLl (And.intro hrs hall)))
  have hn6 : n ≤ 100000 := by omega
  rw [← hn] at k1
  clear h hn hLl hrs hall
  unfold ptr
  go_enter Tryd.func50, Tryd.ntmps50
  go_wp2_with fail
  go_loopw [5] (fun s5 wr => ∃ k : Nat, s5 = .int .i64 (k : Int) ∧ k ≤ n ∧ (∀ i (hi : i < l.length), i < k → l[i].1 ≠ x) ∧ w = wr) (fun s5 _ => n - (intOf s5).toNat)
  case atStart => exact ⟨0, rfl, Nat.zero_le _, (fun i _ hk => by omega), rfl⟩
  case round =>
    obtain ⟨k, rfl, hk, hno, rfl⟩ := hrel
    have HNO := Lib.hid hno
    clear hno
    by_cases hkn : k < n
    · have t1 : decide ((k : Int) < (n : Int)) = true := decide_eq_true (by omega)
      have t1' : decide (k < n) = true := decide_eq_true hkn
      have hkl : k < l.length := by rw [← HL.out.1]; exact hkn
      have hkL : k < L.length := by rw [HL.out.2.1]; exact hkl
      obtain ⟨b, q, IX, R, -⟩ := HL.out.2.2.1.at tyF (k : Int) k rfl hkL
      rw [HL.out.2.1, ← HL.out.1] at IX
      have hf := HL.out.2.2.2.at hkL hkl
      obtain ⟨f0, -, -, -⟩ := rf_cells R
      rw [getElem!_pos L k hkL, hf.path] at f0
      have EQ : ((strOf l[k].1).toList == (strOf x).toList) = decide (l[k].1 = x) := by rw [strOf_eq, strOf_list]
      obtain ⟨d, hd⟩ : ∃ d, d = decide (l[k].1 = x) := ⟨_, rfl⟩
      rw [← hd] at EQ
      have HD := Lib.hid (And.intro hd hkl)
      generalize strOf l[k].1 = T1 at *
      generalize strOf x = T2 at *
      clear hd hf R hkL
      cases d
      · go_wp2_with fail
        go_roundw
        case rel =>
          refine ⟨k + 1, by go_num, by omega, fun i hi hik => ?_, by first | rfl | trivial⟩
          by_cases hik2 : i < k
          · exact HNO.out i hi hik2
          · obtain rfl : i = k := by omega
            exact of_decide_eq_false HD.out.1.symm
        case measure => simp [intOf]; omega
      · go_wp2_with fail
        go_ret
        exact ⟨⟨some k, rfl, HD.out.2, of_decide_eq_true HD.out.1.symm⟩, rfl⟩
    · obtain rfl : k = n := by omega
      have t1 : decide ((k : Int) < (k : Int)) = false := decide_eq_false (by omega)
      have t1' : decide (k < k) = false := decide_eq_false (by omega)
      go_wp2_with fail
      go_ret
      refine ⟨⟨none, rfl, getF_none.2 fun p hp => ?_⟩, rfl⟩
      obtain ⟨i, hi, rfl⟩ := List.getElem_of_mem hp
      exact HNO.out i hi (by rw [HL.out.1]; exact hi)

set_option maxRecDepth 100000 in
set_option maxHeartbeats 2000000 in
theorem rfUsed_any (h : RefAt Q w t v q l left down) (hl : l.length ≤ 10000) (hb : sumF l ≤ 1000000000) :
    Calls Tryd.prog 39 #[ptr t] w fun e w' => e = .returned (.int .i64 (sumF l : Nat)) ∧ w = w' := by
  obtain ⟨L, a, c, rfl, hLl, hrs, hall⟩ := h.rs
  obtain ⟨-, k1, -, -⟩ := h.cells
  obtain ⟨n, hn⟩ : ∃ n, n = l.length := ⟨_, rfl⟩
  have HL := Lib.hid (And.intro hn (And.intro hLl (And.intro hrs (And.intro hall hb))))
  have hn6 : n ≤ 10000 := by omega
  rw [← hn] at k1
  clear h hn hLl hrs hall hb
  unfold ptr
  go_enter Tryd.func39, Tryd.ntmps39
  go_wp2_with fail
  go_loopw [3, 4] (fun s3 s4 wr => ∃ k su : Nat, s4 = .int .i64 (k : Int) ∧ s3 = .int .i64 (su : Int) ∧ k ≤ n ∧ su = sumF (l.take k) ∧ w = wr) (fun _ s4 _ => n - (intOf s4).toNat)
  case atStart => exact ⟨0, 0, rfl, rfl, Nat.zero_le _, rfl, rfl⟩
  case round =>
    obtain ⟨k, su, rfl, rfl, hk, hsu, rfl⟩ := hrel
    by_cases hkn : k < n
    · have t1 : decide ((k : Int) < (n : Int)) = true := decide_eq_true (by omega)
      have t1' : decide (k < n) = true := decide_eq_true hkn
      have hkl : k < l.length := by rw [← HL.out.1]; exact hkn
      have hkL : k < L.length := by rw [HL.out.2.1]; exact hkl
      obtain ⟨b, q, IX, R, -⟩ := HL.out.2.2.1.at tyF (k : Int) k rfl hkL
      rw [HL.out.2.1, ← HL.out.1] at IX
      have hf := HL.out.2.2.2.1.at hkL hkl
      obtain ⟨-, f1, -, -⟩ := rf_cells R
      have hst := sumF_take hkl
      have hup := sumF_upto l (k + 1)
      have hmx := HL.out.2.2.2.2
      rw [getElem!_pos L k hkL] at f1
      have hnl := hf.now.n
      obtain ⟨nf, hnf⟩ : ∃ nf, nf = l[k].2.now.length := ⟨_, rfl⟩
      rw [← hnf] at hnl hst
      unfold rowV at f1
      rw [hnl] at f1
      have hw7 : IntKind.i64.wrap ((su : Int) + (nf : Int)) = (su : Int) + (nf : Int) := IntWalk.i64_in _ (by omega)
      have HS := Lib.hid (show su + nf = sumF (l.take (k + 1)) by rw [hst, hsu])
      clear hst hup hmx hnl R hnf hsu
      generalize L[k].now.a = na at *
      generalize L[k].now.c = nc at *
      clear hf hkL hkl
      go_wp2_with fail
      go_roundw
      case rel => exact ⟨k + 1, su + nf, by go_num, by go_num, by omega, HS.out, by first | rfl | trivial⟩
      case measure => simp [intOf]; omega
    · obtain rfl : k = n := by omega
      have t1 : decide ((k : Int) < (k : Int)) = false := decide_eq_false (by omega)
      have t1' : decide (k < k) = false := decide_eq_false (by omega)
      have hse : su = sumF l := by rw [hsu, HL.out.1, List.take_of_length_le (Nat.le_refl _)]
      clear hsu
      subst hse
      go_wp2_with fail
      go_ret
      exact ⟨rfl, rfl⟩

set_option maxRecDepth 100000 in
set_option maxHeartbeats 2000000 in
theorem rfClash_any (h : RefAt Q w t v q l left down) (hl : l.length ≤ 100000) (path but : Bytes) :
    Calls Tryd.prog 52 #[ptr t, .string (strOf path), .string (strOf but)] w fun e w' => e = .returned (.bool (!freeF l path but)) ∧ w = w' := by
  obtain ⟨L, a, c, rfl, hLl, hrs, hall⟩ := h.rs
  obtain ⟨-, k1, -, -⟩ := h.cells
  obtain ⟨n, hn⟩ : ∃ n, n = l.length := ⟨_, rfl⟩
  have HL := Lib.hid (And.intro hn (And.intro hLl (And.intro hrs hall)))
  have hn6 : n ≤ 100000 := by omega
  rw [← hn] at k1
  clear h hn hLl hrs hall
  have hR : (!freeF l path but) = l.any fun p => decide (p.1 ≠ but) && (underF path p.1 || underF p.1 path) := by unfold freeF; rw [Bool.not_not]
  obtain ⟨R, hR2⟩ : ∃ R, R = !freeF l path but := ⟨_, rfl⟩
  rw [← hR2] at hR ⊢
  have HR := Lib.hid hR
  clear hR hR2
  unfold ptr
  go_enter Tryd.func52, Tryd.ntmps52
  go_wp2_with fail
  go_loopw [7] (fun s7 wr => ∃ k : Nat, s7 = .int .i64 (k : Int) ∧ k ≤ n ∧ (∀ i (hi : i < l.length), i < k → (decide (l[i].1 ≠ but) && (underF path l[i].1 || underF l[i].1 path)) = false) ∧ w = wr) (fun s7 _ => n - (intOf s7).toNat)
  case atStart => exact ⟨0, rfl, Nat.zero_le _, (fun i _ hk => by omega), rfl⟩
  case round =>
    obtain ⟨k, rfl, hk, hno, rfl⟩ := hrel
    have HNO := Lib.hid hno
    clear hno
    by_cases hkn : k < n
    · have t1 : decide ((k : Int) < (n : Int)) = true := decide_eq_true (by omega)
      have t1' : decide (k < n) = true := decide_eq_true hkn
      have hkl : k < l.length := by rw [← HL.out.1]; exact hkn
      have hkL : k < L.length := by rw [HL.out.2.1]; exact hkl
      obtain ⟨b, q, IX, R1, -⟩ := HL.out.2.2.1.at tyF (k : Int) k rfl hkL
      rw [HL.out.2.1, ← HL.out.1] at IX
      have hf := HL.out.2.2.2.at hkL hkl
      obtain ⟨f0, -, -, -⟩ := rf_cells R1
      rw [getElem!_pos L k hkL, hf.path] at f0
      have EQ : ((strOf l[k].1).toList == (strOf but).toList) = !decide (l[k].1 ≠ but) := by
        rw [strOf_eq, strOf_list, decide_not, Bool.not_not]
      have C1 := rfWithin_any path l[k].1 w
      have C2 := rfWithin_any l[k].1 path w
      obtain ⟨d0, hd0⟩ : ∃ d, d = decide (l[k].1 ≠ but) := ⟨_, rfl⟩
      obtain ⟨u1, hu1⟩ : ∃ d, d = underF path l[k].1 := ⟨_, rfl⟩
      obtain ⟨u2, hu2⟩ : ∃ d, d = underF l[k].1 path := ⟨_, rfl⟩
      rw [← hd0] at EQ
      rw [← hu1] at C1
      rw [← hu2] at C2
      have HD := Lib.hid (show (decide (l[k].1 ≠ but) && (underF path l[k].1 || underF l[k].1 path)) = (d0 && (u1 || u2)) by rw [← hd0, ← hu1, ← hu2])
      have HKL := Lib.hid hkl
      clear hd0 hu1 hu2
      generalize strOf l[k].1 = T1 at *
      generalize strOf but = T2 at *
      generalize strOf path = T3 at *
      clear hf R1 hkL
      have hgo : (d0 && (u1 || u2)) = false → ∀ i (hi : i < l.length), i < k + 1 → (decide (l[i].1 ≠ but) && (underF path l[i].1 || underF l[i].1 path)) = false := fun hf i hi hik => by
        by_cases hik2 : i < k
        · exact HNO.out i hi hik2
        · obtain rfl : i = k := by omega
          rw [HD.out]; exact hf
      have HGO := Lib.hid hgo
      clear hgo
      cases d0
      · clear C1 C2
        go_wp2_with fail
        go_roundw
        case rel => exact ⟨k + 1, by go_num, by omega, HGO.out rfl, by first | rfl | trivial⟩
        case measure => simp [intOf]; omega
      · cases u1
        · cases u2
          · go_wp2_with (first | (refine Calls.mono C1 ?_; clear C1; rintro e5 w5 ⟨rfl, rfl⟩) | (refine Calls.mono C2 ?_; clear C2; rintro e6 w6 ⟨rfl, rfl⟩))
            go_roundw
            case rel => exact ⟨k + 1, by go_num, by omega, HGO.out rfl, by first | rfl | trivial⟩
            case measure => simp [intOf]; omega
          · go_wp2_with (first | (refine Calls.mono C1 ?_; clear C1; rintro e5 w5 ⟨rfl, rfl⟩) | (refine Calls.mono C2 ?_; clear C2; rintro e6 w6 ⟨rfl, rfl⟩))
            go_ret
            have hr : R = true := by rw [HR.out]; exact List.any_eq_true.2 ⟨l[k]'HKL.out, List.getElem_mem _, by rw [HD.out]; rfl⟩
            subst hr
            exact ⟨rfl, rfl⟩
        · clear C2
          go_wp2_with (refine Calls.mono C1 ?_; clear C1; rintro e5 w5 ⟨rfl, rfl⟩)
          go_ret
          have hr : R = true := by rw [HR.out]; exact List.any_eq_true.2 ⟨l[k]'HKL.out, List.getElem_mem _, by rw [HD.out]; rfl⟩
          subst hr
          exact ⟨rfl, rfl⟩
    · obtain rfl : k = n := by omega
      have t1 : decide ((k : Int) < (k : Int)) = false := decide_eq_false (by omega)
      have t1' : decide (k < k) = false := decide_eq_false (by omega)
      go_wp2_with fail
      go_ret
      have hr : R = false := by
        rw [HR.out, List.any_eq_false]
        intro p hp
        obtain ⟨i, hi, rfl⟩ := List.getElem_of_mem hp
        have := HNO.out i hi (by rw [HL.out.1]; exact hi)
        simpa using this
      subst hr
      exact ⟨rfl, rfl⟩
end
end Go.Proofs.YthjjdcfkdmhmlaaDoor
namespace Go.Proofs.YthjjdcfkdmhmlaaDoor
open Go.RowKit Go.Mix Go.WideMaps

section
variable {α β : Type} {R : α → β → Prop}
theorem All2.take {l : List α} {m : List β} (h : All2 R l m) : ∀ k, All2 R (l.take k) (m.take k) := by
  induction h with
  | nil => intro k; simp; exact .nil
  | cons h _ ih =>
    intro k
    cases k with
    | zero => exact .nil
    | succ k => exact .cons h (ih k)
theorem All2.drop {l : List α} {m : List β} (h : All2 R l m) : ∀ k, All2 R (l.drop k) (m.drop k) := by
  induction h with
  | nil => intro k; simp; exact .nil
  | cons h t ih =>
    intro k
    cases k with
    | zero => exact .cons h t
    | succ k => exact ih k
end

set_option maxRecDepth 100000 in
set_option maxHeartbeats 2000000 in
theorem rfNew_any {Q : Nat → Prop} (q : Int) (w : World) (hQ : ∀ k, w.heap.size ≤ k → Q k) :
    Calls Tryd.prog 19 #[.int .i64 q] w fun e w' => e = .returned (ptr w.heap.size) ∧ RefAt Q w' w.heap.size (.slice none 0 0) q [] (-1) false ∧ Below w.heap.size w w' := by
  have key : RefAt Q (w.alloc (.cells #[.int .i64 q, .slice none 0 0, .int .i64 (-1), .bool false] 76)) w.heap.size (.slice none 0 0) q [] (-1) false :=
    ⟨hQ _ (Nat.le_refl _), heap_alloc_last _ _ _ rfl, ⟨[], World.ownsRow_nil _ _ _ _, .nil⟩, fun g hg => nomatch hg⟩
  have HK := Lib.hid key
  clear key hQ
  go_enter Tryd.func19, Tryd.ntmps19
  go_wp2_with fail
  go_ret
  exact ⟨rfl, HK.out, (Below.refl _ _).alloc (Nat.le_refl _) _⟩

section
variable {Q : Nat → Prop} {w : World} {t : Nat} {v : Value} {q left : Int} {l : Files} {down : Bool}
set_option maxRecDepth 100000 in
set_option maxHeartbeats 4000000 in
theorem rfOut_any (h : RefAt Q w t v q l left down) (hQ : ∀ k, w.heap.size ≤ k → Q k) (hl : l.length ≤ 100000) {k : Nat} (hk : k < l.length) :
    Calls Tryd.prog 53 #[ptr t, .int .i64 (k : Int)] w fun e w' => e = .returned (.tuple #[]) ∧ ∃ v', RefAt Q w' t v' q (l.take k ++ l.drop (k + 1)) left down ∧ ButT t w w' ∧ ∀ g, v'.ownBlock = some g → w.heap.size ≤ g := by
  obtain ⟨L, a, c, rfl, hLl, hrs, hall⟩ := h.rs
  obtain ⟨-, k1, -, -⟩ := h.cells
  obtain ⟨n, hn⟩ : ∃ n, n = l.length := ⟨_, rfl⟩
  have hnL : n = L.length := by rw [hn, hLl]
  have SLT := hrs.to tyF (j := k) (by omega) (k : Int) rfl
  obtain ⟨a2, c2, SLF, hd⟩ := hrs.from tyF (j := k + 1) (by omega) ((k : Int) + 1) rfl
  rw [← hnL] at SLT SLF
  rw [← hn] at k1
  have hw1 : IntKind.i64.wrap ((k : Int) + 1) = (k : Int) + 1 := IntWalk.i64_in _ (by omega)
  have hw2 : wrap64 ((k : Int) + 1) = (k : Int) + 1 := IntWalk.wrap64_in _ ⟨by omega, by omega⟩
  have hkl : k = (L.take k).length := by rw [List.length_take]; omega
  have hdl : n - (k + 1) = (L.drop (k + 1)).length := by rw [List.length_drop]; omega
  have hsum : (L.take k).length + (L.drop (k + 1)).length ≤ 1000000 := by rw [List.length_take, List.length_drop]; omega
  have HH := Lib.hid (And.intro h (And.intro hQ (And.intro (hrs.take k) (And.intro hd (And.intro hall (And.intro hkl (And.intro hdl hsum)))))))
  have hn6 : n ≤ 100000 := by omega
  have L0 : ∀ y : Later w, y.1.cell? ⟨t, 1, none⟩ = some (.slice a n c) := fun y => load_later k1 y
  clear h hQ hrs hd hall hLl hnL hkl hdl hsum hk hn k1
  unfold ptr
  go_enter Tryd.func53, Tryd.ntmps53
  go_upto_region 0 with (fail)
  refine wp_region_mg [(0, 3), (2, 0), (3, 0), (4, 0), (5, 0), (6, 0), (7, 0), (9, 0), (10, 0), (11, 0), (12, 0), (13, 0), (14, 0), (15, 0), (1, 1), (8, 1), (16, 2), (17, 0), (18, 0), (19, 2)] (by kernel_rfl) (by kernel_rfl) ?_
  refine mg_pure7 rfl (fun K hK => ?_); go_simp; (refine hK _ ?_; clear hK K)
  iterate 13 (refine mg_calm rfl (fun K hK => ?_); go_simp; (refine hK _ ?_; clear hK K))
  clear L0 SLT SLF hw1 hw2
  refine mg_buildSlice_g rfl rfl _ _ _ rfl [] #[] 79 0 0 rfl (fun y => tyF.slice0 y) (fun w8 hw8 => ?_)
  have HO := Lib.hid (And.intro ((OwnR.made 4 encF w8 79).rebase hw8) (Grow.trans hw8 (OwnR.made 4 encF w8 79).frame))
  clear hw8
  refine mg_loud rfl rfl (fun wx2 hwwx2 K hK => ?_)
  refine wpList_append_empty_r tyF rfl (.tmp 5) (.tmp 11) rfl w8.heap.size rfl (HO.out.1.later hwwx2) a k c (L.take k) rfl HH.out.2.2.2.2.2.1 (HH.out.2.2.1.below (Grow.trans HO.out.2 hwwx2)) (by have := HH.out.2.2.2.2.2.2.2; omega) (fun v29 wx2b hv29 hwwx2b => ?_)
  have HV := Lib.hid hv29
  have HG2 := Lib.hid (Grow.trans (Grow.trans HO.out.2 hwwx2) hwwx2b)
  refine hK _ _ hwwx2b ?_
  clear hv29 hwwx2 hwwx2b hK K
  refine mg_sync rfl rfl (fun w10 hw10 K hK => ?_)
  refine wpList_append_r tyF rfl (.tmp 12) (.tmp 19) rfl _ (L.take k) rfl (HV.out.later hw10) a2 (n - (k + 1)) c2 (L.drop (k + 1)) rfl HH.out.2.2.2.2.2.2.1 (HH.out.2.2.2.1.below (Grow.trans HG2.out hw10)) (by have := HH.out.2.2.2.2.2.2.2; omega) ?_
  intro v5 w5 hb5 hgr5 hgr0
  have HB5 := Lib.hid hb5
  clear hgr5 hgr0 hb5 hw10
  go_wp2_with fail
  iterate 2 (refine mg_calm rfl (fun K hK => ?_); go_simp; (refine hK _ ?_; clear hK K))
  refine mg_sync rfl rfl (fun w11 hw11 K hK => ?_)
  have ho11 := HB5.out.later hw11
  have hblk11 := (ho11.frame.block t HH.out.1.tlt).trans HH.out.1.blk
  have F1 : w11.frozen? ⟨t, 1, none⟩ = false := free_blk hblk11 1
  have k11 : w11.cell? ⟨t, 1, none⟩ = some (.slice a l.length c) := cell_of_row _ _ _ _ _ _ hblk11
  have hres := HH.out.1.newRow HH.out.2.1 ho11 ((HH.out.2.2.2.2.1.take k).append (HH.out.2.2.2.2.1.drop (k + 1)))
  obtain ⟨v5a, v5c, rfl, -, -⟩ := ho11.rs tyF
  have HRES := Lib.hid hres
  generalize (L.take k ++ L.drop (k + 1)).length = n5 at *
  clear hw11 hblk11 ho11 hres
  go_wp2_with fail
  refine mg_nil fun w12 hw12 => ?_
  have HRES2 := Lib.hid (And.intro (HRES.out.1.below hw12) (HRES.out.2.1.below hw12))
  clear hw12
  refine bodyPost_end (results_none rfl _ _ _) rfl ?_
  exact ⟨rfl, _, HRES2.out.1, HRES2.out.2, HRES.out.2.2⟩

set_option maxRecDepth 100000 in
set_option maxHeartbeats 4000000 in
theorem rfIn_any (h : RefAt Q w t v q l left down) (hQ : ∀ k, w.heap.size ≤ k → Q k) (hl : l.length ≤ 100000) {x : RfA} {p : Bytes × FileP} (hx : RfIs (Pof Q w.heap.size t v) w x p) :
    Calls Tryd.prog 54 #[ptr t, .agg (recA encF x)] w fun e w' => e = .returned (.tuple #[]) ∧ ∃ v', RefAt Q w' t v' q (insF p.1 p.2 l) left down ∧ ButT t w w' ∧ ∀ g, v'.ownBlock = some g → w.heap.size ≤ g := by
  obtain ⟨w1, hw1⟩ : ∃ w1, w1 = w.alloc (.cells (recA encF x) 79) := ⟨_, rfl⟩
  have hb1 : Below w.heap.size w w1 := by rw [hw1]; exact (Below.refl _ _).alloc (Nat.le_refl _) _
  have hbx : w1.heap[w.heap.size]? = some (.cells (recA encF x) 79 (0, 0)) := by rw [hw1]; exact heap_alloc_last _ _ _ rfl
  have f0 := (rf_cells (recBox hbx)).1
  rw [hx.path] at f0
  have h1 := h.below hb1
  have hx1 : RfIs (Pof Q w1.heap.size t v) w1 x p := hx.keep fun k hp => ⟨⟨hp.1, Nat.lt_of_lt_of_le hp.2.1 hb1.size, hp.2.2⟩, hb1.block k hp.2.1⟩
  have hQ1 : ∀ k, w1.heap.size ≤ k → Q k := fun k hk => hQ k (Nat.le_trans hb1.size hk)
  have H1 := Lib.hid (And.intro h1 (And.intro hx1 (And.intro hQ1 (And.intro hb1 hbx))))
  clear h hQ hx h1 hx1 hQ1 hb1 hbx
  obtain ⟨L, a, c, rfl, hLl, hrs, hall⟩ := H1.out.1.rs
  obtain ⟨-, k1, -, -⟩ := H1.out.1.cells
  obtain ⟨n, hn⟩ : ∃ n, n = l.length := ⟨_, rfl⟩
  have HL := Lib.hid (And.intro hn (And.intro hLl (And.intro hrs hall)))
  have hn6 : n ≤ 100000 := by omega
  rw [← hn] at k1
  clear hn hLl hrs hall
  unfold ptr
  go_enter Tryd.func54, Tryd.ntmps54
  go_upto_region 1 with (fail)
  rw [← hw1]
  clear hw1
  have CB := Lib.hid (And.intro k1 f0)
  clear k1 f0
  go_wp2_with fail
  go_loopw [4] (fun s4 wr => ∃ k : Nat, s4 = .int .i64 (k : Int) ∧ k ≤ n ∧ (∀ i (hi : i < l.length), i < k → l[i].1 < p.1) ∧ Below w1.heap.size w1 wr) (fun s4 _ => n - (intOf s4).toNat)
  case atStart => exact ⟨0, rfl, Nat.zero_le _, (fun i _ hk => by omega), Below.refl _ _⟩
  case round =>
    obtain ⟨k, rfl, hk, hlo, hbr⟩ := hrel
    have HB := Lib.hid (And.intro hbr hlo)
    have k2 := (hbr.cell (lt_of_cell CB.out.1)).trans CB.out.1
    have f2 := (hbr.cell (lt_of_cell CB.out.2)).trans CB.out.2
    have M1 : ∀ y : Later wr, y.1.cell? ⟨t, 1, none⟩ = some (.slice a n c) := fun y => load_later k2 y
    have M2 : ∀ y : Later wr, y.1.cell? ⟨w.heap.size, 0, none⟩ = some (.string (strOf p.1)) := fun y => load_later f2 y
    clear hbr hlo k2 f2
    by_cases hkn : k < n
    case pos =>
      have t1 : decide ((k : Int) < (n : Int)) = true := decide_eq_true (by omega)
      have t1' : decide (k < n) = true := decide_eq_true hkn
      have hkl : k < l.length := by rw [← HL.out.1]; exact hkn
      have hkL : k < L.length := by rw [HL.out.2.1]; exact hkl
      obtain ⟨b, q3, IX, R, -⟩ := (HL.out.2.2.1.below HB.out.1).at tyF (k : Int) k rfl hkL
      rw [HL.out.2.1, ← HL.out.1] at IX
      have hf := HL.out.2.2.2.at hkL hkl
      obtain ⟨f3, -, -, -⟩ := rf_cells R
      rw [getElem!_pos L k hkL, hf.path] at f3
      have M3 : ∀ y : Later wr, y.1.cell? ⟨b, q3, none⟩ = some (.string (strOf l[k].1)) := fun y => load_later f3 y
      have EL : Op.bytesLess (strOf l[k].1).toList (strOf p.1).toList = decide (l[k].1 < p.1) := by rw [strOf_list, strOf_list, bytesLess_eq]
      obtain ⟨d, hd⟩ : ∃ d, d = decide (l[k].1 < p.1) := ⟨_, rfl⟩
      rw [← hd] at EL
      have HD := Lib.hid (And.intro hd hkl)
      clear hd f3
      generalize strOf l[k].1 = T1 at *
      generalize strOf p.1 = T2 at *
      clear hf R hkL
      cases d
      case true =>
        go_upto_region 2 with (fail)
        refine wp_region_mg [(0, 0), (1, 0), (2, 0), (3, 0), (4, 0), (5, 0), (6, 0), (7, 0), (8, 0), (9, 0), (10, 0), (11, 0), (12, 0), (13, 0), (14, 0), (15, 0), (16, 0), (17, 0), (18, 0), (19, 0)] (by kernel_rfl) (by kernel_rfl) ?_
        iterate 20 (refine mg_calm rfl (fun K hK => ?_); go_simp; (refine hK _ ?_; clear hK K))
        refine mg_nil fun w7 hw7 => ?_
        have HW7 := Lib.hid (HB.out.1.trans (hw7.mono HB.out.1.size))
        clear hw7 M1 M2 M3 IX
        go_wp2_with fail
        go_roundw
        case rel =>
          refine ⟨k + 1, by go_num, by omega, fun i hi hik => ?_, HW7.out⟩
          by_cases hik2 : i < k
          · exact HB.out.2 i hi hik2
          · obtain rfl : i = k := by omega
            exact of_decide_eq_true HD.out.1.symm
        case measure => simp [intOf]; omega
      case false =>
        go_upto_region 2 with (fail)
        refine wp_region_mg [(0, 0), (1, 0), (2, 0), (3, 0), (4, 0), (5, 0), (6, 0), (7, 0), (8, 0), (9, 0), (10, 0), (11, 0), (12, 0), (13, 0), (14, 0), (15, 0), (16, 0), (17, 0), (18, 0), (19, 0)] (by kernel_rfl) (by kernel_rfl) ?_
        iterate 20 (refine mg_calm rfl (fun K hK => ?_); go_simp; (refine hK _ ?_; clear hK K))
        refine mg_nil fun w7 hw7 => ?_
        have HW7 := Lib.hid (And.intro (HB.out.1.trans (hw7.mono HB.out.1.size)) (show ∀ h : k < l.length, ¬ l[k].1 < p.1 from fun _ => of_decide_eq_false HD.out.1.symm))
        clear hw7 M1 M2 M3 IX
        go_upto_region 4 with (fail)
        have h7 := H1.out.1.below HW7.out.1
        have hrs7 := HL.out.2.2.1.below HW7.out.1
        have SLT := hrs7.to tyF (j := k) (by rw [HL.out.2.1, ← HL.out.1]; exact hk) (k : Int) rfl
        obtain ⟨ad, cd, SLF, hd⟩ := hrs7.from tyF (j := k) (by rw [HL.out.2.1, ← HL.out.1]; exact hk) (k : Int) rfl
        rw [HL.out.2.1, ← HL.out.1] at SLT SLF
        have hx7 : RfIs (Pof Q w7.heap.size t (.slice a l.length c)) w7 x p := H1.out.2.1.keep fun j hp => ⟨⟨hp.1, Nat.lt_of_lt_of_le hp.2.1 HW7.out.1.size, hp.2.2⟩, HW7.out.1.block j hp.2.1⟩
        have hbx7 := (HW7.out.1.block _ (lt_of_block H1.out.2.2.2.2)).trans H1.out.2.2.2.2
        have LB : ∀ W, Below w7.heap.size w7 W → (Instr.loadAt 79 (.pointer (some ⟨w.heap.size, 0, none⟩))).run Tryd.prog W = .ok (.agg (recA encF x)) W := fun W hW => tyF.load x _ 0 W (recBox ((hW.block _ (lt_of_block hbx7)).trans hbx7))
        have LT : ∀ W, Below w7.heap.size w7 W → W.cell? ⟨t, 1, none⟩ = some (.slice a n c) := fun W hW => (hW.cell (lt_of_cell ((HW7.out.1.cell (lt_of_cell CB.out.1)).trans CB.out.1))).trans ((HW7.out.1.cell (lt_of_cell CB.out.1)).trans CB.out.1)
        have H7 := Lib.hid (And.intro h7 (And.intro (hrs7.take k) (And.intro hd (And.intro hx7 (And.intro (show k = (L.take k).length by rw [List.length_take, HL.out.2.1, ← HL.out.1]; omega) (And.intro (show n - k = (L.drop k).length by rw [List.length_drop, HL.out.2.1, ← HL.out.1]) (show (L.take k).length + (L.drop k).length ≤ 100000 by rw [List.length_take, List.length_drop, HL.out.2.1, ← HL.out.1]; omega)))))))
        have M1 := LT _ (OwnR.made 4 encF w7 79).frame
        clear h7 hrs7 hd hx7 hbx7
        go_upto_region 5 with (first | (refine wpList_buildSlice_at rfl _ _ _ rfl [] _ rfl (tyF.slice0 w7) ?_) | (refine wpList_append_empty_r tyF rfl (.tmp 28) (.tmp 34) rfl w7.heap.size rfl (OwnR.made 4 encF w7 79) a k c (L.take k) rfl H7.out.2.2.2.2.1 (H7.out.2.1.below (OwnR.made 4 encF w7 79).frame) (by have := H7.out.2.2.2.2.2.2; omega) ?_; intro v8 w8 hb8 hg8; have HB8 := Lib.hid hb8; have L8 := LB _ hb8.frame; clear hb8 hg8 M1))
        go_upto_region 6 with (first | (refine wpList_load_at rfl _ _ rfl _ _ rfl L8 ?_) | (refine wpList_buildSlice_at rfl _ _ _ rfl [(0, .agg (recA encF x))] _ rfl (tyF.slice1 x w8) ?_) | (refine wpList_append_r tyF rfl (.tmp 36) (.tmp 38) rfl _ (L.take k) rfl (HB8.out.later ((Below.refl _ _).alloc (Nat.le_refl _) (.cells (recA encF x) 79))) (some ⟨w8.heap.size, 0, none⟩) 1 1 [x] rfl rfl (RsAt.one (enc := encF) (L := 4) w8 79 x) (by have := H7.out.2.2.2.2.2.2; rw [List.length_singleton]; omega) ?_; intro v9 w9 hb9 hg9 hn9; have HB9 := Lib.hid hb9; have M9 := LT _ hb9.frame; clear hb9 hg9 hn9))
        go_wp2_with (refine wpList_append_r tyF rfl (.tmp 41) (.tmp 47) rfl _ (L.take k ++ [x]) rfl HB9.out ad (n - k) cd (L.drop k) rfl H7.out.2.2.2.2.2.1 (H7.out.2.2.1.below HB9.out.frame) (by have := H7.out.2.2.2.2.2.2; rw [List.length_append, List.length_singleton]; omega) ?_; intro v10 w10 hb10 hg10 hn10; have F10 := free_blk ((hb10.frame.block t H7.out.1.tlt).trans H7.out.1.blk) 1; have k10 : w10.cell? ⟨t, 1, none⟩ = some (.slice a l.length c) := cell_of_row _ _ _ _ _ _ ((hb10.frame.block t H7.out.1.tlt).trans H7.out.1.blk); have hres := H7.out.1.newRow (fun j hj => H1.out.2.2.1 j (Nat.le_trans HW7.out.1.size hj)) hb10 (((HL.out.2.2.2.imp fun _ _ hc => hc.keep fun j hp => ⟨⟨hp.1, Nat.lt_of_lt_of_le hp.2.1 HW7.out.1.size, hp.2.2⟩, HW7.out.1.block j hp.2.1⟩).take k).append (.one H7.out.2.2.2.1) |>.append ((HL.out.2.2.2.imp fun _ _ hc => hc.keep fun j hp => ⟨⟨hp.1, Nat.lt_of_lt_of_le hp.2.1 HW7.out.1.size, hp.2.2⟩, HW7.out.1.block j hp.2.1⟩).drop k)); obtain ⟨v10a, v10c, rfl, -, -⟩ := hb10.rs tyF; have HRES := Lib.hid hres; clear hb10 hg10 hn10 hres; generalize (L.take k ++ [x] ++ L.drop k).length = n10 at *)
        refine bodyPost_end (results_none rfl _ _ _) rfl ?_
        have hlk : k ≤ l.length := by rw [← HL.out.1]; exact hk
        have hins : insF p.1 p.2 l = l.take k ++ [p] ++ l.drop k := by rw [ins_idx hlk (fun i hi hik => HB.out.2 i hi hik) HW7.out.2]; simp
        refine ⟨rfl, _, ?_, (ButT.of (H1.out.2.2.2.1.trans (HW7.out.1.mono H1.out.2.2.2.1.size))).trans HRES.out.2.1, fun g hg => Nat.le_trans (Nat.le_trans H1.out.2.2.2.1.size HW7.out.1.size) (HRES.out.2.2 g hg)⟩
        rw [hins]
        exact HRES.out.1
    case neg =>
      have t1 : decide ((k : Int) < (n : Int)) = false := decide_eq_false (by omega)
      have t1' : decide (k < n) = false := decide_eq_false hkn
      go_upto_region 2 with (fail)
      refine wp_region_mg [(0, 0), (1, 0), (2, 0), (3, 0), (4, 0), (5, 0), (6, 0), (7, 0), (8, 0), (9, 0), (10, 0), (11, 0), (12, 0), (13, 0), (14, 0), (15, 0), (16, 0), (17, 0), (18, 0), (19, 0)] (by kernel_rfl) (by kernel_rfl) ?_
      iterate 20 (refine mg_calm rfl (fun K hK => ?_); go_simp; (refine hK _ ?_; clear hK K))
      refine mg_nil fun w7 hw7 => ?_
      have HW7 := Lib.hid (And.intro (HB.out.1.trans (hw7.mono HB.out.1.size)) (show ∀ h : k < l.length, ¬ l[k].1 < p.1 from fun h => absurd h (by rw [← HL.out.1]; exact hkn)))
      clear hw7 M1 M2
      go_upto_region 4 with (fail)
      have h7 := H1.out.1.below HW7.out.1
      have hrs7 := HL.out.2.2.1.below HW7.out.1
      have SLT := hrs7.to tyF (j := k) (by rw [HL.out.2.1, ← HL.out.1]; exact hk) (k : Int) rfl
      obtain ⟨ad, cd, SLF, hd⟩ := hrs7.from tyF (j := k) (by rw [HL.out.2.1, ← HL.out.1]; exact hk) (k : Int) rfl
      rw [HL.out.2.1, ← HL.out.1] at SLT SLF
      have hx7 : RfIs (Pof Q w7.heap.size t (.slice a l.length c)) w7 x p := H1.out.2.1.keep fun j hp => ⟨⟨hp.1, Nat.lt_of_lt_of_le hp.2.1 HW7.out.1.size, hp.2.2⟩, HW7.out.1.block j hp.2.1⟩
      have hbx7 := (HW7.out.1.block _ (lt_of_block H1.out.2.2.2.2)).trans H1.out.2.2.2.2
      have LB : ∀ W, Below w7.heap.size w7 W → (Instr.loadAt 79 (.pointer (some ⟨w.heap.size, 0, none⟩))).run Tryd.prog W = .ok (.agg (recA encF x)) W := fun W hW => tyF.load x _ 0 W (recBox ((hW.block _ (lt_of_block hbx7)).trans hbx7))
      have LT : ∀ W, Below w7.heap.size w7 W → W.cell? ⟨t, 1, none⟩ = some (.slice a n c) := fun W hW => (hW.cell (lt_of_cell ((HW7.out.1.cell (lt_of_cell CB.out.1)).trans CB.out.1))).trans ((HW7.out.1.cell (lt_of_cell CB.out.1)).trans CB.out.1)
      have H7 := Lib.hid (And.intro h7 (And.intro (hrs7.take k) (And.intro hd (And.intro hx7 (And.intro (show k = (L.take k).length by rw [List.length_take, HL.out.2.1, ← HL.out.1]; omega) (And.intro (show n - k = (L.drop k).length by rw [List.length_drop, HL.out.2.1, ← HL.out.1]) (show (L.take k).length + (L.drop k).length ≤ 100000 by rw [List.length_take, List.length_drop, HL.out.2.1, ← HL.out.1]; omega)))))))
      have M1 := LT _ (OwnR.made 4 encF w7 79).frame
      clear h7 hrs7 hd hx7 hbx7
      go_upto_region 5 with (first | (refine wpList_buildSlice_at rfl _ _ _ rfl [] _ rfl (tyF.slice0 w7) ?_) | (refine wpList_append_empty_r tyF rfl (.tmp 28) (.tmp 34) rfl w7.heap.size rfl (OwnR.made 4 encF w7 79) a k c (L.take k) rfl H7.out.2.2.2.2.1 (H7.out.2.1.below (OwnR.made 4 encF w7 79).frame) (by have := H7.out.2.2.2.2.2.2; omega) ?_; intro v8 w8 hb8 hg8; have HB8 := Lib.hid hb8; have L8 := LB _ hb8.frame; clear hb8 hg8 M1))
      go_upto_region 6 with (first | (refine wpList_load_at rfl _ _ rfl _ _ rfl L8 ?_) | (refine wpList_buildSlice_at rfl _ _ _ rfl [(0, .agg (recA encF x))] _ rfl (tyF.slice1 x w8) ?_) | (refine wpList_append_r tyF rfl (.tmp 36) (.tmp 38) rfl _ (L.take k) rfl (HB8.out.later ((Below.refl _ _).alloc (Nat.le_refl _) (.cells (recA encF x) 79))) (some ⟨w8.heap.size, 0, none⟩) 1 1 [x] rfl rfl (RsAt.one (enc := encF) (L := 4) w8 79 x) (by have := H7.out.2.2.2.2.2.2; rw [List.length_singleton]; omega) ?_; intro v9 w9 hb9 hg9 hn9; have HB9 := Lib.hid hb9; have M9 := LT _ hb9.frame; clear hb9 hg9 hn9))
      go_wp2_with (refine wpList_append_r tyF rfl (.tmp 41) (.tmp 47) rfl _ (L.take k ++ [x]) rfl HB9.out ad (n - k) cd (L.drop k) rfl H7.out.2.2.2.2.2.1 (H7.out.2.2.1.below HB9.out.frame) (by have := H7.out.2.2.2.2.2.2; rw [List.length_append, List.length_singleton]; omega) ?_; intro v10 w10 hb10 hg10 hn10; have F10 := free_blk ((hb10.frame.block t H7.out.1.tlt).trans H7.out.1.blk) 1; have k10 : w10.cell? ⟨t, 1, none⟩ = some (.slice a l.length c) := cell_of_row _ _ _ _ _ _ ((hb10.frame.block t H7.out.1.tlt).trans H7.out.1.blk); have hres := H7.out.1.newRow (fun j hj => H1.out.2.2.1 j (Nat.le_trans HW7.out.1.size hj)) hb10 (((HL.out.2.2.2.imp fun _ _ hc => hc.keep fun j hp => ⟨⟨hp.1, Nat.lt_of_lt_of_le hp.2.1 HW7.out.1.size, hp.2.2⟩, HW7.out.1.block j hp.2.1⟩).take k).append (.one H7.out.2.2.2.1) |>.append ((HL.out.2.2.2.imp fun _ _ hc => hc.keep fun j hp => ⟨⟨hp.1, Nat.lt_of_lt_of_le hp.2.1 HW7.out.1.size, hp.2.2⟩, HW7.out.1.block j hp.2.1⟩).drop k)); obtain ⟨v10a, v10c, rfl, -, -⟩ := hb10.rs tyF; have HRES := Lib.hid hres; clear hb10 hg10 hn10 hres; generalize (L.take k ++ [x] ++ L.drop k).length = n10 at *)
      refine bodyPost_end (results_none rfl _ _ _) rfl ?_
      have hlk : k ≤ l.length := by rw [← HL.out.1]; exact hk
      have hins : insF p.1 p.2 l = l.take k ++ [p] ++ l.drop k := by rw [ins_idx hlk (fun i hi hik => HB.out.2 i hi hik) HW7.out.2]; simp
      refine ⟨rfl, _, ?_, (ButT.of (H1.out.2.2.2.1.trans (HW7.out.1.mono H1.out.2.2.2.1.size))).trans HRES.out.2.1, fun g hg => Nat.le_trans (Nat.le_trans H1.out.2.2.2.1.size HW7.out.1.size) (HRES.out.2.2 g hg)⟩
      rw [hins]
      exact HRES.out.1
end
end Go.Proofs.YthjjdcfkdmhmlaaDoor
namespace Go.Proofs.YthjjdcfkdmhmlaaDoor
open Go.RowKit Go.Mix Go.WideMaps

set_option maxRecDepth 100000 in
set_option maxHeartbeats 4000000 in
theorem rfRight_any (p : Bytes) (hp : p.length ≤ 1000000) (w : World) :
    Calls Tryd.prog 51 #[.string (strOf p)] w fun e w' => e = .returned (.bool (rightF p)) ∧ Below w.heap.size w w' := by
  have hsr := scan_right p
  obtain ⟨R, hR⟩ : ∃ R, R = rightF p := ⟨_, rfl⟩
  rw [← hR] at hsr ⊢
  clear hR
  obtain ⟨n, hn⟩ : ∃ n, n = p.length := ⟨_, rfl⟩
  have hn6 : n ≤ 1000000 := by omega
  have hsz : (strOf p).size = n := by rw [strOf_size, hn]
  have HH := Lib.hid (And.intro hsr hn)
  clear hsr hp
  have hF0 := Below.refl w.heap.size w
  go_enter Tryd.func51, Tryd.ntmps51
  by_cases c0 : n = 0
  · have t0 : ((n : Int) == 0) = true := by rw [beq_iff_eq]; omega
    have t0' : (n == 0) = true := by rw [beq_iff_eq]; omega
    have hr : R = false := by
      rw [← HH.out.1, List.eq_nil_of_length_eq_zero (by omega : p.length = 0)]
      rfl
    subst hr
    clear hn c0
    generalize strOf p = P at *
    go_wp2_with fail
    go_ret
    exact ⟨rfl, hF0⟩
  have t0 : ((n : Int) == 0) = false := by rw [beq_eq_false_iff_ne]; omega
  have t0' : (n == 0) = false := by rw [beq_eq_false_iff_ne]; omega
  by_cases c1 : 255 < n
  · have t1 : decide ((255 : Int) < (n : Int)) = true := decide_eq_true (by omega)
    have t1' : decide (255 < n) = true := decide_eq_true c1
    have hr : R = false := by
      rw [← HH.out.1, decide_eq_false (by omega : ¬ p.length ≤ 255)]
      rfl
    subst hr
    clear hn c0
    generalize strOf p = P at *
    go_wp2_with fail
    go_ret
    exact ⟨rfl, hF0⟩
  have t1 : decide ((255 : Int) < (n : Int)) = false := decide_eq_false (by omega)
  have t1' : decide (255 < n) = false := decide_eq_false c1
  have hs0 : scanF [] p = R := by rw [← HH.out.1, decide_eq_true (by omega : p.length ≤ 255), Bool.true_and]
  have HS := Lib.hid (And.intro hs0 hn)
  clear hs0 hn HH
  go_upto_region 3 with (fail)
  go_wp2_with fail
  clear t0 t0' t1 t1'
  go_loopw [3, 4] (fun s3 s4 wr => ∃ (i : Nat) (name : Bytes), s3 = .string (strOf name) ∧ s4 = .int .i64 (i : Int) ∧ ((i ≤ n ∧ scanF name (p.drop i) = R) ∨ (i = n + 1 ∧ R = true)) ∧ name.length ≤ i ∧ Below w.heap.size w wr) (fun _ s4 _ => n + 1 - (intOf s4).toNat)
  case atStart => exact ⟨0, [], rfl, rfl, .inl ⟨Nat.zero_le _, HS.out.1⟩, Nat.le_refl _, hF0⟩
  case round =>
    obtain ⟨i, name, rfl, rfl, hst, hnl, hb⟩ := hrel
    have HB := Lib.hid (And.intro hb hnl)
    clear hb hnl hF0
    rcases hst with ⟨hi, hsc⟩ | ⟨hi, hr⟩
    · have t1 : decide ((i : Int) ≤ (n : Int)) = true := decide_eq_true (by omega)
      have t1' : decide (i ≤ n) = true := decide_eq_true hi
      have E0 := empty_text name
      have E1 := eq_text name [46]
      have E2 := eq_text name [46, 46]
      have hB : badF name = (decide (name = []) || decide (name = [46]) || decide (name = [46, 46])) := rfl
      by_cases hin : i = n
      · have t2 : ((i : Int) == (n : Int)) = true := by rw [beq_iff_eq]; omega
        have t2' : (i == n) = true := by rw [beq_iff_eq]; exact hin
        have hsc2 : (!badF name) = R := by
          rw [hin, HS.out.2, List.drop_length] at hsc
          exact hsc
        have HSC := Lib.hid hsc2
        clear hsc hsc2
        generalize strOf p = P at *
        generalize badF name = B at *
        have HI := Lib.hid hin
        clear hin
        generalize strOf name = S at *
        generalize decide (name = []) = b0 at *
        generalize decide (name = [46]) = b1 at *
        generalize decide (name = [46, 46]) = b2 at *
        cases b0
        · cases b1
          · cases b2
            · have hBB : B = false := hB
              clear hB
              go_wp2_with fail
              go_roundw
              case rel => exact ⟨i + 1, [], rfl, by go_num, .inr ⟨by rw [HI.out], by rw [← HSC.out, hBB]; rfl⟩, Nat.zero_le _, HB.out.1⟩
              case measure => simp [intOf]; omega
            · have hBB : B = true := hB
              clear hB
              go_wp2_with fail
              go_ret
              exact ⟨by rw [← HSC.out, hBB]; rfl, HB.out.1⟩
          · have hBB : B = true := hB
            clear hB
            go_wp2_with fail
            go_ret
            exact ⟨by rw [← HSC.out, hBB]; rfl, HB.out.1⟩
        · have hBB : B = true := hB
          clear hB
          go_wp2_with fail
          go_ret
          exact ⟨by rw [← HSC.out, hBB]; rfl, HB.out.1⟩
      · have t2 : ((i : Int) == (n : Int)) = false := by rw [beq_eq_false_iff_ne]; omega
        have t2' : (i == n) = false := by rw [beq_eq_false_iff_ne]; exact hin
        have hil : i < p.length := by rw [← HS.out.2]; omega
        obtain ⟨ch, hch⟩ : ∃ ch, ch = p[i] := ⟨_, rfl⟩
        have I1 := fun W => str_at Tryd.underlying9 p (i := i) (i : Int) rfl (c := ch) (by rw [List.getElem?_eq_getElem hil, hch]) W
        rw [List.drop_eq_getElem_cons hil, ← hch] at hsc
        unfold scanF at hsc
        have hin2 : i < n := by omega
        clear hch hil
        generalize strOf p = P at *
        by_cases c47 : ch = 47
        · rw [if_pos c47] at hsc
          have e3 : ((ch.toNat : Int) == 47) = true := by rw [c47]; rfl
          have HSC := Lib.hid hsc
          clear hsc c47
          generalize badF name = B at *
          generalize strOf name = S at *
          generalize decide (name = []) = b0 at *
          generalize decide (name = [46]) = b1 at *
          generalize decide (name = [46, 46]) = b2 at *
          cases b0
          · cases b1
            · cases b2
              · have hBB : B = false := hB
                clear hB
                go_wp2_with fail
                go_roundw
                case rel => exact ⟨i + 1, [], rfl, by go_num, .inl ⟨by omega, by have := HSC.out; rw [hBB] at this; simpa using this⟩, Nat.zero_le _, HB.out.1⟩
                case measure => simp [intOf]; omega
              · have hBB : B = true := hB
                clear hB
                go_wp2_with fail
                go_ret
                exact ⟨by have := HSC.out; rw [hBB] at this; rw [← this]; rfl, HB.out.1⟩
            · have hBB : B = true := hB
              clear hB
              go_wp2_with fail
              go_ret
              exact ⟨by have := HSC.out; rw [hBB] at this; rw [← this]; rfl, HB.out.1⟩
          · have hBB : B = true := hB
            clear hB
            go_wp2_with fail
            go_ret
            exact ⟨by have := HSC.out; rw [hBB] at this; rw [← this]; rfl, HB.out.1⟩
        · rw [if_neg c47] at hsc
          clear E0 E1 E2 hB
          have hch8 := ch.toNat_lt
          have e3 : ((ch.toNat : Int) == 47) = false := by
            rw [beq_eq_false_iff_ne]
            intro h
            refine c47 (UInt8.toNat_inj.1 ?_)
            have : (47 : UInt8).toNat = 47 := rfl
            omega
          by_cases c00 : ch = 0
          · rw [decide_eq_true c00] at hsc
            have e4 : ((ch.toNat : Int) == 0) = true := by rw [c00]; rfl
            have HSC := Lib.hid hsc
            clear hsc c00 c47
            generalize strOf name = S at *
            go_wp2_with fail
            go_ret
            exact ⟨by rw [← HSC.out]; rfl, HB.out.1⟩
          · rw [decide_eq_false c00] at hsc
            have e4 : ((ch.toNat : Int) == 0) = false := by
              rw [beq_eq_false_iff_ne]
              intro h
              refine c00 (UInt8.toNat_inj.1 ?_)
              have : (0 : UInt8).toNat = 0 := rfl
              omega
            have HSC := Lib.hid (show scanF (name ++ [ch]) (p.drop (i + 1)) = R by simpa using hsc)
            clear hsc c00 c47
            have ST := (const_bytes wr [ch] (by simp) (0, 0)).str
            change (convert 28 9 (.slice (some ⟨wr.heap.size, 0, none⟩) 1 1)).run Tryd.prog (wr.alloc (.cells #[.int .u8 (ch.toNat : Int)] 5)) = .ok (.string (strOf [ch])) _ at ST
            have A1 := str_add name [ch] (by have := HB.out.2; omega) (by simp)
            have HN := Lib.hid (show (name ++ [ch]).length ≤ i + 1 by have := HB.out.2; simp; exact this)
            obtain ⟨nm2, hnm2⟩ : ∃ x, x = name ++ [ch] := ⟨_, rfl⟩
            rw [← hnm2] at A1 HSC HN
            clear hnm2 hch8
            generalize strOf [ch] = S1 at *
            generalize strOf name = S at *
            generalize (ch.toNat : Int) = ci at *
            go_wp2_with fail
            go_roundw
            case rel => exact ⟨i + 1, nm2, by first | rfl | trivial, by go_num, .inl ⟨by omega, HSC.out⟩, HN.out, HB.out.1.trans (((Below.refl _ _).alloc (Nat.le_refl _) _).mono HB.out.1.size)⟩
            case measure => simp [intOf]; omega
    · have t1 : decide ((i : Int) ≤ (n : Int)) = false := decide_eq_false (by omega)
      have t1' : decide (i ≤ n) = false := decide_eq_false (by omega)
      subst hr
      generalize strOf p = P at *
      generalize strOf name = S at *
      go_wp2_with fail
      go_ret
      exact ⟨rfl, HB.out.1⟩
end Go.Proofs.YthjjdcfkdmhmlaaDoor
namespace Go.Proofs.YthjjdcfkdmhmlaaDoor
open Go.RowKit Go.Mix

theorem setCells_row (g : Nat) (e : TypeId) : ∀ (vs : List Value) (o : Nat) (w : World) (C : Array Value), w.heap[g]? = some (.cells C e (0, 0)) → o + vs.length ≤ C.size →
    ∃ C', (w.setCells g o vs).heap[g]? = some (.cells C' e (0, 0)) ∧ C'.toList = C.toList.take o ++ vs ++ C.toList.drop (o + vs.length)
  | [], o, w, C, h, _ => ⟨C, h, by simp⟩
  | v :: vs, o, w, C, h, hl => by
    simp only [List.length_cons] at hl
    obtain ⟨C', h1, h2⟩ := setCells_row g e vs (o + 1) (w.setCell ⟨g, o, none⟩ v) (C.setIfInBounds o v) (heap_setCell_same w g o C e v h) (by rw [Array.size_setIfInBounds]; omega)
    refine ⟨C', h1, ?_⟩
    rw [h2, Array.toList_setIfInBounds]
    have hlt : o < C.toList.length := by rw [Array.length_toList]; omega
    rw [List.take_add_one, List.take_set_of_le (Nat.le_refl o), List.drop_set_of_lt (by omega), List.length_cons, show o + 1 + vs.length = o + (vs.length + 1) by omega]
    have hlt2 : o < C.size := by rw [Array.length_toList] at hlt; exact hlt
    simp [hlt2]
theorem setCells_below {B : Nat} (g : Nat) (hg : B ≤ g) : ∀ (vs : List Value) (o : Nat) (a w : World), Below B a w → Below B a (w.setCells g o vs)
  | [], _, _, _, h => h
  | v :: vs, o, a, _, h => setCells_below g hg vs (o + 1) a _ (h.setCell (p := ⟨g, o, none⟩) hg v)

section
variable {α : Type} [Inhabited α] {enc : α → List Value} {L : Nat} {t e : TypeId}
theorem RecTy.flat_set (T : RecTy α enc L t e) (x : α) : ∀ (l : List α) (i : Nat), i < l.length → flatR enc (l.set i x) = (flatR enc l).take (i * L) ++ enc x ++ (flatR enc l).drop (i * L + L)
  | [], i, h => by simp at h
  | y :: l, 0, _ => by
    rw [List.set_cons_zero]
    have e1 : ∀ z, flatR enc (z :: l) = enc z ++ flatR enc l := fun z => by simp [flatR]
    have h2 := T.len y
    rw [e1, e1, Nat.zero_mul, List.take_zero, List.nil_append, Nat.zero_add, List.drop_append_of_le_length (by omega), List.drop_of_length_le (by omega), List.nil_append]
  | y :: l, i + 1, h => by
    rw [List.set_cons_succ]
    have e1 : ∀ (z : α) (l : List α), flatR enc (z :: l) = enc z ++ flatR enc l := fun z l => by simp [flatR]
    have h2 := T.len y
    rw [e1, e1, RecTy.flat_set T x l i (by simp at h; omega), Nat.succ_mul]
    rw [List.take_append, List.take_of_length_le (l := enc y) (by omega), List.drop_append, List.drop_of_length_le (l := enc y) (by omega)]
    rw [h2, show i * L + L - L = i * L by omega, show i * L + L + L - L = i * L + L by omega, List.nil_append]
    simp only [List.append_assoc]

/-- 's[i] = x' in a row of the call's own. -/
theorem OwnR.store (T : RecTy α enc L t e) {w0 w : World} {g n c : Nat} {l : List α} (h : OwnR enc L e w0 w (.slice (some ⟨g, 0, none⟩) n c) l) (x : α) (i : Nat) (hi : i < l.length) :
    (Instr.storeAt e (.pointer (some ⟨g, i * L, none⟩)) (.agg (recA enc x))).run Tryd.prog w = .ok () (w.setCells g (i * L) (enc x)) ∧ OwnR enc L e w0 (w.setCells g (i * L) (enc x)) (.slice (some ⟨g, 0, none⟩) n c) (l.set i x) := by
  rcases h.own.2 with ⟨hv, _⟩ | ⟨g', cap, cur, hv, hb, hh, hn, hm, hcs, ht⟩
  · cases hv
  injection hv with h1 h2 h3
  injection h1 with h1
  injection h1 with h1
  subst h1 h2 h3
  have hfl := T.flat_len l
  have hmul : i * L + L ≤ l.length * L := by have := Nat.mul_le_mul_right L (show i + 1 ≤ l.length from hi); rw [Nat.succ_mul] at this; exact this
  have hmul2 := Nat.mul_le_mul_right L hn
  have hsz : (recA enc x).size = L := by simp [recA, T.len]
  have hl := T.len x
  obtain ⟨C', hC, hC2⟩ := setCells_row g e (enc x) (i * L) w cur hh (by rw [hl, hcs]; omega)
  refine ⟨?_, ⟨by rw [T.flat_len, List.length_set], .inr ⟨g, c, C', ?_, hb, hC, ?_, hm, ?_, ?_⟩⟩, setCells_below g hb (enc x) _ _ _ h.frame⟩
  · have := run_storeAt_mid (P := Tryd.prog) w g (i * L) e (recA enc x) (fun j hj => by
      rw [hsz] at hj
      refine ⟨?_, ?_⟩
      · rw [cell_of_row _ _ _ _ _ _ hh]
        simp; omega
      · unfold World.frozen?
        rw [hh]
        simp) (by rw [hsz]; exact T.ie) (all_oneCell_toArray (T.one x))
    exact this
  · rw [List.length_set]
  · rw [List.length_set]; exact hn
  · rw [← Array.length_toList, hC2]
    simp
    omega
  · rw [List.length_set, hC2, T.flat_set x l i hi, ← ht]
    rw [List.take_take, Nat.min_eq_left (by omega), hl]
    have e1 : (cur.toList.take (i * L)).length = i * L := by rw [List.length_take, Array.length_toList]; omega
    rw [List.take_append, List.take_of_length_le (by rw [List.length_append, e1]; omega), List.length_append, e1, hl, ← List.drop_take]

/-- Its values' places, and their loads. -/
theorem OwnR.at (T : RecTy α enc L t e) {w0 w : World} {g n c : Nat} {l : List α} (h : OwnR enc L e w0 w (.slice (some ⟨g, 0, none⟩) n c) l) (k : Nat) (hk : k < l.length) :
    n = l.length ∧ (∀ W : World, (Instr.indexAt t (.slice (some ⟨g, 0, none⟩) n c) (.int .i64 (k : Int))).run Tryd.prog W = .ok (.pointer (some ⟨g, k * L, none⟩)) W) ∧
      ∀ y : Later w, (Instr.loadAt e (.pointer (some ⟨g, k * L, none⟩))).run Tryd.prog y.1 = .ok (.agg (recA enc l[k]!)) y.1 := by
  obtain ⟨a, c', hv, hrs, -⟩ := h.rs T
  injection hv with h1 h2 h3
  subst h1 h2 h3
  rcases hrs.cells with rfl | ⟨b, o, he, hc⟩
  · simp at hk
  · injection he with he
    injection he with h1 h2 h3
    subst h1 h2
    have hr := hc k hk
    rw [Nat.zero_add] at hr
    exact ⟨rfl, fun W => by have := T.index g 0 l.length c k hk W; rw [Nat.zero_add] at this; exact this, fun y => T.load _ g _ y.1 (rangeR_below hr y.2)⟩
/-- The same, in a region that draws its order. -/
theorem mg_storeR (T : RecTy α enc L t e) {ops : Array Oper} {Q : Act → World → Prop} {i : Nat} {r : List (Nat × Nat)} {o : Oper} {a : Act} {w : World} (ho : ops[i]? = some o) (hw : Region.wanted o (yielded ops a.tmps) = true)
    (hgd : o.guard = none) (hd : o.dst = none) (x y : Operand) (hop : o.op = .store e x y) {w0 : World} {g n c : Nat} {l : List α} (h : OwnR enc L e w0 w (.slice (some ⟨g, 0, none⟩) n c) l) (p : α) (k : Nat) (hk : k < l.length)
    (hx : a.eval x = .pointer (some ⟨g, k * L, none⟩)) (hy : a.eval y = .agg (recA enc p)) (hK : ∀ w', OwnR enc L e w0 w' (.slice (some ⟨g, 0, none⟩) n c) (l.set k p) → MG Tryd.prog ops Q r a w') :
    MG Tryd.prog ops Q ((i, 2) :: r) a w :=
  mg_sync ho hw fun w' hw' K hK2 => wpList_plain hgd fun K' hK' => by
    have s := OwnR.store T (h.later hw') p k hk
    unfold Oper.wp execOp
    simp only [hop, hx, hy, Sem.run_bind, Sem.run_pure, Result.andThen_ok, s.1]
    refine hK' _ _ ?_
    rw [hd]
    exact hK2 _ _ (hK _ s.2)
end
end Go.Proofs.YthjjdcfkdmhmlaaDoor
namespace Go.Proofs.YthjjdcfkdmhmlaaDoor
open Go.RowKit Go.Mix Go.WideMaps

/-- A file in a box of one's own. -/
structure BxF (w0 w : World) (G : Nat) (x : RfA) : Prop where
  blk : w.heap[G]? = some (.cells (recA encF x) 79 (0, 0))
  frame : Below w0.heap.size w0 w
  far : w0.heap.size ≤ G
section
variable {w0 w w' : World} {G : Nat} {x x' : RfA}
theorem BxF.below (h : BxF w0 w G x) (g : Below w.heap.size w w') : BxF w0 w' G x := ⟨(g.block G (lt_of_block h.blk)).trans h.blk, h.frame.trans (g.mono h.frame.size), h.far⟩
theorem BxF.cells (h : BxF w0 w G x) :
    w.cell? ⟨G, 0, none⟩ = some (.string (strOf x.path)) ∧ w.cell? ⟨G, 1, none⟩ = some (rowV x.now) ∧ w.cell? ⟨G, 2, none⟩ = some (rowV x.kept) ∧ w.cell? ⟨G, 3, none⟩ = some (rowV x.since) := by
  have := rf_cells (x := x) (w := w) (b := G) (q := 0) (recBox h.blk)
  simpa using this
theorem BxF.free (h : BxF w0 w G x) (k : Nat) : w.frozen? ⟨G, k, none⟩ = false := free_blk h.blk k
theorem BxF.set (h : BxF w0 w G x) (k : Nat) (v : Value) (hC : (recA encF x).setIfInBounds k v = recA encF x') : BxF w0 (w.setCell ⟨G, k, none⟩ v) G x' := by
  refine ⟨?_, ⟨h.frame.os, h.frame.tape, h.frame.output, by have := h.frame.size; simpa [World.setCell] using this, fun j hj => (Below.heap_setCell _ _ _ _ (by show j ≠ G; have := h.far; omega)).trans (h.frame.block j hj)⟩, h.far⟩
  have := Go.heap_setCell_same w G k _ _ v h.blk
  rw [this, hC]
theorem BxF.load (h : BxF w0 w G x) : (Instr.loadAt 79 (.pointer (some ⟨G, 0, none⟩))).run Tryd.prog w = .ok (.agg (recA encF x)) w := tyF.load x G 0 w (recBox h.blk)
end
theorem wpList_store_bxf {ops : Array Oper} {rest : List Oper} {o : Oper} {a : Go.Act} {w : World} {Q : Exit → Go.Act → World → Prop} (hgd : o.guard = none) (x y : Operand) (ho : o.op = .store 79 x y) (w0 : World) (hf : Below w0.heap.size w0 w)
    (g : Nat) (c : RfA) (hx : a.eval x = .pointer (some ⟨g, 0, none⟩)) (hy : a.eval y = .agg (recA encF c)) (hg0 : w0.heap.size ≤ g)
    (old : Array Value) (hg : w.heap[g]? = some (.cells old 79 (0, 0))) (hold : old.size = 4)
    (h : ∀ w1, BxF w0 w1 g c → wpList Tryd.prog ops Q rest (a.put o.dst undef) w1) : wpList Tryd.prog ops Q (o :: rest) a w :=
  wpList_store_row hgd 79 x y ho g (recA encF c) hx hy 79 old hg (by rw [show (recA encF c).size = 4 from rfl]; exact tyF.ie) hold (all_oneCell_toArray (tyF.one c))
    (h _ ⟨setRow_heap _ _ _ _ _ _ hg, below_setRow hf hg0 _, hg0⟩)

theorem setCells_other (g : Nat) : ∀ (vs : List Value) (o : Nat) (w : World) (k : Nat), k ≠ g → (w.setCells g o vs).heap[k]? = w.heap[k]?
  | [], _, _, _, _ => rfl
  | _ :: vs, o, _, k, hk => (setCells_other g vs (o + 1) _ k hk).trans (Below.heap_setCell _ _ _ _ hk)
theorem setCells_size (g : Nat) : ∀ (vs : List Value) (o : Nat) (w : World), (w.setCells g o vs).heap.size = w.heap.size
  | [], _, _ => rfl
  | _ :: vs, o, _ => (setCells_size g vs (o + 1) _).trans (by simp [World.setCell])
theorem setCells_rest (g : Nat) : ∀ (vs : List Value) (o : Nat) (w : World), (w.setCells g o vs).os = w.os ∧ (w.setCells g o vs).tape = w.tape ∧ (w.setCells g o vs).output = w.output
  | [], _, _ => ⟨rfl, rfl, rfl⟩
  | u :: vs, o, W => setCells_rest g vs (o + 1) (W.setCell ⟨g, o, none⟩ u)
/-- A world without memory. -/
def bare (w : World) : World := { w with heap := #[] }
theorem bare_below (w : World) : Below (bare w).heap.size (bare w) w := ⟨rfl, rfl, rfl, Nat.zero_le _, fun _ hk => absurd hk (Nat.not_lt_zero _)⟩

theorem All2.set {α β : Type} {R : α → β → Prop} {l : List α} {m : List β} (h : All2 R l m) : ∀ (k : Nat) {a : α} {b : β}, R a b → All2 R (l.set k a) (m.set k b) := by
  induction h with
  | nil => intro _ a b _; simp; exact .nil
  | cons h t ih =>
    intro k a b hab
    cases k with
    | zero => exact .cons hab t
    | succ k => exact .cons h (ih k hab)

section
variable {Q : Nat → Prop} {w : World} {t : Nat} {q left : Int} {l : Files} {down : Bool} {g n c : Nat}
/-- A file of the row is set. -/
theorem RefAt.setRow (h : RefAt Q w t (.slice (some ⟨g, 0, none⟩) n c) q l left down) {k : Nat} (hk : k < l.length) {x : RfA} {p : Bytes × FileP} (hx : RfIs (Pof Q w.heap.size t (.slice (some ⟨g, 0, none⟩) n c)) w x p) :
    (Instr.storeAt 79 (.pointer (some ⟨g, k * 4, none⟩)) (.agg (recA encF x))).run Tryd.prog w = .ok () (w.setCells g (k * 4) (encF x)) ∧
    RefAt Q (w.setCells g (k * 4) (encF x)) t (.slice (some ⟨g, 0, none⟩) n c) q (l.set k p) left down ∧ FrameS (fun j => j < w.heap.size ∧ ¬ Q j) w (w.setCells g (k * 4) (encF x)) := by
  obtain ⟨L, h1, h2⟩ := h.row
  have hg := h.own g rfl
  have ho : OwnR encF 4 79 (bare w) w (.slice (some ⟨g, 0, none⟩) n c) L := ⟨h1, bare_below w⟩
  have hkL : k < L.length := by rw [h2.length]; exact hk
  obtain ⟨s1, s2⟩ := OwnR.store tyF ho x k hkL
  obtain ⟨r1, r2, r3⟩ := setCells_rest g (encF x) (k * 4) w
  have hoth := setCells_other g (encF x) (k * 4) w
  have hsz := setCells_size g (encF x) (k * 4) w
  refine ⟨s1, ⟨h.tq, (hoth t (fun e => hg.2 e.symm)).trans h.blk, ⟨L.set k x, s2.own, ?_⟩, h.own⟩, r1, r2, r3, by rw [hsz]; exact Nat.le_refl _, fun j hj => ⟨hj.1, hoth j fun e => hj.2 (e ▸ hg.1)⟩⟩
  refine (h2.set k hx).imp fun _ _ hc => hc.keep fun j hp => ⟨⟨hp.1, by rw [hsz]; exact hp.2.1, hp.2.2⟩, hoth j fun e => hp.2.2.2 (by rw [e]; rfl)⟩
/-- A field of a file of the row is set. -/
theorem RefAt.setField (h : RefAt Q w t (.slice (some ⟨g, 0, none⟩) n c) q l left down) {k : Nat} (hk : k < l.length) (j : Nat) (hj : j < 4) (u : Value) {p : Bytes × FileP}
    (hx : ∀ x, RfIs (Pof Q w.heap.size t (.slice (some ⟨g, 0, none⟩) n c)) w x l[k] → ∃ x', encF x' = (encF x).set j u ∧ RfIs (Pof Q w.heap.size t (.slice (some ⟨g, 0, none⟩) n c)) w x' p) :
    RefAt Q (w.setCell ⟨g, k * 4 + j, none⟩ u) t (.slice (some ⟨g, 0, none⟩) n c) q (l.set k p) left down ∧ FrameS (fun i => i < w.heap.size ∧ ¬ Q i) w (w.setCell ⟨g, k * 4 + j, none⟩ u) ∧ w.frozen? ⟨g, k * 4 + j, none⟩ = false := by
  obtain ⟨L, h1, h2⟩ := h.row
  have hg := h.own g rfl
  have hkL : k < L.length := by rw [h2.length]; exact hk
  have hnL : n = L.length := by
    rcases h1.2 with ⟨hv, _⟩ | ⟨g', cap, cur, hv, _⟩
    · cases hv
    · injection hv
  obtain ⟨x', e1, hx'⟩ := hx L[k] (h2.at hkL hk)
  subst hnL
  have hoth : ∀ i, i ≠ g → (w.setCell ⟨g, k * 4 + j, none⟩ u).heap[i]? = w.heap[i]? := fun i hi => Below.heap_setCell _ _ _ _ hi
  have hsz : (w.setCell ⟨g, k * 4 + j, none⟩ u).heap.size = w.heap.size := by simp [World.setCell]
  have hfl := tyF.flat_len L
  have hmul : k * 4 + 4 ≤ L.length * 4 := by have := Nat.mul_le_mul_right 4 (show k + 1 ≤ L.length from hkL); omega
  have hset : flatR encF (L.set k x') = (flatR encF L).set (k * 4 + j) u := by
    have hself := tyF.flat_set L[k] L k hkL
    rw [List.set_getElem_self] at hself
    rw [tyF.flat_set x' L k hkL, e1]
    conv => rhs; rw [hself]
    have ht : ((flatR encF L).take (k * 4)).length = k * 4 := by rw [List.length_take]; omega
    rw [List.append_assoc, List.append_assoc, List.set_append_right _ _ (by omega), ht, show k * 4 + j - k * 4 = j by omega, List.set_append_left _ _ (by show j < 4; exact hj)]
  refine ⟨⟨h.tq, (hoth t (fun e => hg.2 e.symm)).trans h.blk, ⟨L.set k x', ?_, ?_⟩, h.own⟩, ⟨rfl, rfl, rfl, by rw [hsz]; exact Nat.le_refl _, fun i hi => ⟨hi.1, hoth i fun e => hi.2 (e ▸ hg.1)⟩⟩, h1.frozenAt _⟩
  · rw [List.length_set, hset]
    exact (World.ownsRow.stored h1 _ _).1
  · exact (h2.set k hx').imp fun _ _ hc => hc.keep fun i hp => ⟨⟨hp.1, by rw [hsz]; exact hp.2.1, hp.2.2⟩, hoth i fun e => hp.2.2.2 (by rw [e]; rfl)⟩
/-- A number, a flag of the store is set. -/
theorem RefAt.setRoot {v : Value} (h : RefAt Q w t v q l left down) (left' : Int) (down' : Bool) (k : Nat) (u : Value) (hC : (#[.int .i64 q, v, .int .i64 left, .bool down] : Array Value).setIfInBounds k u = #[.int .i64 q, v, .int .i64 left', .bool down']) :
    RefAt Q (w.setCell ⟨t, k, none⟩ u) t v q l left' down' ∧ ButT t w (w.setCell ⟨t, k, none⟩ u) := by
  have hoth : ∀ i, i ≠ t → (w.setCell ⟨t, k, none⟩ u).heap[i]? = w.heap[i]? := fun i hi => Below.heap_setCell _ _ _ _ hi
  have hsz : (w.setCell ⟨t, k, none⟩ u).heap.size = w.heap.size := by simp [World.setCell]
  obtain ⟨L, h1, h2⟩ := h.row
  refine ⟨⟨h.tq, by rw [Go.heap_setCell_same w t k _ _ u h.blk, hC], ⟨L, row_same h1 fun g e => hoth g (h.own g e).2, h2.imp fun _ _ hc => hc.keep fun i hp => ⟨⟨hp.1, by rw [hsz]; exact hp.2.1, hp.2.2⟩, hoth i hp.2.2.1⟩⟩, h.own⟩, (ButT.refl t w).set k u⟩
end

section
variable {Q : Nat → Prop} {w : World} {t : Nat} {v : Value} {q left : Int} {l : Files} {down : Bool}
/-- Where a file lies. -/
theorem RefAt.place (h : RefAt Q w t v q l left down) {k : Nat} (hk : k < l.length) :
    ∃ g c x, v = .slice (some ⟨g, 0, none⟩) l.length c ∧ (∀ W : World, (Instr.indexAt 74 (.slice (some ⟨g, 0, none⟩) l.length c) (.int .i64 (k : Int))).run Tryd.prog W = .ok (.pointer (some ⟨g, k * 4, none⟩)) W) ∧
      w.rangeAt g (k * 4) (encF x) ∧ RfIs (Pof Q w.heap.size t v) w x l[k] := by
  obtain ⟨L, h1, h2⟩ := h.row
  have hkL : k < L.length := by rw [h2.length]; exact hk
  obtain ⟨a, c, rfl, hrs, hy⟩ := row_rs L h1
  rcases h1.2 with ⟨hv, h0⟩ | ⟨g, cap, cur, hv, _⟩
  · have e0 := List.eq_nil_of_length_eq_zero h0
    subst e0
    exact absurd hkL (Nat.not_lt_zero _)
  · injection hv with ha hb hc
    subst ha
    refine ⟨g, c, L[k], by rw [h2.length], fun W => ?_, ?_, h2.at hkL hk⟩
    · have := tyF.index g 0 l.length c k hk W
      rw [Nat.zero_add] at this
      exact this
    · rcases hrs.cells with rfl | ⟨b, o, e, hc2⟩
      · exact absurd hkL (Nat.not_lt_zero _)
      · injection e with e
        injection e with e1 e2
        subst e1 e2
        have := hc2 k hkL
        rw [Nat.zero_add, getElem!_pos L k hkL] at this
        exact this
theorem mg_storeF {ops : Array Oper} {Q' : Go.Act → World → Prop} {i : Nat} {r : List (Nat × Nat)} {o : Oper} {a : Go.Act} (ho : ops[i]? = some o) (hw : Region.wanted o (yielded ops a.tmps) = true)
    (hgd : o.guard = none) (hd : o.dst = none) (x y : Operand) (hop : o.op = .store 79 x y) {g n c : Nat} (h : RefAt Q w t (.slice (some ⟨g, 0, none⟩) n c) q l left down) {k : Nat} (hk : k < l.length) {xf : RfA} {p : Bytes × FileP} (hf : RfIs (Pof Q w.heap.size t (.slice (some ⟨g, 0, none⟩) n c)) w xf p)
    (hx : a.eval x = .pointer (some ⟨g, k * 4, none⟩)) (hy : a.eval y = .agg (recA encF xf))
    (hK : ∀ w', RefAt Q w' t (.slice (some ⟨g, 0, none⟩) n c) q (l.set k p) left down → FrameS (fun j => j < w.heap.size ∧ ¬ Q j) w w' → MG Tryd.prog ops Q' r a w') :
    MG Tryd.prog ops Q' ((i, 2) :: r) a w :=
  mg_sync ho hw fun w' hw' K hK2 => wpList_plain hgd fun K' hK' => by
    have hf' : RfIs (Pof Q w'.heap.size t (.slice (some ⟨g, 0, none⟩) n c)) w' xf p := hf.keep fun j hp => ⟨⟨hp.1, Nat.lt_of_lt_of_le hp.2.1 hw'.size, hp.2.2⟩, hw'.block j hp.2.1⟩
    obtain ⟨s1, s2, s3⟩ := (h.below hw').setRow hk hf'
    unfold Oper.wp execOp
    simp only [hop, hx, hy, Sem.run_bind, Sem.run_pure, Result.andThen_ok, s1]
    refine hK' _ _ ?_
    rw [hd]
    refine hK2 _ _ (hK _ s2 ?_)
    exact ⟨s3.os.trans hw'.os, s3.tape.trans hw'.tape, s3.output.trans hw'.output, Nat.le_trans hw'.size s3.size, fun j hj => ⟨hj.1, (s3.keep j ⟨Nat.lt_of_lt_of_le hj.1 hw'.size, hj.2⟩).2.trans (hw'.block j hj.1)⟩⟩
/-- What a change answers and leaves. -/
def ChgLeft (Q : Nat → Prop) (w : World) (t : Nat) (S : StP) (left : Int) (r : StP × Int) (e : Ending) (w' : World) : Prop :=
  e = .returned (.int .i64 r.2) ∧ ∃ v', RefAt Q w' t v' S.quota r.1.files left S.down ∧ FrameS (fun j => j < w.heap.size ∧ ¬ Q j) w w'
end
theorem RfIs.thru {Q : Nat → Prop} {w w' : World} {n n' t : Nat} {v v' : Value} {x : RfA} {p : Bytes × FileP} (h : RfIs (Pof Q n t v) w x p) (hb : ButT t w w') (hn : n ≤ w.heap.size) (hn' : n ≤ n') (hf : ∀ g, v'.ownBlock = some g → n ≤ g) : RfIs (Pof Q n' t v') w' x p :=
  h.keep fun j hp => ⟨⟨hp.1, Nat.lt_of_lt_of_le hp.2.1 hn', hp.2.2.1, fun e => by have := hf j e; have := hp.2.1; omega⟩, hb.keep j (Nat.lt_of_lt_of_le hp.2.1 hn) hp.2.2.1⟩
theorem RfIs.later {Q : Nat → Prop} {w w' : World} {n n' t : Nat} {v : Value} {x : RfA} {p : Bytes × FileP} (h : RfIs (Pof Q n t v) w x p) (hb : Below w.heap.size w w') (hn : n ≤ w.heap.size) (hn' : n ≤ n') : RfIs (Pof Q n' t v) w' x p :=
  h.keep fun j hp => ⟨⟨hp.1, Nat.lt_of_lt_of_le hp.2.1 hn', hp.2.2⟩, hb.block j (Nat.lt_of_lt_of_le hp.2.1 hn)⟩
def FrQ (Q : Nat → Prop) (w w' : World) : Prop := FrameS (fun j => j < w.heap.size ∧ ¬ Q j) w w'
theorem FrQ.of {Q : Nat → Prop} {w w' : World} (h : Below w.heap.size w w') : FrQ Q w w' := (FrameS.ofBelow h (Nat.le_refl _)).sub fun _ hj => hj.1
theorem FrQ.but {Q : Nat → Prop} {w w' : World} {t : Nat} (h : ButT t w w') (hq : Q t) : FrQ Q w w' := h.frame hq
theorem FrQ.trans {Q : Nat → Prop} {w w' w2 : World} (h : FrQ Q w w') (g : FrQ Q w' w2) : FrQ Q w w2 := FrameS.trans h (FrameS.sub g fun _ hj => ⟨Nat.lt_of_lt_of_le hj.1 h.size, hj.2⟩)
theorem FrQ.refl (Q : Nat → Prop) (w : World) : FrQ Q w w := FrQ.of (Below.refl _ _)
theorem FrQ.mono {Q Q' : Nat → Prop} {w w' : World} (h : FrQ Q' w w') (hQ : ∀ j, Q' j → Q j) : FrQ Q w w' := FrameS.sub h fun j hj => ⟨hj.1, fun hq => hj.2 (hQ j hq)⟩
theorem put_key {l : Files} (hs : Sorted l) {k : Nat} (hk : k < l.length) {x : Bytes} (hx : l[k].1 = x) (f : FileP) : putF l x f = l.set k (x, f) := by subst hx; exact put_idx hs hk f
theorem del_key {l : Files} (hs : Sorted l) {k : Nat} (hk : k < l.length) {x : Bytes} (hx : l[k].1 = x) : delF l x = l.take k ++ l.drop (k + 1) := by subst hx; exact del_idx hs hk
/-- What stood behind each change, one more: set in the box. -/
theorem since_set {Q : Nat → Prop} {t : Nat} {rv : Value} {w1 w4 w11 : World} {GF : Nat} {x4 : RfA} {M : List RowA} {L : List Bytes} {r : RowA} {l : Bytes} {va : Option Addr} {vc : Nat}
    (h4 : BxF w1 w4 GF x4) (hQ : ∀ j, w1.heap.size ≤ j → Q j) (htl : t < w1.heap.size) (hrv : ∀ g, rv.ownBlock = some g → g < w1.heap.size)
    (hM : All2 (BsAt (Pof Q w1.heap.size t rv) w1) M L) (hr : BsAt (Pof Q w4.heap.size t rv) w4 r l) (hrG : ∀ y, r.a = some y → y.block ≠ GF)
    (ho : OwnR encR 1 28 w4 w11 (.slice va (M ++ [r]).length vc) (M ++ [r])) :
    BxF w1 (w11.setCell ⟨GF, 3, none⟩ (.slice va (M ++ [r]).length vc)) GF { x4 with since := ⟨va, (M ++ [r]).length, vc⟩ } ∧
    SnAt (Pof Q (w11.setCell ⟨GF, 3, none⟩ (.slice va (M ++ [r]).length vc)).heap.size t rv) (w11.setCell ⟨GF, 3, none⟩ (.slice va (M ++ [r]).length vc)) ⟨va, (M ++ [r]).length, vc⟩ (L ++ [l]) := by
  have h11 := h4.below ho.frame
  have hGF := lt_of_block h4.blk
  have hoth : ∀ j, j ≠ GF → (w11.setCell ⟨GF, 3, none⟩ (.slice va (M ++ [r]).length vc)).heap[j]? = w11.heap[j]? := fun j hj => Below.heap_setCell _ _ _ _ hj
  have hsz : (w11.setCell ⟨GF, 3, none⟩ (.slice va (M ++ [r]).length vc)).heap.size = w11.heap.size := by simp [World.setCell]
  obtain ⟨a, c, e, hrs, hab⟩ := ho.rs1 tyR
  injection e with e1 e2 e3
  subst e1 e3
  have hsz4 := h4.frame.size
  have hsz11 := ho.frame.size
  have hva : ∀ y, va = some y → w4.heap.size ≤ y.block ∧ y.block < w11.heap.size := fun y hy => by
    rcases hab with h | ⟨b, o, h⟩
    · rw [h] at hy; cases hy
    · rcases ho.own.2 with ⟨hv, _⟩ | ⟨g, cap, cur, hv, hb, hh, _⟩
      · injection hv with hv; rw [hv] at hy; cases hy
      · injection hv with hv
        rw [hv] at hy
        injection hy with hy
        subst hy
        exact ⟨hb, lt_of_block hh⟩
  have hP : ∀ j, w4.heap.size ≤ j → j < w11.heap.size → Pof Q (w11.setCell ⟨GF, 3, none⟩ (.slice va (M ++ [r]).length vc)).heap.size t rv j := fun j h1 h2 =>
    ⟨hQ j (by omega), by rw [hsz]; exact h2, by omega, fun e => by have := hrv j e; omega⟩
  refine ⟨h11.set 3 _ rfl, ⟨⟨M ++ [r], rfl, rs_same hrs fun y hy => hoth _ (by have := (hva y hy).1; omega), (hM.imp fun _ _ hc => hc.keep fun j hp => ⟨⟨hp.1, by rw [hsz]; have := hp.2.1; omega, hp.2.2⟩, ?_⟩).append (.one ?_)⟩, fun y hy => hP _ (hva y hy).1 (hva y hy).2⟩⟩
  · rw [hoth j (by have := hp.2.1; have := h4.far; omega), ho.frame.block j (by have := hp.2.1; omega), h4.frame.block j hp.2.1]
  · refine ⟨hr.n, sl_same hr.sl fun y hy => ?_, fun y hy => ?_⟩
    · rw [hoth _ (hrG y hy), ho.frame.block _ (hr.blk y hy).2.1]
    · have := hr.blk y hy
      exact ⟨this.1, by rw [hsz]; have := this.2.1; omega, this.2.2⟩
end Go.Proofs.YthjjdcfkdmhmlaaDoor
namespace Go.Proofs.YthjjdcfkdmhmlaaDoor
open Go.RowKit Go.Mix Go.WideMaps

/-- The first i bytes are written. -/
def onI (now b : Bytes) (m i : Nat) : Bytes := Chg.on ⟨m, -1, b.take i⟩ now
theorem onI_eq (now b : Bytes) (m : Nat) {i : Nat} (hi : i ≤ b.length) : onI now b m i = now.take m ++ b.take i ++ now.drop (m + i) := by
  unfold onI Chg.on
  rw [if_neg (show ¬ (0 : Int) ≤ -1 by decide)]
  show now.take m ++ b.take i ++ now.drop (m + (b.take i).length) = _
  rw [List.length_take, Nat.min_eq_left hi]
theorem onI_zero (now b : Bytes) (m : Nat) : onI now b m 0 = now := by
  rw [onI_eq now b m (Nat.zero_le _), List.take_zero, List.append_nil, Nat.add_zero, List.take_append_drop]
theorem onI_len (now b : Bytes) {m i : Nat} (hm : m ≤ now.length) (hi : i ≤ b.length) : (onI now b m i).length = max now.length (m + i) := by
  rw [onI_eq now b m hi]
  simp only [List.length_append, List.length_take, List.length_drop]
  omega
theorem onI_all (now b : Bytes) (m : Nat) : onI now b m b.length = Chg.on ⟨m, -1, b⟩ now := by unfold onI; rw [List.take_length]
theorem onI_set (now b : Bytes) {m i : Nat} (hm : m ≤ now.length) (hi : i < b.length) (h : m + i < now.length) : onI now b m (i + 1) = (onI now b m i).set (m + i) b[i] := by
  rw [onI_eq now b m (by omega), onI_eq now b m (by omega), List.take_succ_eq_append_getElem hi]
  have h1 : (now.take m ++ b.take i).length = m + i := by simp only [List.length_append, List.length_take]; omega
  rw [List.set_append_right _ _ (by omega), h1, Nat.sub_self, List.drop_eq_getElem_cons (i := m + i) h, List.set_cons_zero, ← List.append_assoc, List.append_assoc, List.singleton_append, Nat.add_assoc]
theorem onI_snoc (now b : Bytes) {m i : Nat} (hi : i < b.length) (h : now.length ≤ m + i) : onI now b m (i + 1) = onI now b m i ++ [b[i]] := by
  rw [onI_eq now b m (by omega), onI_eq now b m (by omega), List.take_succ_eq_append_getElem hi, List.drop_of_length_le (by omega), List.drop_of_length_le (by omega), List.append_nil, List.append_nil, List.append_assoc]

/-- Is there no room? -/
def fullB (S : StP) (path : Bytes) (n1 n2 : Nat) : Bool := (decide (n1 < n2) && (decide (S.quota < 0) || decide (S.quota < (sumF S.files : Int) - n1 + n2))) || ((getF S.files path).isNone && decide (10000 ≤ S.files.length))
theorem write_eq {S : StP} {Z : Nat} (ok : OkS Z S) (hd : ¬ S.down = true) (path : Bytes) (m : Nat) (b : Bytes) (hr : rightF path = true) (hf : freeF S.files path path = true) (hm : m ≤ ((getF S.files path).getD file0).now.length) :
    writeS S path (m : Int) b = if fullB S path ((getF S.files path).getD file0).now.length (max ((getF S.files path).getD file0).now.length (m + b.length)) = true then (S, 7) else
      (doneS { S with used := S.used + max 0 ((m : Int) + (b.length : Int) - (((getF S.files path).getD file0).now.length : Nat)), files := putF S.files path (doF ((getF S.files path).getD file0) ⟨m, -1, b⟩) }, 0) := by
  unfold writeS
  rw [if_neg hd, hr, hf]
  rw [if_neg (by simp), if_neg (by simp), if_neg (by omega)]
  have hu := ok.used
  have hn := ok.neg
  generalize ((getF S.files path).getD file0).now.length = n1 at *
  have e : (decide (max 0 ((m : Int) + (b.length : Int) - (n1 : Nat)) > S.quota - S.used) && decide (max 0 ((m : Int) + (b.length : Int) - (n1 : Nat)) > 0)) = (decide (n1 < max n1 (m + b.length)) && (decide (S.quota < 0) || decide (S.quota < (sumF S.files : Int) - n1 + (max n1 (m + b.length) : Nat)))) := by
    rw [Bool.eq_iff_iff]
    simp only [Bool.and_eq_true, Bool.or_eq_true, decide_eq_true_eq]
    constructor
    · rintro ⟨h1, h2⟩
      refine ⟨by omega, ?_⟩
      by_cases hq : S.quota < 0
      · exact .inl hq
      · right; omega
    · rintro ⟨h1, h2⟩
      refine ⟨?_, by omega⟩
      by_cases hq : S.quota < 0
      · have := hn hq; omega
      · rcases h2 with h2 | h2
        · exact absurd h2 hq
        · omega
  unfold fullB
  rw [e]
  rfl

theorem u8_index (y : Addr) (len cap i : Nat) (hi : i < len) (W : World) : (Instr.indexAt 28 (.slice (some y) len cap) (.int .i64 (i : Int))).run Tryd.prog W = .ok (.pointer (some (y.add i))) W := by
  have he : Tryd.prog.elem 28 = 5 := by simp [Program.elem, Tryd.underlying28]
  have hs : (sizeOf 5).run Tryd.prog W = .ok 1 W := by kernel_rfl
  rw [run_indexAt_slice W 28 y len cap .i64 (i : Int) (by rw [he]; exact Tryd.underlying28), if_pos ⟨by omega, by omega⟩, he, hs]
  simp [Result.andThen]
theorem Buf.form {B : Nat} {w0 w : World} {v : Value} {l : List UInt8} (h : Buf B w0 w v l) (hl : 0 < l.length) : ∃ g c, v = .slice (some ⟨g, 0, none⟩) l.length c ∧ B ≤ g ∧ g < w.heap.size := by
  rcases h.1.2 with ⟨_, h0⟩ | ⟨g, cap, cur, rfl, hb, hh, _⟩
  · omega
  · exact ⟨g, cap, rfl, hb, lt_of_block hh⟩
/-- A byte of the buffer is set. -/
theorem Buf.set {B : Nat} {w0 w : World} {g n c : Nat} {l : List UInt8} (h : Buf B w0 w (.slice (some ⟨g, 0, none⟩) n c) l) (hn : n = l.length) {j : Nat} (hj : j < l.length) (ch : UInt8) :
    Buf B w0 (w.setCell ⟨g, j, none⟩ (.int .u8 (ch.toNat : Int))) (.slice (some ⟨g, 0, none⟩) n c) (l.set j ch) ∧ w.frozen? ⟨g, j, none⟩ = false ∧ w.cell? ⟨g, j, none⟩ = some (.int .u8 (l[j].toNat : Int)) := by
  subst hn
  have ho : w.ownsRow B 5 1 (.slice (some ⟨g, 0, none⟩) l.length c) l.length (bcells l) := h.1
  have hb : B ≤ g := (World.ownsRow.lt ho g rfl).1
  refine ⟨⟨?_, h.2.1.setCell (p := ⟨g, j, none⟩) hb _, h.2.2⟩, ho.frozenAt j, ?_⟩
  · unfold OwnB
    have e : bcells (l.set j ch) = (bcells l).set j (.int .u8 (ch.toNat : Int)) := by unfold bcells; rw [List.map_set]
    rw [e, List.length_set]
    exact (World.ownsRow.stored ho j _).1
  · rw [ho.cellAt j (by omega)]
    unfold bcells
    rw [List.getElem?_map, List.getElem?_eq_getElem hj]
    rfl

/-- What stood behind each change, one more: set in a box that no file lies in. -/
theorem since_set2 {Q' : Nat → Prop} {t : Nat} {rv : Value} {w4 w11 : World} {GF : Nat} {x4 : RfA} {M : List RowA} {L : List Bytes} {r : RowA} {l : Bytes} {va : Option Addr} {vc : Nat}
    (hb4 : w4.heap[GF]? = some (.cells (recA encF x4) 79 (0, 0))) (hG : ∀ j, Q' j → j ≠ GF) (hQn : ∀ j, w4.heap.size ≤ j → Q' j) (htl : t < w4.heap.size) (hrv : ∀ g, rv.ownBlock = some g → g < w4.heap.size)
    (hM : All2 (BsAt (Pof Q' w4.heap.size t rv) w4) M L) (hr : BsAt (Pof Q' w4.heap.size t rv) w4 r l)
    (ho : OwnR encR 1 28 w4 w11 (.slice va (M ++ [r]).length vc) (M ++ [r])) :
    (w11.setCell ⟨GF, 3, none⟩ (.slice va (M ++ [r]).length vc)).heap[GF]? = some (.cells (recA encF { x4 with since := ⟨va, (M ++ [r]).length, vc⟩ }) 79 (0, 0)) ∧
    SnAt (Pof Q' (w11.setCell ⟨GF, 3, none⟩ (.slice va (M ++ [r]).length vc)).heap.size t rv) (w11.setCell ⟨GF, 3, none⟩ (.slice va (M ++ [r]).length vc)) ⟨va, (M ++ [r]).length, vc⟩ (L ++ [l]) ∧
    (∀ j, j < w4.heap.size → j ≠ GF → (w11.setCell ⟨GF, 3, none⟩ (.slice va (M ++ [r]).length vc)).heap[j]? = w4.heap[j]?) ∧ w4.heap.size ≤ (w11.setCell ⟨GF, 3, none⟩ (.slice va (M ++ [r]).length vc)).heap.size ∧
    w11.frozen? ⟨GF, 3, none⟩ = false ∧ w11.cell? ⟨GF, 3, none⟩ = some (rowV x4.since) := by
  have hGF := lt_of_block hb4
  have hb11 := (ho.frame.block GF hGF).trans hb4
  have hoth : ∀ j, j ≠ GF → (w11.setCell ⟨GF, 3, none⟩ (.slice va (M ++ [r]).length vc)).heap[j]? = w11.heap[j]? := fun j hj => Below.heap_setCell _ _ _ _ hj
  have hsz : (w11.setCell ⟨GF, 3, none⟩ (.slice va (M ++ [r]).length vc)).heap.size = w11.heap.size := by simp [World.setCell]
  obtain ⟨a, c, e, hrs, hab⟩ := ho.rs1 tyR
  injection e with e1 e2 e3
  subst e1 e3
  have hsz11 := ho.frame.size
  have hva : ∀ y, va = some y → w4.heap.size ≤ y.block ∧ y.block < w11.heap.size := fun y hy => by
    rcases ho.own.2 with ⟨hv, _⟩ | ⟨g, cap, cur, hv, hb, hh, _⟩
    · injection hv with hv; rw [hv] at hy; cases hy
    · injection hv with hv
      rw [hv] at hy
      injection hy with hy
      subst hy
      exact ⟨hb, lt_of_block hh⟩
  have hP : ∀ j, Pof Q' w4.heap.size t rv j → Pof Q' (w11.setCell ⟨GF, 3, none⟩ (.slice va (M ++ [r]).length vc)).heap.size t rv j ∧ (w11.setCell ⟨GF, 3, none⟩ (.slice va (M ++ [r]).length vc)).heap[j]? = w4.heap[j]? := fun j hp =>
    ⟨⟨hp.1, by rw [hsz]; have := hp.2.1; omega, hp.2.2⟩, (hoth j (hG j hp.1)).trans (ho.frame.block j hp.2.1)⟩
  refine ⟨by rw [Go.heap_setCell_same w11 GF 3 _ _ _ hb11]; rfl, ⟨⟨M ++ [r], rfl, rs_same hrs fun y hy => hoth _ (by have := (hva y hy).1; omega), (hM.imp fun _ _ hc => hc.keep hP).append (.one (hr.keep hP))⟩, fun y hy => ?_⟩, fun j hj hn => (hoth j hn).trans (ho.frame.block j hj), by rw [hsz]; exact hsz11, free_blk hb11 3, cell_of_row _ _ _ _ _ _ hb11⟩
  have h1 := (hva y hy).1
  exact ⟨hQn _ h1, by rw [hsz]; exact (hva y hy).2, by omega, fun e => by have := hrv _ e; omega⟩
set_option maxRecDepth 100000 in
theorem placesF : ∃ fs, Tryd.prog.underlying 79 = some (.struct fs) ∧ fs.toList.mapM (fun f => (Tryd.prog.info? f.type).map fun i => (f.offset, i.size)) = some [(0, 1), (1, 1), (2, 1), (3, 1)] := ⟨_, Tryd.underlying79, by kernel_rfl⟩
def rfa0 (p : Bytes) : RfA := ⟨p, ⟨none, 0, 0⟩, ⟨none, 0, 0⟩, ⟨none, 0, 0⟩⟩
theorem buildF (p : Bytes) (w : World) : (Instr.build 79 #[(0, .string (strOf p))]).run Tryd.prog w = .ok (.agg (recA encF (rfa0 p))) w := by
  obtain ⟨fs, h1, h2⟩ := placesF
  refine built_at (Z := encF (rfa0 [])) (parts := [(0, .string (strOf p))]) (by kernel_rfl) h1 h2 ?_ w
  rw [fill_cons (o := 0) (n := 1) rfl rfl (by simp [encF]), fill_nil]
  rfl
end Go.Proofs.YthjjdcfkdmhmlaaDoor
namespace Go.Proofs.YthjjdcfkdmhmlaaDoor

/-- Changes till the power goes, as the document has them. -/
def leftS (S : StP) : Int := if S.armed && !S.down then S.left else -1
/-- A change: refused, and nothing is turned; or done. -/
def Done (S : StP) (r : StP × Int) : Prop := (r.2 ≠ 0 ∧ r.1 = S) ∨ (r.2 = 0 ∧ S.down = false ∧ ∃ S1 : StP, r.1 = doneS S1 ∧ S1.armed = S.armed ∧ S1.left = S.left ∧ S1.down = S.down)
theorem done_no (S : StP) (n : Int) (h : n ≠ 0) : Done S (S, n) := .inl ⟨h, rfl⟩
theorem done_write (S : StP) (path : Bytes) (at_ : Int) (b : Bytes) : Done S (writeS S path at_ b) := by
  unfold writeS
  by_cases hd : S.down = true
  · rw [if_pos hd]; exact done_no _ _ (by decide)
  rw [if_neg hd]
  split
  · exact done_no _ _ (by decide)
  split
  · exact done_no _ _ (by decide)
  split
  · exact done_no _ _ (by decide)
  split
  · exact done_no _ _ (by decide)
  · exact .inr ⟨rfl, by simpa using hd, _, rfl, rfl, rfl, rfl⟩
theorem done_cut (S : StP) (path : Bytes) (n : Int) : Done S (cutS S path n) := by
  unfold cutS
  by_cases hd : S.down = true
  · rw [if_pos hd]; exact done_no _ _ (by decide)
  rw [if_neg hd]
  split
  · exact done_no _ _ (by decide)
  split
  · exact done_no _ _ (by decide)
  · exact .inr ⟨rfl, by simpa using hd, _, rfl, rfl, rfl, rfl⟩
theorem done_sync (S : StP) (path : Bytes) : Done S (syncS S path) := by
  unfold syncS
  by_cases hd : S.down = true
  · rw [if_pos hd]; exact done_no _ _ (by decide)
  rw [if_neg hd]
  split
  · exact done_no _ _ (by decide)
  · exact .inr ⟨rfl, by simpa using hd, _, rfl, rfl, rfl, rfl⟩
theorem done_rename (S : StP) (src dst : Bytes) : Done S (renameS S src dst) := by
  unfold renameS
  by_cases hd : S.down = true
  · rw [if_pos hd]; exact done_no _ _ (by decide)
  rw [if_neg hd]
  split
  · exact done_no _ _ (by decide)
  split
  · exact done_no _ _ (by decide)
  split
  · exact done_no _ _ (by decide)
  · exact .inr ⟨rfl, by simpa using hd, _, rfl, rfl, rfl, rfl⟩
theorem done_remove (S : StP) (path : Bytes) : Done S (removeS S path) := by
  unfold removeS
  by_cases hd : S.down = true
  · rw [if_pos hd]; exact done_no _ _ (by decide)
  rw [if_neg hd]
  split
  · exact done_no _ _ (by decide)
  · exact .inr ⟨rfl, by simpa using hd, _, rfl, rfl, rfl, rfl⟩
theorem done_act (S : StP) (x : ActP) (hk : x.kind < 5) : Done S (actS S x) := by
  unfold actS
  split
  · exact done_write _ _ _ _
  split
  · exact done_cut _ _ _
  split
  · exact done_sync _ _
  split
  · exact done_rename _ _ _
  split
  · exact done_remove _ _
  · omega
/-- What is left behind it. -/
theorem done_left {S : StP} {Z : Nat} (ok : OkS Z S) {r : StP × Int} (h : Done S r) :
    (r.2 ≠ 0 ∧ leftS r.1 = leftS S ∧ r.1.down = S.down) ∨ (r.2 = 0 ∧ S.down = false ∧ ¬ 0 < leftS S ∧ leftS r.1 = leftS S ∧ r.1.down = S.down) ∨
    (r.2 = 0 ∧ S.down = false ∧ 0 < leftS S ∧ leftS S - 1 = 0 ∧ leftS r.1 = -1 ∧ r.1.down = true) ∨ (r.2 = 0 ∧ S.down = false ∧ 0 < leftS S ∧ leftS S - 1 ≠ 0 ∧ leftS r.1 = leftS S - 1 ∧ r.1.down = false) := by
  rcases h with ⟨h1, h2⟩ | ⟨h1, h2, S1, h3, h4, h5, h6⟩
  · exact .inl ⟨h1, by rw [h2], by rw [h2]⟩
  · right
    by_cases ha : S.armed = true
    · have hl := ok.left.2.2 ha h2
      have e : leftS S = S.left := by unfold leftS; rw [ha, h2]; rfl
      have e1 : r.1 = { S1 with left := S1.left - 1, down := decide (S1.left - 1 ≤ 0) } := by rw [h3]; unfold doneS; rw [h4, if_pos ha]
      rw [e]
      right
      by_cases h0 : S.left - 1 = 0
      · refine .inl ⟨h1, h2, by omega, h0, ?_, ?_⟩
        · rw [e1]
          unfold leftS
          rw [h5, decide_eq_true (by omega)]
          simp
        · rw [e1]
          show decide (S1.left - 1 ≤ 0) = true
          rw [h5]
          exact decide_eq_true (by omega)
      · refine .inr ⟨h1, h2, by omega, h0, ?_, ?_⟩
        · rw [e1]
          unfold leftS
          show (if (S1.armed && !decide (S1.left - 1 ≤ 0)) = true then S1.left - 1 else -1) = _
          rw [h5, h4, ha, decide_eq_false (by omega)]
          rfl
        · rw [e1]
          show decide (S1.left - 1 ≤ 0) = false
          rw [h5]
          exact decide_eq_false (by omega)
    · have ha2 : S.armed = false := by simpa using ha
      have e : leftS S = -1 := by unfold leftS; rw [ha2]; rfl
      have e1 : r.1 = S1 := by rw [h3]; unfold doneS; rw [h4, if_neg ha]
      left
      refine ⟨h1, h2, by rw [e]; decide, ?_, by rw [e1, h6]⟩
      rw [e1, e]
      unfold leftS
      rw [h4, ha2]
      rfl
end Go.Proofs.YthjjdcfkdmhmlaaDoor
