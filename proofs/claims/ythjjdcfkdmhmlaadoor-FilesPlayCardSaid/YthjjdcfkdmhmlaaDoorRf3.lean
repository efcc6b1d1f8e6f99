/-
  The document's Do: a change, an arming: the walks.
  The document's files as they lie, each field by itself.
  The document's Do: a crash: the walk.
-/
import Derived.Test.YthjjdcfkdmhmlaaDoorRf1
import Derived.Test.YthjjdcfkdmhmlaaDoorStCrash
import Derived.Deep.CutRange
namespace Go.Proofs.YthjjdcfkdmhmlaaDoor
open Go.RowKit Go.Mix Go.WideMaps

set_option maxRecDepth 100000 in
set_option maxHeartbeats 4000000 in
theorem rfDoC_any {Q : Nat → Prop} {w : World} {t Z : Nat} {v : Value} {S : StP} (h : RefAt Q w t v S.quota S.files (leftS S) S.down) (ok : OkS Z S) {r : StP × Int} (hr : Done S r)
    {a : ActA} {kd : Nat} (hkd : a.kind = (kd : Int)) (hk5 : kd < 5)
    (CH : ∀ w1, Below w.heap.size w w1 → Calls Tryd.prog 38 #[ptr t, .agg (recA encA a)] w1 fun e w' => ChgLeft Q w1 t S (leftS S) r e w') :
    Calls Tryd.prog 21 #[ptr t, .agg (recA encA a)] w fun e w' => e = .returned (.int .i64 r.2) ∧ ∃ v', RefAt Q w' t v' S.quota r.1.files (leftS r.1) r.1.down ∧ FrQ Q w w' := by
  obtain ⟨w1, hw1⟩ : ∃ w1, w1 = w.alloc (.cells (recA encA a) 49) := ⟨_, rfl⟩
  have hb1 : Below w.heap.size w w1 := by rw [hw1]; exact (Below.refl _ _).alloc (Nat.le_refl _) _
  have hbk : w1.heap[w.heap.size]? = some (.cells (recA encA a) 49 (0, 0)) := by rw [hw1]; exact heap_alloc_last _ _ _ rfl
  obtain ⟨k0, -⟩ := act_cells (x := a) (w := w1) (b := w.heap.size) (q := 0) (recBox hbk)
  rw [hkd] at k0
  have LB := tyA.load a w.heap.size 0 w1 (recBox hbk)
  have C1 := CH w1 hb1
  have HD := Lib.hid (done_left ok hr)
  have HB := Lib.hid (And.intro hb1 h.tq)
  obtain ⟨L0, hL0⟩ : ∃ L0, L0 = leftS S := ⟨_, rfl⟩
  have hlb : -9223372036854775808 < L0 ∧ L0 ≤ 9223372036854775807 := by
    rw [hL0]
    have := ok.left
    unfold leftS
    split <;> omega
  rw [← hL0] at C1 HD
  have e5 : ((kd : Int) == 5) = false := by rw [beq_eq_false_iff_ne]; omega
  have e6 : ((kd : Int) == 6) = false := by rw [beq_eq_false_iff_ne]; omega
  have e5' : (kd == 5) = false := by rw [beq_eq_false_iff_ne]; omega
  have e6' : (kd == 6) = false := by rw [beq_eq_false_iff_ne]; omega
  obtain ⟨r1, m⟩ := r
  clear hb1 hbk CH hr ok hkd hk5 h hL0
  unfold ptr at *
  go_enter Tryd.func21, Tryd.ntmps21
  go_upto_region 1 with (fail)
  rw [← hw1]
  clear hw1
  go_wp2_with (refine wpList_load_at rfl _ _ rfl _ _ rfl LB ?_)
  refine C1.mono ?_
  clear C1 LB k0
  rintro e w2 ⟨rfl, v2, h2, hf2⟩
  obtain ⟨-, -, c2, c3⟩ := h2.cells
  have F2 := free_blk h2.blk 2
  have H2 := Lib.hid (And.intro h2 ((FrQ.of HB.out.1).trans hf2))
  clear h2 hf2
  rcases HD.out with ⟨hm, e1, e2⟩ | ⟨hm, hdn, hl, e1, e2⟩ | ⟨hm, hdn, hl, hl0, e1, e2⟩ | ⟨hm, hdn, hl, hl0, e1, e2⟩
  · have hm' : m ≠ 0 := hm
    have t0 : (m == 0) = false := by rw [beq_eq_false_iff_ne]; exact hm'
    have HE := Lib.hid (And.intro e1 e2)
    clear hm hm' e1 e2 F2
    go_wp2_with fail
    go_ret
    exact ⟨rfl, v2, by rw [HE.out.1, HE.out.2]; exact H2.out.1, H2.out.2⟩
  · have hm' : m = 0 := hm
    subst hm'
    have HE := Lib.hid (And.intro e1 e2)
    have t1 : decide (0 < L0) = false := decide_eq_false (by omega)
    clear hm e1 e2 F2 hdn hl
    go_wp2_with fail
    go_ret
    exact ⟨rfl, v2, by rw [HE.out.1, HE.out.2]; exact H2.out.1, H2.out.2⟩
  · have hm' : m = 0 := hm
    subst hm'
    have hL1 : L0 = 1 := by omega
    subst hL1
    have HE := Lib.hid (And.intro e1 e2)
    clear hm e1 e2 hdn hl hl0
    go_upto_region 29 with (fail)
    have h3 := H2.out.1.setRoot 0 S.down 2 (.int .i64 0) rfl
    have H3 := Lib.hid h3
    clear F2 c2 c3 h3
    generalize w2.setCell ⟨t, 2, none⟩ (.int .i64 0) = w3 at *
    obtain ⟨-, -, c2, c3⟩ := H3.out.1.cells
    have F2 := free_blk H3.out.1.blk 2
    go_upto_region 31 with (fail)
    have h4 := H3.out.1.setRoot (-1) S.down 2 (.int .i64 (-1)) rfl
    have H4 := Lib.hid h4
    clear F2 c2 c3 h4
    generalize w3.setCell ⟨t, 2, none⟩ (.int .i64 (-1)) = w4 at *
    obtain ⟨-, -, c2, c3⟩ := H4.out.1.cells
    have F3 := free_blk H4.out.1.blk 3
    go_upto_region 32 with (fail)
    have h5 := H4.out.1.setRoot (-1) true 3 (.bool true) rfl
    have H5 := Lib.hid h5
    clear F3 c2 c3 h5
    generalize w4.setCell ⟨t, 3, none⟩ (.bool true) = w5 at *
    go_wp2_with fail
    go_ret
    exact ⟨rfl, v2, by rw [HE.out.1, HE.out.2]; exact H5.out.1, ((H2.out.2.trans (FrQ.but H3.out.2 HB.out.2)).trans (FrQ.but H4.out.2 HB.out.2)).trans (FrQ.but H5.out.2 HB.out.2)⟩
  · have hm' : m = 0 := hm
    subst hm'
    have hw7 : IntKind.i64.wrap (L0 - 1) = L0 - 1 := IntWalk.i64_in _ (by omega)
    have hw8 : wrap64 (L0 - 1) = L0 - 1 := IntWalk.wrap64_in _ ⟨by omega, by omega⟩
    have t1 : decide (0 < L0) = true := decide_eq_true hl
    have t2 : (L0 - 1 == 0) = false := by rw [beq_eq_false_iff_ne]; exact hl0
    have HE := Lib.hid (And.intro e1 (And.intro e2 hdn))
    clear hm e1 e2 hdn hl hl0
    go_upto_region 29 with (fail)
    have h3 := H2.out.1.setRoot (L0 - 1) S.down 2 (.int .i64 (L0 - 1)) rfl
    have H3 := Lib.hid h3
    clear F2 c2 c3 h3
    generalize w2.setCell ⟨t, 2, none⟩ (.int .i64 (L0 - 1)) = w3 at *
    obtain ⟨-, -, c2, c3⟩ := H3.out.1.cells
    go_wp2_with fail
    go_ret
    exact ⟨rfl, v2, by rw [HE.out.1, HE.out.2.1]; have := H3.out.1; rw [HE.out.2.2] at this; exact this, H2.out.2.trans (FrQ.but H3.out.2 HB.out.2)⟩

set_option maxRecDepth 100000 in
set_option maxHeartbeats 4000000 in
theorem rfArm_any {Q : Nat → Prop} {w : World} {t Z : Nat} {v : Value} {S : StP} (h : RefAt Q w t v S.quota S.files (leftS S) S.down) (_ok : OkS Z S)
    {a : ActA} (hkd : a.kind = 5) :
    Calls Tryd.prog 21 #[ptr t, .agg (recA encA a)] w fun e w' => e = .returned (.int .i64 0) ∧ ∃ v', RefAt Q w' t v' S.quota (armS S a.num).files (leftS (armS S a.num)) (armS S a.num).down ∧ FrQ Q w w' := by
  obtain ⟨w1, hw1⟩ : ∃ w1, w1 = w.alloc (.cells (recA encA a) 49) := ⟨_, rfl⟩
  have hb1 : Below w.heap.size w w1 := by rw [hw1]; exact (Below.refl _ _).alloc (Nat.le_refl _) _
  have hbk : w1.heap[w.heap.size]? = some (.cells (recA encA a) 49 (0, 0)) := by rw [hw1]; exact heap_alloc_last _ _ _ rfl
  obtain ⟨k0, -, -, k3, -⟩ := act_cells (x := a) (w := w1) (b := w.heap.size) (q := 0) (recBox hbk)
  rw [hkd] at k0
  have h1 := h.below hb1
  have htG : w.heap.size ≠ t := by have := h.tlt; omega
  obtain ⟨-, -, c2, c3⟩ := h1.cells
  have F2 := free_blk h1.blk 2
  have HB := Lib.hid (And.intro hb1 (And.intro h.tq (And.intro htG h1)))
  obtain ⟨n, hn⟩ : ∃ n, n = a.num := ⟨_, rfl⟩
  have hwG := HB.out.2.2.1
  rw [← hn] at k3 ⊢
  obtain ⟨G, hG⟩ : ∃ G, G = w.heap.size := ⟨_, rfl⟩
  have HG := Lib.hid hG
  rw [← hG] at k0 k3 hwG
  clear hb1 hbk hkd h h1 htG hn
  unfold ptr at *
  go_enter Tryd.func21, Tryd.ntmps21
  go_upto_region 1 with (fail)
  rw [← hw1, ← hG]
  clear hw1 hG
  by_cases hd : S.down = true
  · rw [hd] at c3
    have HE := Lib.hid (show armS S n = S by unfold armS; rw [if_pos hd])
    clear hd F2 c2
    go_wp2_with fail
    go_ret
    exact ⟨rfl, v, by rw [HE.out]; exact HB.out.2.2.2, FrQ.of HB.out.1⟩
  have hd2 : S.down = false := by simpa using hd
  rw [hd2] at c3
  have HE := Lib.hid (And.intro (show armS S n = { S with armed := true, left := max n 0, down := decide (n ≤ 0) } by unfold armS; rw [if_neg hd]) hd2)
  clear hd hd2
  go_upto_region 5 with (fail)
  have h3 := HB.out.2.2.2.setRoot n S.down 2 (.int .i64 n) rfl
  have H3 := Lib.hid h3
  have k3 := (World.cell?_of_block (a := ⟨G, 3, none⟩) (h3.2.keep G (lt_of_cell k3) hwG)).trans k3
  clear F2 c2 c3 h3 k0
  generalize w1.setCell ⟨t, 2, none⟩ (.int .i64 n) = w3 at *
  obtain ⟨-, -, c2, c3⟩ := H3.out.1.cells
  have F2 := free_blk H3.out.1.blk 2
  by_cases hn0 : n ≤ 0
  · have t1 : decide (n ≤ 0) = true := decide_eq_true hn0
    have HN := Lib.hid hn0
    clear hn0
    go_upto_region 7 with (fail)
    have h4 := H3.out.1.setRoot (-1) S.down 2 (.int .i64 (-1)) rfl
    have H4 := Lib.hid h4
    clear F2 c2 c3 h4
    generalize w3.setCell ⟨t, 2, none⟩ (.int .i64 (-1)) = w4 at *
    obtain ⟨-, -, c2, c3⟩ := H4.out.1.cells
    have F3 := free_blk H4.out.1.blk 3
    go_upto_region 8 with (fail)
    have h5 := H4.out.1.setRoot (-1) true 3 (.bool true) rfl
    have H5 := Lib.hid h5
    clear F3 c2 c3 h5
    generalize w4.setCell ⟨t, 3, none⟩ (.bool true) = w5 at *
    go_wp2_with fail
    go_ret
    refine ⟨rfl, v, ?_, (((FrQ.of HB.out.1).trans (FrQ.but H3.out.2 HB.out.2.1)).trans (FrQ.but H4.out.2 HB.out.2.1)).trans (FrQ.but H5.out.2 HB.out.2.1)⟩
    rw [HE.out.1]
    unfold leftS
    show RefAt Q w5 t v S.quota S.files (if (true && !decide (n ≤ 0)) = true then max n 0 else -1) (decide (n ≤ 0))
    rw [decide_eq_true HN.out]
    exact H5.out.1
  · have t1 : decide (n ≤ 0) = false := decide_eq_false hn0
    have HN := Lib.hid hn0
    clear hn0 F2
    go_upto_region 8 with (fail)
    go_wp2_with fail
    refine bodyPost_ret (results_tmp rfl _ _ _) rfl ?_
    refine ⟨rfl, ⟨v, ?_⟩, (FrQ.of HB.out.1).trans (FrQ.but H3.out.2 HB.out.2.1)⟩
    rw [HE.out.1]
    unfold leftS
    show RefAt Q w3 t v S.quota S.files (if (true && !decide (n ≤ 0)) = true then max n 0 else -1) (decide (n ≤ 0))
    rw [decide_eq_false (show ¬ n ≤ 0 by have := HN.out; omega), show max n 0 = n by have := HN.out; omega]
    have := H3.out.1
    rw [HE.out.2] at this
    exact this
end Go.Proofs.YthjjdcfkdmhmlaaDoor
namespace Go.Proofs.YthjjdcfkdmhmlaaDoor
open Go.RowKit Go.Mix Go.WideMaps

structure RFile where
  path : Bytes
  now : Bytes
  kept : Bytes
  since : List Bytes
instance : Inhabited RFile := ⟨⟨[], [], [], []⟩⟩
def refF (p : Bytes × FileP) : RFile := ⟨p.1, p.2.now, p.2.kept, sinceL p.2⟩
structure RrIs (P : Nat → Prop) (w : World) (x : RfA) (f : RFile) : Prop where
  path : x.path = f.path
  now : BsAt P w x.now f.now
  kept : BsAt P w x.kept f.kept
  since : SnAt P w x.since f.since
theorem RrIs.keep {P P' : Nat → Prop} {w w' : World} {x : RfA} {f : RFile} (h : RrIs P w x f) (hk : ∀ k, P k → P' k ∧ w'.heap[k]? = w.heap[k]?) : RrIs P' w' x f :=
  ⟨h.path, h.now.keep hk, h.kept.keep hk, h.since.keep hk⟩
structure RefR (Q : Nat → Prop) (w : World) (t : Nat) (v : Value) (q : Int) (l : List RFile) (left : Int) (down : Bool) : Prop where
  tq : Q t
  blk : w.heap[t]? = some (.cells #[.int .i64 q, v, .int .i64 left, .bool down] 76 (0, 0))
  row : ∃ L : List RfA, w.ownsRow 0 79 4 v L.length (flatR encF L) ∧ All2 (RrIs (Pof Q w.heap.size t v) w) L l
  own : ∀ g, v.ownBlock = some g → Q g ∧ g ≠ t
theorem All2.mapR {α β γ : Type} {R : α → γ → Prop} {f : β → γ} {l : List α} {m : List β} (h : All2 (fun a b => R a (f b)) l m) : All2 R l (m.map f) := by
  induction h with
  | nil => exact .nil
  | cons h _ ih => exact .cons h ih
theorem All2.unmapR {α β γ : Type} {R : α → γ → Prop} {f : β → γ} : ∀ {l : List α} {m : List β}, All2 R l (m.map f) → All2 (fun a b => R a (f b)) l m
  | _, [], h => by cases h; exact .nil
  | _, _ :: _, h => by cases h with | cons h t => exact .cons h (All2.unmapR t)
section
variable {Q Q' : Nat → Prop} {w w' : World} {t : Nat} {v : Value} {q left : Int} {down : Bool}
theorem RefAt.raw {l : Files} (h : RefAt Q w t v q l left down) : RefR Q w t v q (l.map refF) left down := by
  obtain ⟨L, h1, h2⟩ := h.row
  exact ⟨h.tq, h.blk, ⟨L, h1, (h2.imp (R' := fun a b => RrIs (Pof Q w.heap.size t v) w a (refF b)) fun _ _ hc => ⟨hc.path, hc.now, hc.kept, hc.since⟩).mapR⟩, h.own⟩
theorem RefR.cook {l : Files} (h : RefR Q w t v q (l.map refF) left down) : RefAt Q w t v q l left down := by
  obtain ⟨L, h1, h2⟩ := h.row
  exact ⟨h.tq, h.blk, ⟨L, h1, h2.unmapR.imp fun _ _ hc => ⟨hc.path, hc.now, hc.kept, hc.since⟩⟩, h.own⟩
variable {l : List RFile}
theorem RefR.tlt (h : RefR Q w t v q l left down) : t < w.heap.size := lt_of_block h.blk
theorem RefR.cell1 (h : RefR Q w t v q l left down) : w.cell? ⟨t, 1, none⟩ = some v := cell_of_row _ _ _ _ _ _ h.blk
theorem RefR.below (h : RefR Q w t v q l left down) (b : Below w.heap.size w w') : RefR Q w' t v q l left down := by
  obtain ⟨L, h1, h2⟩ := h.row
  exact ⟨h.tq, (b.block t h.tlt).trans h.blk, ⟨L, row_same h1 fun g e => b.block g (row_lt h1 e), h2.imp fun _ _ hc => hc.keep fun k hp => ⟨⟨hp.1, Nat.lt_of_lt_of_le hp.2.1 b.size, hp.2.2⟩, b.block k hp.2.1⟩⟩, h.own⟩
theorem RefR.place (h : RefR Q w t v q l left down) {k : Nat} (hk : k < l.length) :
    ∃ g c x, v = .slice (some ⟨g, 0, none⟩) l.length c ∧ (∀ W : World, (Instr.indexAt 74 (.slice (some ⟨g, 0, none⟩) l.length c) (.int .i64 (k : Int))).run Tryd.prog W = .ok (.pointer (some ⟨g, k * 4, none⟩)) W) ∧
      w.rangeAt g (k * 4) (encF x) ∧ RrIs (Pof Q w.heap.size t v) w x l[k] := by
  obtain ⟨L, h1, h2⟩ := h.row
  have hkL : k < L.length := by rw [h2.length]; exact hk
  obtain ⟨a, c, rfl, hrs, hy⟩ := row_rs L h1
  rcases h1.2 with ⟨hv, h0⟩ | ⟨g, cap, cur, hv, _⟩
  · have e0 := List.eq_nil_of_length_eq_zero h0
    subst e0
    exact absurd hkL (Nat.not_lt_zero _)
  · injection hv with ha hb hc
    subst ha
    refine ⟨g, c, L[k], by rw [h2.length], fun W => ?_, ?_, h2.at hkL hk⟩
    · have := tyF.index g 0 l.length c k hk W
      rw [Nat.zero_add] at this
      exact this
    · rcases hrs.cells with rfl | ⟨b, o, e, hc2⟩
      · exact absurd hkL (Nat.not_lt_zero _)
      · injection e with e
        injection e with e1 e2
        subst e1 e2
        have := hc2 k hkL
        rw [Nat.zero_add, getElem!_pos L k hkL] at this
        exact this
theorem RefR.setField {g n c : Nat} (h : RefR Q w t (.slice (some ⟨g, 0, none⟩) n c) q l left down) {k : Nat} (hk : k < l.length) (j : Nat) (hj : j < 4) (u : Value) {p : RFile}
    (hx : ∀ x, w.rangeAt g (k * 4) (encF x) → RrIs (Pof Q w.heap.size t (.slice (some ⟨g, 0, none⟩) n c)) w x l[k] → ∃ x', encF x' = (encF x).set j u ∧ RrIs (Pof Q w.heap.size t (.slice (some ⟨g, 0, none⟩) n c)) w x' p) :
    RefR Q (w.setCell ⟨g, k * 4 + j, none⟩ u) t (.slice (some ⟨g, 0, none⟩) n c) q (l.set k p) left down ∧ FrQ Q w (w.setCell ⟨g, k * 4 + j, none⟩ u) ∧ w.frozen? ⟨g, k * 4 + j, none⟩ = false := by
  obtain ⟨g2, c2, x, hv, -, hr, hx0⟩ := h.place hk
  injection hv with e1 e2 e3
  injection e1 with e1
  injection e1 with e1
  subst e1
  obtain ⟨L, h1, h2⟩ := h.row
  have hg := h.own g rfl
  have hkL : k < L.length := by rw [h2.length]; exact hk
  have hnL : n = L.length := by rw [e2, h2.length]
  have hLk : w.rangeAt g (k * 4) (encF L[k]) := by
    obtain ⟨a, c', e, hrs, -⟩ := row_rs L h1
    injection e with ea
    subst ea
    rcases hrs.cells with rfl | ⟨b, o, e, hc2⟩
    · exact absurd hkL (Nat.not_lt_zero _)
    · injection e with e
      injection e with e1 e2
      subst e1 e2
      have := hc2 k hkL
      rw [Nat.zero_add, getElem!_pos L k hkL] at this
      exact this
  obtain ⟨x', ex, hx'⟩ := hx L[k] hLk (h2.at hkL hk)
  subst hnL
  have hoth : ∀ i, i ≠ g → (w.setCell ⟨g, k * 4 + j, none⟩ u).heap[i]? = w.heap[i]? := fun i hi => Below.heap_setCell _ _ _ _ hi
  have hsz : (w.setCell ⟨g, k * 4 + j, none⟩ u).heap.size = w.heap.size := by simp [World.setCell]
  have hfl := tyF.flat_len L
  have hmul : k * 4 + 4 ≤ L.length * 4 := by have := Nat.mul_le_mul_right 4 (show k + 1 ≤ L.length from hkL); omega
  have hset : flatR encF (L.set k x') = (flatR encF L).set (k * 4 + j) u := by
    have hself := tyF.flat_set L[k] L k hkL
    rw [List.set_getElem_self] at hself
    rw [tyF.flat_set x' L k hkL, ex]
    conv => rhs; rw [hself]
    have ht : ((flatR encF L).take (k * 4)).length = k * 4 := by rw [List.length_take]; omega
    rw [List.append_assoc, List.append_assoc, List.set_append_right _ _ (by omega), ht, show k * 4 + j - k * 4 = j by omega, List.set_append_left _ _ (by show j < 4; exact hj)]
  refine ⟨⟨h.tq, (hoth t (fun e => hg.2 e.symm)).trans h.blk, ⟨L.set k x', ?_, ?_⟩, h.own⟩, ⟨rfl, rfl, rfl, by rw [hsz]; exact Nat.le_refl _, fun i hi => ⟨hi.1, hoth i fun e => hi.2 (e ▸ hg.1)⟩⟩, h1.frozenAt _⟩
  · rw [List.length_set, hset]
    exact (World.ownsRow.stored h1 _ _).1
  · exact (h2.set k hx').imp fun _ _ hc => hc.keep fun i hp => ⟨⟨hp.1, by rw [hsz]; exact hp.2.1, hp.2.2⟩, hoth i fun e => hp.2.2.2 (by rw [e]; rfl)⟩
end
end Go.Proofs.YthjjdcfkdmhmlaaDoor
namespace Go.Proofs.YthjjdcfkdmhmlaaDoor
open Go.RowKit Go.Mix Go.WideMaps

set_option maxRecDepth 100000 in
set_option maxHeartbeats 8000000 in
theorem rfCrash_any {Q : Nat → Prop} {w : World} {t Z : Nat} {v : Value} {S : StP} (h : RefAt Q w t v S.quota S.files (leftS S) S.down) (hQ : ∀ k, w.heap.size ≤ k → Q k) (ok : OkS Z S) (hZ : Z ≤ 100000)
    {a : ActA} (hkd : a.kind = 6) {K : List Int} (hkn : a.kn = K.length) (hkl : K.length ≤ 20) (hks : RsAt encI 1 w a.ka a.kc K) (hkt : K ≠ [] → ∀ y, a.ka = some y → y.block < w.heap.size ∧ ¬ Q y.block) :
    Calls Tryd.prog 21 #[ptr t, .agg (recA encA a)] w fun e w' => e = .returned (.int .i64 0) ∧ ∃ v', RefAt Q w' t v' S.quota (crashS S K).files (leftS (crashS S K)) (crashS S K).down ∧ FrQ Q w w' := by
  obtain ⟨w1, hw1⟩ : ∃ w1, w1 = w.alloc (.cells (recA encA a) 49) := ⟨_, rfl⟩
  have hb1 : Below w.heap.size w w1 := by rw [hw1]; exact (Below.refl _ _).alloc (Nat.le_refl _) _
  have hbk : w1.heap[w.heap.size]? = some (.cells (recA encA a) 49 (0, 0)) := by rw [hw1]; exact heap_alloc_last _ _ _ rfl
  obtain ⟨k0, -, -, -, -, k5⟩ := act_cells (x := a) (w := w1) (b := w.heap.size) (q := 0) (recBox hbk)
  rw [hkd] at k0
  obtain ⟨nk, hnk⟩ : ∃ nk, nk = a.kn := ⟨_, rfl⟩
  obtain ⟨ka, hka⟩ : ∃ ka, ka = a.ka := ⟨_, rfl⟩
  obtain ⟨kc, hkc⟩ : ∃ kc, kc = a.kc := ⟨_, rfl⟩
  rw [← hnk, ← hka, ← hkc] at k5
  rw [← hnk] at hkn
  rw [← hka, ← hkc] at hks
  rw [← hka] at hkt
  obtain ⟨G, hG⟩ : ∃ G, G = w.heap.size := ⟨_, rfl⟩
  have hsz1 : w1.heap.size = G + 1 := by rw [hw1, hG]; simp
  obtain ⟨Q', hQ'⟩ : ∃ Q' : Nat → Prop, Q' = fun j => Q j ∧ j ≠ G := ⟨_, rfl⟩
  have hr : RefR Q' w1 t v S.quota (S.files.map refF) (leftS S) S.down := (h.keep (Q' := Q') hb1.size fun j hq hj => ⟨by rw [hQ']; exact ⟨hq, by omega⟩, hb1.block j hj⟩).raw
  have hbackQ : ∀ j, Q' j → Q j := fun j hj => by rw [hQ'] at hj; exact hj.1
  have hnotG : ¬ Q' G := fun hj => by rw [hQ'] at hj; exact hj.2 rfl
  have hKQ : K ≠ [] → ∀ y, ka = some y → y.block < w1.heap.size ∧ ¬ Q' y.block := fun hne y hy => ⟨Nat.lt_of_lt_of_le (hkt hne y hy).1 hb1.size, fun hj => (hkt hne y hy).2 (hbackQ _ hj)⟩
  rw [← hG] at k0 k5
  obtain ⟨n, hn⟩ : ∃ n, n = S.files.length := ⟨_, rfl⟩
  have hn6 : n ≤ 10000 := by rw [hn]; exact ok.few
  have H0 := Lib.hid (And.intro hb1 (And.intro hr (And.intro hbackQ (And.intro hnotG (And.intro hKQ (And.intro (hks.below hb1) (And.intro hkn (And.intro ok (And.intro hn (And.intro h.tq (And.intro hQ hZ)))))))))))
  have hnk20 : nk ≤ 20 := by omega
  have HSZ := Lib.hid hsz1
  have HKC := Lib.hid (And.intro k0 k5)
  clear h hQ ok hZ hkd hkn hkl hks hkt hb1 hbk hnk hka hkc hQ' hr hbackQ hnotG hKQ hn k5 hsz1
  unfold ptr at *
  go_enter Tryd.func21, Tryd.ntmps21
  go_upto_region 1 with (fail)
  rw [← hw1, ← hG]
  have HG := Lib.hid hG
  clear hw1 hG
  go_wp2_with fail
  clear k0
  go_loopw [5] (fun s5 wr => ∃ i : Nat, s5 = .int .i64 (i : Int) ∧ i ≤ n ∧ RefR Q' wr t v S.quota ((crashM K 0 i S.files).map refF) (leftS S) S.down ∧ FrQ Q' w1 wr) (fun s5 _ => n - (intOf s5).toNat)
  case atStart => exact ⟨0, rfl, Nat.zero_le _, by rw [crashM_none K S.files 0 0 (Nat.le_refl _)]; exact H0.out.2.1, FrQ.of (Below.refl _ _)⟩
  case round =>
    obtain ⟨i, rfl, hi, hrr, hfr⟩ := hrel
    have hln : ((crashM K 0 i S.files).map refF).length = n := by rw [List.length_map, crashM_length, ← H0.out.2.2.2.2.2.2.2.2.1]
    have hcG := (World.cell?_of_block (a := ⟨G, 5, none⟩) (hfr.keep G ⟨by rw [HSZ.out]; omega, H0.out.2.2.2.1⟩).2).trans HKC.out.2
    have hks : RsAt encI 1 wr ka kc K := by
      by_cases hne : K = []
      · have := H0.out.2.2.2.2.2.1
        rw [hne] at this ⊢
        exact ⟨this.le, this.big, this.non, .inl rfl⟩
      · exact rs_same H0.out.2.2.2.2.2.1 fun y hy => (hfr.keep _ (H0.out.2.2.2.2.1 hne y hy)).2
    have c1 := hrr.cell1
    have HR := Lib.hid (And.intro hrr (And.intro hfr (And.intro hln hks)))
    by_cases hin : i < n
    · have t1 : decide ((i : Int) < (n : Int)) = true := decide_eq_true (by omega)
      have t1' : decide (i < n) = true := decide_eq_true hin
      have hil : i < ((crashM K 0 i S.files).map refF).length := by rw [hln]; exact hin
      have hif : i < S.files.length := by rw [← H0.out.2.2.2.2.2.2.2.2.1]; exact hin
      obtain ⟨g, c, x, rfl, IX, R, hx⟩ := hrr.place hil
      rw [hln] at IX c1
      have hcur : ((crashM K 0 i S.files).map refF)[i] = refF S.files[i] := by
        rw [List.getElem_map]
        congr 1
        have := crashM_at K S.files 0 i i (by omega)
        rw [List.getElem?_eq_getElem (by rw [crashM_length]; exact hif), List.getElem?_eq_getElem hif] at this
        exact Option.some.inj this
      rw [hcur] at hx
      obtain ⟨-, f1, f2, f3⟩ := rf_cells R
      obtain ⟨M, hM1, hM2, hM3⟩ := hx.since.ex
      have hMl : M.length = S.files[i].2.since.length := by rw [hM3.length]; exact sinceL_len _
      have hok := H0.out.2.2.2.2.2.2.2.1.ok _ (List.getElem_mem hif)
      obtain ⟨n3, hn3⟩ : ∃ n3, n3 = M.length := ⟨_, rfl⟩
      have hn3z : n3 ≤ 100000 := by rw [hn3, hMl]; have := hok.2.2.2.2; have := H0.out.2.2.2.2.2.2.2.2.2.2.2; omega
      rw [← hn3] at hM1
      unfold rowV at f1 f2 f3
      rw [hM1] at f3
      obtain ⟨kk, hkk⟩ : ∃ kk, kk = keepK K i S.files[i].2 := ⟨_, rfl⟩
      obtain ⟨p, hp⟩ : ∃ p, p = S.files[i] := ⟨_, rfl⟩
      rw [← hp] at hx hM3 hMl hkk hcur
      have HPP := Lib.hid (And.intro hp hcur)
      have HX := Lib.hid (And.intro hx (And.intro hM2 (And.intro hM3 (And.intro hMl (And.intro hn3 (And.intro hkk (And.intro hif hil)))))))
      clear hp hrr hfr hcur R hx hM1 hM2 hM3 hMl hok hn3 hkk
      obtain ⟨BK, hBK⟩ : ∃ BK, BK = (decide (i < nk) && decide (0 < K[i]!)) := ⟨_, rfl⟩
      have HBK := Lib.hid hBK
      clear hBK
      have e47 : wr.cell? ⟨G, 5, none⟩ = some (.slice ka nk kc) := hcG
      clear hcG
      go_upto_region 14 with (fail)
      go_cut [54] from 42 to 54 (fun s54 wx => s54 = .bool BK ∧ wr = wx)
      case first =>
        by_cases hink : i < nk
        · have t2 : decide ((i : Int) < (nk : Int)) = true := decide_eq_true (by omega)
          have t2' : decide (i < nk) = true := decide_eq_true hink
          obtain ⟨b9, q9, IK, RK, -⟩ := HR.out.2.2.2.at1 tyI (i : Int) i rfl (by rw [← H0.out.2.2.2.2.2.2.1]; exact hink)
          rw [← H0.out.2.2.2.2.2.2.1] at IK
          have ck : wr.cell? ⟨b9, q9, none⟩ = some (.int .i64 K[i]!) := RK 0 _ rfl
          have hb : BK = decide (0 < K[i]!) := by rw [HBK.out, decide_eq_true hink, Bool.true_and]
          obtain ⟨ki, hki⟩ : ∃ ki, ki = K[i]! := ⟨_, rfl⟩
          rw [← hki] at ck hb
          have hb2 := hb.symm
          clear hki hb RK
          go_wp2_with fail
          go_meet
          exact ⟨rfl, rfl⟩
        · have t2 : decide ((i : Int) < (nk : Int)) = false := decide_eq_false (by omega)
          have t2' : decide (i < nk) = false := decide_eq_false hink
          have hb : BK = false := by rw [HBK.out, decide_eq_false hink, Bool.false_and]
          subst hb
          go_wp2_with fail
          go_meet
          exact ⟨rfl, rfl⟩
      case rest =>
        obtain ⟨rfl, rfl⟩ := hcut
        obtain ⟨kz, hkz⟩ : ∃ kz : Int, kz = if BK then K[i]! else 0 := ⟨_, rfl⟩
        have HKZ := Lib.hid hkz
        clear hkz
        go_upto_if 54 with (fail)
        go_cut [6] from 55 to 59 (fun s6 wx => s6 = .int .i64 kz ∧ wr = wx)
        case first =>
          cases BK
          case false =>
            have hz : kz = 0 := HKZ.out
            subst hz
            go_wp2_with fail
            go_meet
            exact ⟨rfl, rfl⟩
          case true =>
            have hb := HBK.out
            have hink : i < nk := by
              by_cases h : i < nk
              · exact h
              · rw [decide_eq_false h, Bool.false_and] at hb; cases hb
            have hz : kz = K[i]! := HKZ.out
            obtain ⟨b9, q9, IK, RK, -⟩ := HR.out.2.2.2.at1 tyI (i : Int) i rfl (by rw [← H0.out.2.2.2.2.2.2.1]; exact hink)
            rw [← H0.out.2.2.2.2.2.2.1] at IK
            have ck : wr.cell? ⟨b9, q9, none⟩ = some (.int .i64 K[i]!) := RK 0 _ rfl
            rw [← hz] at ck
            clear hz hb RK hink
            go_wp2_with fail
            go_meet
            exact ⟨rfl, rfl⟩
        case rest =>
          obtain ⟨rfl, rfl⟩ := hcut
          have hkk : (kk : Int) = if (n3 : Int) < kz then (n3 : Int) else kz := by
            rw [HX.out.2.2.2.2.2.1, HKZ.out]
            unfold keepK
            have h1 := HX.out.2.2.2.1
            have h2 := HX.out.2.2.2.2.1
            have h3 := H0.out.2.2.2.2.2.2.1
            have h4 := HBK.out
            rw [← h3]
            by_cases hink : i < nk
            · rw [if_pos hink]
              rw [decide_eq_true hink, Bool.true_and] at h4
              by_cases hp : 0 < K[i]!
              · rw [decide_eq_true hp] at h4
                rw [h4]
                simp only [if_true]
                split <;> omega
              · rw [decide_eq_false hp] at h4
                rw [h4]
                rw [if_neg (show ¬ (n3 : Int) < (if false = true then K[i]! else 0) by simp)]
                show ((min (max K[i]! 0).toNat _ : Nat) : Int) = 0
                have : (max K[i]! 0).toNat = 0 := by omega
                rw [this]
                simp
            · rw [if_neg hink]
              rw [decide_eq_false hink, Bool.false_and] at h4
              rw [h4]
              rw [if_neg (show ¬ (n3 : Int) < (if false = true then K[i]! else 0) by simp)]
              rfl
          have HKK := Lib.hid hkk
          have hkz0 : 0 ≤ kz := by
            rw [HKZ.out]
            have h4 := HBK.out
            cases BK
            · simp
            · simp only [if_true]
              have : decide (0 < K[i]!) = true := by rw [Bool.eq_iff_iff] at h4; have := h4.1 rfl; rw [Bool.and_eq_true] at this; exact this.2
              exact Int.le_of_lt (of_decide_eq_true this)
          have HKZ0 := Lib.hid hkz0
          clear hkk hkz0
          obtain ⟨B2, hB2⟩ : ∃ B2, B2 = decide ((n3 : Int) < kz) := ⟨_, rfl⟩
          have tB2 := hB2.symm
          have HB2 := Lib.hid hB2
          clear hB2
          go_upto_if 71 with (fail)
          clear tB2
          go_cut [6] from 72 to 72 (fun s6 wx => s6 = .int .i64 (kk : Int) ∧ wr = wx)
          case first =>
            have hk := HKK.out
            cases B2
            case false =>
              rw [if_neg (of_decide_eq_false HB2.out.symm)] at hk
              subst hk
              go_wp2_with fail
              go_meet
              exact ⟨rfl, rfl⟩
            case true =>
              rw [if_pos (of_decide_eq_true HB2.out.symm)] at hk
              have hk2 : kk = n3 := by omega
              subst hk2
              clear hk
              go_wp2_with fail
              go_meet
              exact ⟨rfl, rfl⟩
          case rest =>
            obtain ⟨rfl, rfl⟩ := hcut
            have hkn3 : kk ≤ n3 := by have := HKK.out; split at this <;> omega
            obtain ⟨kp, hkp⟩ : ∃ kp, kp = runs p.2.kept (p.2.since.take kk) := ⟨_, rfl⟩
            have HKP := Lib.hid hkp
            obtain ⟨B3, hB3⟩ : ∃ B3, B3 = decide (0 < kk) := ⟨_, rfl⟩
            have tB3 : decide ((0 : Int) < (kk : Int)) = B3 := by rw [hB3, Bool.eq_iff_iff, decide_eq_true_eq, decide_eq_true_eq]; omega
            have tB3' := hB3.symm
            have HB3 := Lib.hid hB3
            clear hkp hB3
            go_upto_if 74 with (fail)
            clear tB3 tB3'
            go_cut [] from 75 to 93 (fun wx => RefR Q' wx t (.slice (some ⟨g, 0, none⟩) ((crashM K 0 i S.files).map refF).length c) S.quota (((crashM K 0 i S.files).map refF).set i { refF p with kept := kp }) (leftS S) S.down ∧ FrQ Q' wr wx)
            case first =>
              cases B3
              case false =>
                go_wp2_with fail
                go_meet
                have hk0 : kk = 0 := by have := of_decide_eq_false HB3.out.symm; omega
                have e : ({ refF p with kept := kp } : RFile) = ((crashM K 0 i S.files).map refF)[i]'HX.out.2.2.2.2.2.2.2 := by
                  rw [HPP.out.2, HKP.out, hk0]
                  rfl
                rw [e, List.set_getElem_self]
                exact ⟨HR.out.1, FrQ.refl _ _⟩
              case true =>
                have hk0 : 0 < kk := of_decide_eq_true HB3.out.symm
                obtain ⟨b7, q7, IS, RS, -⟩ := HX.out.2.1.at1 tyR ((kk : Int) - 1) (kk - 1) (by omega) (by rw [← HX.out.2.2.2.2.1]; omega)
                rw [← HX.out.2.2.2.2.1] at IS
                have cs : wr.cell? ⟨b7, q7, none⟩ = some (rowV M[kk - 1]!) := RS 0 _ rfl
                have hkl : kk - 1 < M.length := by rw [← HX.out.2.2.2.2.1]; omega
                have hbs := HX.out.2.2.1.at hkl (by rw [← HX.out.2.2.1.length]; exact hkl)
                have hsl : kk - 1 < (sinceL p.2).length := by have := HX.out.2.2.1.length; rw [show (sinceL p.2).length = (refF p).since.length from rfl, ← this]; exact hkl
                have hcont : (sinceL p.2)[kk - 1]'hsl = kp := by
                  have := sinceL_at p.2 (j := kk - 1) hsl
                  rw [getElem!_pos (sinceL p.2) (kk - 1) hsl] at this
                  rw [this, HKP.out, show kk - 1 + 1 = kk by omega]
                change BsAt _ wr _ ((sinceL p.2)[kk - 1]'hsl) at hbs
                rw [hcont] at hbs
                have er : M[kk - 1]! = M[kk - 1] := getElem!_pos M _ hkl
                rw [← er] at hbs
                have hrn := hbs.n
                generalize M[kk - 1]! = r7 at *
                obtain ⟨ra, rn, rc⟩ := r7
                unfold rowV at cs
                have w7 : IntKind.i64.wrap ((kk : Int) - 1) = (kk : Int) - 1 := IntWalk.i64_in _ (by omega)
                have w8 : wrap64 ((kk : Int) - 1) = (kk : Int) - 1 := IntWalk.wrap64_in _ ⟨by omega, by omega⟩
                have K1 : ∀ y : Later wr, y.1.cell? ⟨t, 1, none⟩ = some (.slice (some ⟨g, 0, none⟩) n c) := fun y => load_later c1 y
                have K2 : ∀ y : Later wr, y.1.cell? ⟨g, i * 4 + 3, none⟩ = some (.slice x.since.a n3 x.since.c) := fun y => load_later f3 y
                have K3 : ∀ y : Later wr, y.1.cell? ⟨b7, q7, none⟩ = some (.slice ra rn rc) := fun y => load_later cs y
                have HBS := Lib.hid hbs
                have HF2 := Lib.hid f2
                clear hbs hcont er RS cs hkl hrn f1 f2 f3 c1 e47
                go_upto_region 20 with (fail)
                refine wp_region_mg [(0, 0), (1, 0), (2, 0), (3, 0), (4, 0), (5, 0), (6, 0), (7, 0), (8, 0), (9, 0), (10, 0), (11, 0), (12, 0), (13, 0), (14, 0), (15, 0), (16, 0), (17, 0), (18, 0), (19, 2)] (by kernel_rfl) (by kernel_rfl) ?_
                iterate 19 (refine mg_calm rfl (fun K hK => ?_); go_simp; (refine hK _ ?_; clear hK K))
                clear K1 K2 K3 IX IS w7 w8
                refine mg_sync rfl rfl (fun w10 hw10 K7 hK7 => ?_)
                have hs := (HR.out.1.below hw10).setField HX.out.2.2.2.2.2.2.2 2 (by decide) (.slice ra rn rc) (p := { refF p with kept := kp }) (fun x9 _ hx9 => by
                  rw [HPP.out.2] at hx9
                  exact ⟨{ x9 with kept := ⟨ra, rn, rc⟩ }, rfl, hx9.path, hx9.now, HBS.out.keep fun j hp => ⟨⟨hp.1, Nat.lt_of_lt_of_le hp.2.1 hw10.size, hp.2.2⟩, hw10.block j hp.2.1⟩, hx9.since⟩)
                have F2 := hs.2.2
                have c10 := (hw10.cell (lt_of_cell HF2.out)).trans HF2.out
                have HS := Lib.hid (And.intro hs.1 ((FrQ.of hw10).trans hs.2.1))
                clear hs hw10
                go_wp2_with fail
                refine mg_nil fun w12 hw12 => ?_
                have H12 := Lib.hid (And.intro (HS.out.1.below hw12) (HS.out.2.trans (FrQ.of hw12)))
                clear hw12 F2 c10
                go_wp2_with fail
                go_meet
                exact ⟨H12.out.1, H12.out.2⟩
            case rest =>
              obtain ⟨hr5, hf5⟩ := hcut
              have hil5 : i < (((crashM K 0 i S.files).map refF).set i { refF p with kept := kp }).length := by rw [List.length_set]; exact HX.out.2.2.2.2.2.2.2
              obtain ⟨g5, cc5, x5, hv5, IX5, R5, hx5⟩ := hr5.place hil5
              injection hv5 with e1 e2 e3
              injection e1 with e1
              injection e1 with e1
              subst e1 e3
              rw [List.length_set, HR.out.2.2.1] at IX5
              rw [List.getElem_set_self] at hx5
              obtain ⟨-, f1, f2, f3⟩ := rf_cells R5
              have c5 := hr5.cell1
              rw [HR.out.2.2.1] at c5
              unfold rowV at f1 f2 f3
              have K1 : ∀ y : Later wc, y.1.cell? ⟨t, 1, none⟩ = some (.slice (some ⟨g, 0, none⟩) n c) := fun y => load_later c5 y
              have K2 : ∀ y : Later wc, y.1.cell? ⟨g, i * 4 + 2, none⟩ = some (.slice x5.kept.a x5.kept.n x5.kept.c) := fun y => load_later f2 y
              have H5 := Lib.hid (And.intro hr5 (And.intro hf5 (And.intro hx5 hil5)))
              have HF1 := Lib.hid f1
              clear hr5 hf5 hx5 hil5 R5 f1 f2 f3 c5 e2 c1 e47
              go_upto_region 21 with (fail)
              refine wp_region_mg [(0, 0), (1, 0), (2, 0), (3, 0), (4, 0), (5, 0), (6, 0), (7, 0), (8, 0), (9, 0), (10, 0), (11, 0), (12, 0), (13, 0), (14, 0), (15, 2)] (by kernel_rfl) (by kernel_rfl) ?_
              iterate 15 (refine mg_calm rfl (fun K hK => ?_); go_simp; (refine hK _ ?_; clear hK K))
              clear K1 K2 IX
              refine mg_sync rfl rfl (fun w10 hw10 K7 hK7 => ?_)
              have hs := (H5.out.1.below hw10).setField H5.out.2.2.2 1 (by decide) (.slice x5.kept.a x5.kept.n x5.kept.c) (p := { refF p with kept := kp, now := kp }) (fun x9 _ hx9 => by
                rw [List.getElem_set_self] at hx9
                exact ⟨{ x9 with now := x5.kept }, rfl, hx9.path, H5.out.2.2.1.kept.keep fun j hp => ⟨⟨hp.1, Nat.lt_of_lt_of_le hp.2.1 hw10.size, hp.2.2⟩, hw10.block j hp.2.1⟩, hx9.kept, hx9.since⟩)
              have F1 := hs.2.2
              have c10 := (hw10.cell (lt_of_cell HF1.out)).trans HF1.out
              rw [List.set_set] at hs
              have HS := Lib.hid (And.intro hs.1 ((FrQ.of hw10).trans hs.2.1))
              clear hs hw10
              go_wp2_with fail
              refine mg_nil fun w12 hw12 => ?_
              have H12 := Lib.hid (And.intro (HS.out.1.below hw12) (HS.out.2.trans (FrQ.of hw12)))
              clear hw12 F1 c10
              have hil6 : i < (((crashM K 0 i S.files).map refF).set i { refF p with kept := kp, now := kp }).length := by rw [List.length_set]; exact HX.out.2.2.2.2.2.2.2
              obtain ⟨g6, cc6, x6, hv6, IX6, R6, hx6⟩ := H12.out.1.place hil6
              injection hv6 with e1 e2 e3
              injection e1 with e1
              injection e1 with e1
              subst e1 e3
              rw [List.length_set, HR.out.2.2.1] at IX6
              obtain ⟨-, -, -, f3⟩ := rf_cells R6
              have c6 := H12.out.1.cell1
              rw [HR.out.2.2.1] at c6
              unfold rowV at f3
              have hs3 := H12.out.1.setField hil6 3 (by decide) (.slice none 0 0) (p := ⟨p.1, kp, kp, []⟩) (fun x9 _ hx9 => by
                rw [List.getElem_set_self] at hx9
                exact ⟨{ x9 with since := ⟨none, 0, 0⟩ }, rfl, hx9.path, hx9.now, hx9.kept, SnAt.nil _ _⟩)
              rw [List.set_set] at hs3
              have F3 := hs3.2.2
              have HS3 := Lib.hid (And.intro hs3.1 hs3.2.1)
              clear hs3 hx6 R6 hil6 e2 IX5
              go_wp2_with fail
              go_roundw
              case rel =>
                refine ⟨i + 1, by go_num, by omega, ?_, (HR.out.2.1.trans H5.out.2.1).trans (H12.out.2.trans HS3.out.2)⟩
                have hstep := crashM_step K S.files 0 i p (by rw [List.getElem?_eq_getElem HX.out.2.2.2.2.2.2.1]; exact congrArg some HPP.out.1.symm)
                simp only [Nat.zero_add] at hstep
                rw [hstep, List.map_set]
                have e : refF (p.1, crashF p.2 (keepK K i p.2)) = ⟨p.1, kp, kp, []⟩ := by
                  rw [HKP.out, HX.out.2.2.2.2.2.1]
                  rfl
                rw [e]
                exact HS3.out.1
              case measure => simp [intOf]; omega
    · obtain rfl : i = n := by omega
      have t1 : decide ((i : Int) < (i : Int)) = false := decide_eq_false (by omega)
      have t1' : decide (i < i) = false := decide_eq_false (by omega)
      have hca : crashM K 0 i S.files = crashL K 0 S.files := crashM_all K S.files 0 i (by rw [H0.out.2.2.2.2.2.2.2.2.1]; omega)
      rw [hca] at hrr
      have hra := hrr.cook
      obtain ⟨L9, ra, rc, rfl, -, -, -⟩ := hra.rs
      rw [crashL_length, ← H0.out.2.2.2.2.2.2.2.2.1] at hra c1
      obtain ⟨-, -, c2, c3⟩ := hra.cells
      have F2 := free_blk hra.blk 2
      have HRA := Lib.hid (And.intro hra hfr)
      clear hrr hra hfr hca hks hcG
      go_upto_region 24 with (fail)
      have h3 := HRA.out.1.setRoot (-1) S.down 2 (.int .i64 (-1)) rfl
      have H3 := Lib.hid h3
      clear F2 c1 c2 c3 h3 t1 t1'
      generalize wr.setCell ⟨t, 2, none⟩ (.int .i64 (-1)) = w3 at *
      obtain ⟨-, -, c2, c3⟩ := H3.out.1.cells
      have F3 := free_blk H3.out.1.blk 3
      go_upto_region 25 with (fail)
      have h4 := H3.out.1.setRoot (-1) false 3 (.bool false) rfl
      have H4 := Lib.hid h4
      clear F3 c2 c3 h4
      generalize w3.setCell ⟨t, 3, none⟩ (.bool false) = w4 at *
      go_wp2_with fail
      go_ret
      have hfin : RefAt Q w4 t (.slice ra i rc) S.quota (crashS S K).files (leftS (crashS S K)) (crashS S K).down := H4.out.1.keep (Nat.le_refl _) fun j hq _ => ⟨H0.out.2.2.1 j hq, rfl⟩
      exact ⟨rfl, _, hfin, (((FrQ.of H0.out.1).trans (HRA.out.2.mono H0.out.2.2.1)).trans (FrQ.but H3.out.2 H0.out.2.2.2.2.2.2.2.2.2.1)).trans (FrQ.but H4.out.2 H0.out.2.2.2.2.2.2.2.2.2.1)⟩
end Go.Proofs.YthjjdcfkdmhmlaaDoor
