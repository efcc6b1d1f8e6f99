/-
  A region's walk in an order of our choice that forks: where two loud operations may come up, each is taken first, by itself.
  The document's change: the walks, a kind each. (Printed by gen/gen_rfchange.py.)
-/
import Derived.Test.YthjjdcfkdmhmlaaDoorMixG
import Derived.Test.YthjjdcfkdmhmlaaDoorRf1
import Derived.Test.YthjjdcfkdmhmlaaDoorActDo
import Derived.Deep.CutRange
namespace Go.Mix
open Go.RowKit

/-- An order that forks. -/
inductive FT where
  | nil
  | one (i k : Nat) (r : FT)
  | two (i n : Nat) (r q : FT)
def FT.run : List (Nat × Nat) → FT → FT
  | [], T => T
  | (i, k) :: r, T => .one i k (FT.run r T)
def FT.len : FT → Nat
  | .nil => 0
  | .one _ _ r => r.len + 1
  | .two _ _ r _ => r.len + 1

section
variable {P : Program} {ops : Array Oper} {md : Region.Mode} {Q : Act → World → Prop}

/-- sy: the sync ones. -/
def FT.good (md : Region.Mode) (ops : Array Oper) (sy : List Nat) : FT → Array Bool → Bool
  | .nil, listed => (Region.ready md ops listed).isEmpty
  | .one i 0 r, listed => (Region.ready md ops listed).contains i && Region.free md ops listed i && (sy.all fun j => j == i || listed.getD j false || ancB md ops ops.size i j) && FT.good md ops sy r (listed.setIfInBounds i true)
  | .one i 1 r, listed => (Region.ready md ops listed == [i]) && FT.good md ops sy r (listed.setIfInBounds i true)
  | .one i 2 r, listed => (Region.ready md ops listed == [i]) && sy.contains i && FT.good md ops sy r (listed.setIfInBounds i true)
  | .one i _ r, listed => (Region.ready md ops listed).contains i && Region.free md ops listed i && FT.good md ops sy r (listed.setIfInBounds i true)
  | .two i n r q, listed => (Region.ready md ops listed == [i, n]) && (r.len == q.len) && FT.good md ops sy r (listed.setIfInBounds i true) && FT.good md ops sy q (listed.setIfInBounds n true)

def wpFT (P : Program) (ops : Array Oper) (Q : Act → World → Prop) : FT → Act → World → Prop
  | .nil, a, w => ∀ w', Grow w w' → Q a w'
  | .one i 0 r, a, w => match ops[i]? with
    | none => False
    | some o => calmStep P ops o (fun a' => wpFT P ops Q r a' w) a w
  | .one i 1 r, a, w => match ops[i]? with
    | none => False
    | some o => loudStep P ops false o (wpFT P ops Q r) a w
  | .one i 2 r, a, w => match ops[i]? with
    | none => False
    | some o => loudStep P ops true o (wpFT P ops Q r) a w
  | .one i _ r, a, w => match ops[i]? with
    | none => False
    | some o => pureStep P ops o (fun a' => wpFT P ops Q r a' w) a
  | .two i n r q, a, w => match ops[i]?, ops[n]? with
    | some oi, some on => loudStep P ops false oi (wpFT P ops Q r) a w ∧ loudStep P ops false on (wpFT P ops Q q) a w
    | _, _ => False

def syL (sy : List Nat) (i : Nat) : Bool := sy.contains i

theorem anyG_of_ft (hs : Region.noSelect ops = true) (sy : List Nat) : ∀ (T : FT) (listed : Array Bool) (a : Act) (w : World), Closed md ops listed → T.good md ops sy listed = true → wpFT P ops Q T a w →
    anyG P md ops (syL sy) Q T.len listed a w
  | .nil, listed, a, w, _, hB, h => fun w' hw' => ⟨by simpa [FT.good] using hB, h w' hw'⟩
  | .one i 0 r, listed, a, w, hcl, hB, h => by
    simp only [FT.good, Bool.and_eq_true] at hB
    obtain ⟨⟨⟨hr, hf⟩, hanc⟩, hB'⟩ := hB
    have hri : i ∈ Region.ready md ops listed := by simpa using hr
    have hanc' : ∀ j, j ≠ i → syL sy j = true → listed.getD j false = true ∨ ∃ f, ancB md ops f i j = true := fun j hji hj => by
      have h2 := List.all_eq_true.1 hanc j (by simpa [syL] using hj)
      simp only [Bool.or_eq_true, beq_iff_eq] at h2
      rcases h2 with (h2 | h2) | h2
      · exact absurd h2 hji
      · exact .inl h2
      · exact .inr ⟨_, h2⟩
    simp only [wpFT] at h
    split at h
    · exact h.elim
    · rename_i o ho
      unfold calmStep at h
      by_cases hw : Region.wanted o (yielded ops a.tmps) = true
      · simp only [hw, if_true] at h
        obtain ⟨v, h1, h2⟩ := h
        exact anyG_first ho (Region.noSelect_spec hs) r.len listed a w (Region.free_spec ho hf) hcl hanc' hri (.inl ⟨hw, fun w' hw' => h1 ⟨w', hw'⟩⟩) (anyG_of_ft hs sy r _ _ _ (hcl.set hri) hB' h2)
      · simp only [hw] at h
        exact anyG_first ho (Region.noSelect_spec hs) r.len listed a w (Region.free_spec ho hf) hcl hanc' hri (.inr ⟨by simpa using hw, rfl⟩) (anyG_of_ft hs sy r _ _ _ (hcl.set hri) hB' h)
  | .one i 1 r, listed, a, w, hcl, hB, h => by
    simp only [FT.good, Bool.and_eq_true, beq_iff_eq] at hB
    obtain ⟨hr, hB'⟩ := hB
    have hri : i ∈ Region.ready md ops listed := by rw [hr]; simp
    simp only [wpFT] at h
    split at h
    · exact h.elim
    · rename_i o ho
      exact anyG_loud ho hr (fun a w h => anyG_of_ft hs sy r _ a w (hcl.set hri) hB' h) h
  | .one i 2 r, listed, a, w, hcl, hB, h => by
    simp only [FT.good, Bool.and_eq_true, beq_iff_eq] at hB
    obtain ⟨⟨hr, hsy⟩, hB'⟩ := hB
    have hri : i ∈ Region.ready md ops listed := by rw [hr]; simp
    have hSi : syL sy i = true := hsy
    simp only [wpFT] at h
    split at h
    · exact h.elim
    · rename_i o ho
      intro w' hw'
      refine ⟨fun e => (by rw [hr] at e; cases e), fun j hj => ?_⟩
      rw [hr] at hj
      obtain rfl : j = i := by simpa using hj
      unfold opG
      simp only [ho]
      unfold loudStep at h
      by_cases hw : Region.wanted o (yielded ops a.tmps) = true
      · simp only [hw, if_true] at h ⊢
        exact Oper.wp_mono (fun a' w'' hh => ⟨fun e => (by rw [hSi] at e; cases e), anyG_of_ft hs sy r _ _ _ (hcl.set hri) hB' hh.2⟩) (h w' hw')
      · simp only [hw] at h ⊢
        exact ⟨fun e => (by rw [hSi] at e; cases e), anyG_later (anyG_of_ft hs sy r _ _ _ (hcl.set hri) hB' h) hw'⟩
  | .one i (k + 3) r, listed, a, w, hcl, hB, h => by
    simp only [FT.good, Bool.and_eq_true] at hB
    obtain ⟨⟨hr, hf⟩, hB'⟩ := hB
    have hri : i ∈ Region.ready md ops listed := by simpa using hr
    simp only [wpFT] at h
    split at h
    · exact h.elim
    · rename_i o ho
      unfold pureStep at h
      by_cases hw : Region.wanted o (yielded ops a.tmps) = true
      · simp only [hw, if_true] at h
        obtain ⟨v, h1, h2⟩ := h
        exact anyG_pure ho (Region.noSelect_spec hs) r.len listed a w (Region.free_spec ho hf) hri (.inl ⟨hw, h1⟩) (anyG_of_ft hs sy r _ _ _ (hcl.set hri) hB' h2)
      · simp only [hw] at h
        exact anyG_pure ho (Region.noSelect_spec hs) r.len listed a w (Region.free_spec ho hf) hri (.inr ⟨by simpa using hw, rfl⟩) (anyG_of_ft hs sy r _ _ _ (hcl.set hri) hB' h)
  | .two i n r q, listed, a, w, hcl, hB, h => by
    simp only [FT.good, Bool.and_eq_true, beq_iff_eq] at hB
    obtain ⟨⟨⟨hr, hlen⟩, hB1⟩, hB2⟩ := hB
    have hri : i ∈ Region.ready md ops listed := by rw [hr]; simp
    have hrn : n ∈ Region.ready md ops listed := by rw [hr]; simp
    simp only [wpFT] at h
    split at h
    · rename_i oi on hoi hon
      refine anyG_two hoi hon hr ?_ ?_ h.1 h.2
      · exact fun a w h => anyG_of_ft hs sy r _ a w (hcl.set hri) hB1 h
      · intro a w h
        have := anyG_of_ft hs sy q _ a w (hcl.set hrn) hB2 h
        rw [← hlen] at this
        exact this
    · exact h.elim

structure FG (P : Program) (ops : Array Oper) (Q : Act → World → Prop) (T : FT) (a : Act) (w : World) : Prop where
  out : wpFT P ops Q T a w

/-- The region, in the chosen order. -/
theorem wp_region_ft {id : Nat} {Q' : Exit → Act → World → Prop} {a : Act} {w : World} {l : List Oper} (T : FT) (sy : List Nat) (hm : P.follows .mixedOrders = true)
    (hB : (Region.noSelect l.toArray && decide (T.len = l.length) && T.good .any l.toArray sy (Array.replicate l.length false)) = true)
    (h : FG P l.toArray (fun a' w' => Q' .normal a' w') T a w) : (Code.region id l.toArray true).wp P Q' a w := by
  simp only [Bool.and_eq_true, decide_eq_true_eq] at hB
  obtain ⟨⟨hs, hl⟩, hB⟩ := hB
  refine wp_region_any hm (wpAny_of_G (S := syL sy) (Q := fun a' w' => Q' .normal a' w') (fun _ _ h => h) _ _ _ _ ?_)
  have h2 := anyG_later (anyG_of_ft (md := .any) hs sy T (Array.replicate l.length false) a w (closed_start _) hB h.out) (Grow.drew w)
  rw [hl] at h2
  simpa using h2

/-! ### Its steps -/
theorem fg_nil {a : Act} {w : World} (h : ∀ w', Grow w w' → Q a w') : FG P ops Q (FT.run [] .nil) a w := ⟨h⟩
theorem fg_calm {i : Nat} {r : List (Nat × Nat)} {T : FT} {o : Oper} {a : Act} {w : World} (ho : ops[i]? = some o)
    (h : ∀ K : Act → Prop, (∀ a, FG P ops Q (FT.run r T) a w → K a) → calmStep P ops o K a w) : FG P ops Q (FT.run ((i, 0) :: r) T) a w :=
  ⟨by simp only [FT.run, wpFT, ho]; exact h _ fun _ h => h.out⟩
theorem fg_pure {i : Nat} {r : List (Nat × Nat)} {T : FT} {o : Oper} {a : Act} {w : World} (ho : ops[i]? = some o)
    (h : ∀ K : Act → Prop, (∀ a, FG P ops Q (FT.run r T) a w → K a) → pureStep P ops o K a) : FG P ops Q (FT.run ((i, 3) :: r) T) a w :=
  ⟨by simp only [FT.run, wpFT, ho]; exact h _ fun _ h => h.out⟩
theorem fg_load {i : Nat} {r : List (Nat × Nat)} {T : FT} {o : Oper} {a : Act} {w : World} (ho : ops[i]? = some o) (hw : Region.wanted o (yielded ops a.tmps) = true)
    (ty : TypeId) (x : Operand) (hop : o.op = .load ty x) (V v : Value) (hx : a.eval x = V) (hl : ∀ y : Later w, (Instr.loadAt ty V).run P y.1 = .ok v y.1)
    (h : FG P ops Q (FT.run r T) (a.put o.dst v) w) : FG P ops Q (FT.run ((i, 0) :: r) T) a w := fg_calm ho fun K hK => by
  unfold calmStep
  rw [if_pos hw]
  refine ⟨v, fun y => ?_, hK _ h⟩
  unfold calmAt execOp
  simp only [hop, hx, Sem.run_bind, Sem.run_pure, Result.andThen_ok, hl y]
  exact ⟨rfl, rfl⟩
theorem loudStep_of_list {o : Oper} {b : Bool} {a : Act} {w : World} {K : Act → World → Prop} (hw : Region.wanted o (yielded ops a.tmps) = true)
    (h : ∀ w', Grow w w' → ∀ K2 : Act → World → Prop, (∀ a' w'', (b = false → Grow w' w'') → K a' w'' → K2 a' w'') → wpList P ops (Exit.then K2 NoQ) [o] a w') : loudStep P ops b o K a w := by
  unfold loudStep
  rw [if_pos hw]
  exact fun w' hw' => wp_of_list hw (h w' hw' _ fun a' w'' h1 h2 => ⟨h1, h2⟩)
theorem fg_loud {i : Nat} {r : List (Nat × Nat)} {T : FT} {o : Oper} {a : Act} {w : World} (ho : ops[i]? = some o) (hw : Region.wanted o (yielded ops a.tmps) = true)
    (h : ∀ w', Grow w w' → ∀ K : Act → World → Prop, (∀ a' w'', Grow w' w'' → FG P ops Q (FT.run r T) a' w'' → K a' w'') → wpList P ops (Exit.then K NoQ) [o] a w') : FG P ops Q (FT.run ((i, 1) :: r) T) a w :=
  ⟨by simp only [FT.run, wpFT, ho]; exact loudStep_of_list hw fun w' hw' K hK => h w' hw' K fun a' w'' g h => hK a' w'' (fun _ => g) h.out⟩
theorem fg_sync {i : Nat} {r : List (Nat × Nat)} {T : FT} {o : Oper} {a : Act} {w : World} (ho : ops[i]? = some o) (hw : Region.wanted o (yielded ops a.tmps) = true)
    (h : ∀ w', Grow w w' → ∀ K : Act → World → Prop, (∀ a' w'', FG P ops Q (FT.run r T) a' w'' → K a' w'') → wpList P ops (Exit.then K NoQ) [o] a w') : FG P ops Q (FT.run ((i, 2) :: r) T) a w :=
  ⟨by simp only [FT.run, wpFT, ho]; exact loudStep_of_list hw fun w' hw' K hK => h w' hw' K fun a' w'' h => hK a' w'' (fun e => by cases e) h.out⟩
theorem fg_two {i n : Nat} {r q : FT} {oi on : Oper} {a : Act} {w : World} (hi : ops[i]? = some oi) (hn : ops[n]? = some on)
    (h1 : FG P ops Q (FT.run [(i, 1)] r) a w) (h2 : FG P ops Q (FT.run [(n, 1)] q) a w) : FG P ops Q (FT.run [] (.two i n r q)) a w := by
  obtain ⟨h1⟩ := h1
  obtain ⟨h2⟩ := h2
  simp only [FT.run, wpFT, hi, hn] at h1 h2
  exact ⟨by simp only [FT.run, wpFT, hi, hn]; exact ⟨h1, h2⟩⟩
theorem fg_buildSlice {i : Nat} {r : List (Nat × Nat)} {T : FT} {o : Oper} {a : Act} {w : World} (ho : ops[i]? = some o) (hw : Region.wanted o (yielded ops a.tmps) = true)
    (ty : TypeId) (k : Nat) (ps : Array (Nat × Operand)) (hop : o.op = .buildSlice ty k ps) (PS : List (Nat × Value)) (C : Array Value) (et : TypeId) (n c : Nat) (hx : (ps.toList.map fun p => (p.1, a.eval p.2)) = PS)
    (hl : ∀ y : World, (Instr.buildSlice ty k PS.toArray).run P y = .ok (.slice (some ⟨y.heap.size, 0, none⟩) n c) (y.alloc (.cells C et)))
    (h : ∀ g w', Grow w w' → w.heap.size ≤ g → w'.heap[g]? = some (.cells C et (0, 0)) → FG P ops Q (FT.run r T) (a.put o.dst (.slice (some ⟨g, 0, none⟩) n c)) w') : FG P ops Q (FT.run ((i, 1) :: r) T) a w := by
  refine ⟨?_⟩
  simp only [FT.run, wpFT, ho]
  unfold loudStep
  rw [if_pos hw]
  intro w' hw'
  have e : (ps.map fun (i, x) => (i, a.eval x)) = PS.toArray := Array.ext' (by rw [Array.toList_map]; exact hx)
  have g : Grow w' (w'.alloc (.cells C et)) := (Below.refl _ _).alloc (Nat.le_refl _) _
  unfold Oper.wp execOp
  simp only [hop, e, Sem.run_bind, Sem.run_pure, Result.andThen_ok, hl]
  exact ⟨fun _ => g, (h _ _ (Grow.trans hw' g) hw'.size (by show (w'.heap.push _)[w'.heap.size]? = _; simp)).out⟩
end
end Go.Mix
namespace Go.Proofs.YthjjdcfkdmhmlaaDoor
open Go.RowKit Go.Mix Go.WideMaps

set_option maxRecDepth 100000 in
set_option maxHeartbeats 8000000 in
theorem rfCut_any {Q : Nat → Prop} {w : World} {t Z : Nat} {v : Value} {S : StP} {left : Int} (h : RefAt Q w t v S.quota S.files left S.down) (hQ : ∀ k, w.heap.size ≤ k → Q k) (ok : OkS Z S) (hZ : Z ≤ 100000)
    (path dst : Bytes) (num : Int) (ba ka : Option Addr) (bn bc kn kc : Nat) (hpl : path.length ≤ 300) (hdl : dst.length ≤ 300) (hwf : -9223372036854775808 ≤ num ∧ num ≤ 9223372036854775807) :
    Calls Tryd.prog 38 #[ptr t, .agg (recA encA ⟨1, path, dst, num, ba, bn, bc, ka, kn, kc⟩)] w fun e w' => ChgLeft Q w t S left (cutS S path num) e w' := by
  obtain ⟨w1, hw1⟩ : ∃ w1, w1 = w.alloc (.cells (recA encA ⟨1, path, dst, num, ba, bn, bc, ka, kn, kc⟩) 49) := ⟨_, rfl⟩
  have hb1 : Below w.heap.size w w1 := by rw [hw1]; exact (Below.refl _ _).alloc (Nat.le_refl _) _
  obtain ⟨k0, k1, k2, k3, k4, -⟩ := act_cells (x := ⟨1, path, dst, num, ba, bn, bc, ka, kn, kc⟩) (w := w1) (b := w.heap.size) (q := 0) (by rw [hw1]; exact recBox (heap_alloc_last _ _ _ rfl))
  have h1 := h.below hb1
  have hQ1 : ∀ k, w1.heap.size ≤ k → Q k := fun k hk => hQ k (Nat.le_trans hb1.size hk)
  obtain ⟨c0, c1, c2, c3⟩ := h1.cells
  have hfew := ok.few
  have CF := rfFind_any h1 (by omega) path
  have H0 := Lib.hid (And.intro h1 (And.intro hQ1 (And.intro hb1 (And.intro ok (And.intro h.tlt (And.intro hpl hdl))))))
  clear h hQ h1 hQ1 hb1 ok hpl hdl
  dsimp only at k0 k1 k2 k3 k4
  obtain ⟨G, hG⟩ : ∃ G, G = w.heap.size := ⟨_, rfl⟩
  have HGG := Lib.hid hG
  unfold ptr at *
  go_enter Tryd.func38, Tryd.ntmps38
  go_upto_region 1 with (fail)
  rw [← hw1]
  rw [← hG] at k0 k1 k2 k3 k4 ⊢
  clear hw1 hG
  by_cases hd : S.down = true
  · rw [hd] at c3
    have HD := Lib.hid hd
    clear hd CF c0 c1 c2
    go_wp2_with fail
    go_ret
    exact ⟨by unfold cutS; rw [if_pos HD.out]; rfl, v, by unfold cutS; rw [if_pos HD.out]; exact H0.out.1, (FrameS.ofBelow H0.out.2.2.1 (Nat.le_refl _)).sub fun _ hj => hj.1⟩
  have hd2 : S.down = false := by simpa using hd
  rw [hd2] at c3
  have HD := Lib.hid hd
  clear hd hd2
  go_wp2_with fail
  refine CF.mono ?_
  clear CF
  rintro e w2 ⟨⟨o, rfl, hfo⟩, rfl⟩
  cases o with
  | none =>
    have HO := Lib.hid hfo
    have ea : atF none = -1 := rfl
    rw [ea]
    clear hfo c0 c1 c2 c3
    go_wp2_with fail
    go_ret
    have hg : getF S.files path = none := HO.out
    have hr : cutS S path num = (S, 6) := by unfold cutS; rw [if_neg HD.out, hg]
    rw [hr]
    exact ⟨rfl, v, H0.out.1, (FrameS.ofBelow H0.out.2.2.1 (Nat.le_refl _)).sub fun _ hj => hj.1⟩
  | some k =>
    obtain ⟨hk, hkp⟩ := hfo
    have ea : atF (some k) = (k : Int) := rfl
    rw [ea]
    have HK := Lib.hid (And.intro hk hkp)
    obtain ⟨g, c, xk, rfl, IX, R, hx⟩ := H0.out.1.place hk
    have LX := tyF.load xk g (k * 4) w1 R
    obtain ⟨nl, hnl⟩ : ∃ n, n = S.files.length := ⟨_, rfl⟩
    have HNL := Lib.hid hnl
    rw [← hnl] at IX c1
    have hkn : k < nl := by rw [hnl]; exact hk
    have hkz : k ≤ 10000 := by omega
    obtain ⟨ZF, hZF⟩ : ∃ Z : Array Value, Z = #[.string ByteArray.empty, .slice none 0 0, .slice none 0 0, .slice none 0 0] := ⟨_, rfl⟩
    have z : ∀ w, (zeroValue 79).run Tryd.prog w = .ok (.agg ZF) w := fun w => by rw [hZF]; kernel_rfl
    have hzs : ZF.size = 4 := by rw [hZF]; rfl
    have HX := Lib.hid hx
    have hgf : getF S.files path = some S.files[k].2 := by rw [← hkp]; exact getF_idx H0.out.2.2.2.1.sorted hk
    have HGF := Lib.hid hgf
    clear hkp R hx hnl hZF hgf c0 c2 c3
    go_upto_region 34 with (first | (refine wpList_load_at rfl _ _ rfl _ _ rfl LX ?_) | (refine wpList_store_bxf rfl _ _ rfl w1 ((Below.refl _ _).alloc (Nat.le_refl _) _) w1.heap.size xk rfl rfl (Nat.le_refl _) _ (heap_alloc_last _ _ _ rfl) hzs ?_; intro w3 hb3; have H3 := Lib.hid hb3; clear hb3))
    have k0 := (H3.out.frame.cell (lt_of_cell k0)).trans k0
    have k1 := (H3.out.frame.cell (lt_of_cell k1)).trans k1
    have k2 := (H3.out.frame.cell (lt_of_cell k2)).trans k2
    have k3 := (H3.out.frame.cell (lt_of_cell k3)).trans k3
    obtain ⟨f0, f1, f2, f3⟩ := H3.out.cells
    unfold rowV at f1 f2 f3
    obtain ⟨GF, hGF⟩ : ∃ GF, GF = w1.heap.size := ⟨_, rfl⟩
    rw [← hGF] at f0 f1 f2 f3 ⊢
    have HGF2 := Lib.hid hGF
    clear LX z hzs hGF
    have hnn := HX.out.now.n
    obtain ⟨m1, hm1⟩ : ∃ m1, m1 = (S.files[k]'HK.out.1).2.now.length := ⟨_, rfl⟩
    rw [← hm1] at hnn
    rw [hnn] at f1
    have hcut : cutS S path num = if num < 0 ∨ (m1 : Int) < num then (S, 1) else (doneS { S with used := S.used - ((m1 : Int) - num), files := putF S.files path (doF (S.files[k]'HK.out.1).2 ⟨0, num, []⟩) }, 0) := by
      unfold cutS
      rw [if_neg HD.out, HGF.out, hm1]
    have HCUT := Lib.hid hcut
    have hm1b := (H0.out.2.2.2.1.ok _ (List.getElem_mem HK.out.1)).2.2.1
    have hsn := (H0.out.2.2.2.1.ok _ (List.getElem_mem HK.out.1)).2.2.2.2
    have hm1c : m1 ≤ 100000 := by omega
    have HSN := Lib.hid hsn
    have HM1 := Lib.hid hm1
    have HNN := Lib.hid hnn
    clear hcut hm1 hnn hm1b hsn
    by_cases c5 : num < 0
    · have t5 : decide (num < 0) = true := decide_eq_true c5
      have HC := Lib.hid (show cutS S path num = (S, 1) by rw [HCUT.out, if_pos (Or.inl c5)])
      clear f0 f2 f3 c5
      go_wp2_with fail
      go_ret
      rw [HC.out]
      exact ⟨rfl, _, H0.out.1.below H3.out.frame, (FrQ.of H0.out.2.2.1).trans (FrQ.of H3.out.frame)⟩
    by_cases c6 : (m1 : Int) < num
    · have t5 : decide (num < 0) = false := decide_eq_false c5
      have t6 : decide ((m1 : Int) < num) = true := decide_eq_true c6
      have HC := Lib.hid (show cutS S path num = (S, 1) by rw [HCUT.out, if_pos (Or.inr c6)])
      clear f0 f2 f3 c5 c6
      go_wp2_with fail
      go_ret
      rw [HC.out]
      exact ⟨rfl, _, H0.out.1.below H3.out.frame, (FrQ.of H0.out.2.2.1).trans (FrQ.of H3.out.frame)⟩
    obtain ⟨m, rfl⟩ : ∃ m : Nat, num = (m : Int) := ⟨num.toNat, by omega⟩
    have t5 : decide ((m : Int) < 0) = false := decide_eq_false c5
    have t6 : decide ((m1 : Int) < (m : Int)) = false := decide_eq_false c6
    have hmm : m ≤ m1 := by omega
    have HC := Lib.hid (show cutS S path (m : Int) = (doneS { S with used := S.used - ((m1 : Int) - (m : Int)), files := putF S.files path (doF (S.files[k]'HK.out.1).2 ⟨0, (m : Int), []⟩) }, 0) by rw [HCUT.out, if_neg (by omega)])
    have hsl := HX.out.now.sl
    have SL : ∀ W : World, (Instr.slice 28 (.slice xk.now.a m1 xk.now.c) none (some (.int .i64 (m : Int))) none).run Tryd.prog W = .ok (.slice xk.now.a m xk.now.c) W := fun W => run_slice_to 28 Tryd.underlying28 xk.now.a m1 xk.now.c m (by have := hsl.le; rw [← HM1.out] at this; omega) (fun h => hsl.non h) (n := 1) (fun w => by kernel_rfl) W
    have F1 := H3.out.free 1
    rw [← HGF2.out] at F1
    clear f0 f2 c5 c6 hsl HCUT
    go_upto_region 39 with (fail)
    have H4 := Lib.hid (H3.out.set (x' := ⟨xk.path, ⟨xk.now.a, m, xk.now.c⟩, xk.kept, xk.since⟩) 1 (.slice xk.now.a m xk.now.c) rfl)
    rw [← HGF2.out] at H4
    clear F1 f1 f3 SL t5 t6
    generalize w3.setCell ⟨GF, 1, none⟩ (.slice xk.now.a m xk.now.c) = w4 at *
    have hbr : BsAt (Pof Q w4.heap.size t (.slice (some ⟨g, 0, none⟩) S.files.length c)) w4 ⟨xk.now.a, m, xk.now.c⟩ ((S.files[k]'HK.out.1).2.now.take m) := by
      have hb := HX.out.now.keep (P' := Pof Q w4.heap.size t (.slice (some ⟨g, 0, none⟩) S.files.length c)) (w' := w4) fun j hp => ⟨⟨hp.1, Nat.lt_of_lt_of_le hp.2.1 H4.out.frame.size, hp.2.2⟩, H4.out.frame.block j hp.2.1⟩
      refine ⟨by rw [List.length_take, ← HM1.out]; show m = _; omega, ⟨hb.sl.bs.take m, ?_, hb.sl.max, hb.sl.non⟩, hb.blk⟩
      rw [List.length_take]
      have := hb.sl.le
      show _ ≤ xk.now.c
      omega
    have hbG : ∀ y, xk.now.a = some y → y.block ≠ GF := fun y hy => by have := (HX.out.now.blk y hy).2.1; rw [HGF2.out]; omega
    obtain ⟨M, hM1, hM2, hM3⟩ := HX.out.since.ex
    have hMl : M.length ≤ 100000 := by rw [hM3.length, sinceL_len]; have := HSN.out; omega
    have HRV : Hid (∀ j, (Value.slice (some ⟨g, 0, none⟩) S.files.length c).ownBlock = some j → j < w1.heap.size) := Lib.hid fun j e => by
      obtain ⟨L, hL, -⟩ := H0.out.1.row
      exact row_lt hL e
    obtain ⟨na, nc, hna⟩ : ∃ na nc, na = xk.now.a ∧ nc = xk.now.c := ⟨_, _, rfl, rfl⟩
    obtain ⟨sa, sn, sc, hsa⟩ : ∃ sa sn sc, sa = xk.since.a ∧ sn = xk.since.n ∧ sc = xk.since.c := ⟨_, _, _, rfl, rfl, rfl⟩
    rw [← hna.1, ← hna.2] at H4 hbr
    rw [← hna.1] at hbG
    rw [← hsa.2.1] at hM1
    rw [← hsa.1, ← hsa.2.2] at hM2
    have HM := Lib.hid (And.intro hM1 (And.intro (hM2.below H4.out.frame) (And.intro hM3 (And.intro hbr hbG))))
    obtain ⟨-, f1, -, f3⟩ := H4.out.cells
    unfold rowV at f1 f3
    dsimp only at f1 f3
    rw [← hsa.1, ← hsa.2.1, ← hsa.2.2] at f3
    have hsn5 : sn ≤ 100000 := by rw [hM1]; exact hMl
    have HMH := Lib.hid (Nat.le_trans (Nat.le_refl sn) hsn5)
    rw [← hna.1, ← hna.2]
    have HNA := Lib.hid hna
    have HIX := Lib.hid IX
    clear hna hsa hM1 hM2 hM3 hbr hbG hMl
    have LS : ∀ y : Later w4, y.1.cell? ⟨GF, 3, none⟩ = some (.slice sa sn sc) := fun y => load_later f3 y
    have LN : ∀ y : Later w4, y.1.cell? ⟨GF, 1, none⟩ = some (.slice na m nc) := fun y => load_later f1 y
    clear f1 f3 IX
    refine wp_region_ft (FT.run [(1, 0), (2, 0), (4, 0), (5, 0)] (.two 0 6 (.two 3 6 (FT.run [(6, 1)] (FT.run [(7, 2), (8, 0), (9, 2)] .nil)) (FT.run [(3, 1)] (FT.run [(7, 2), (8, 0), (9, 2)] .nil))) (FT.run [(0, 1), (3, 1)] (FT.run [(7, 2), (8, 0), (9, 2)] .nil)))) [7, 9] (by kernel_rfl) (by kernel_rfl) ?_
    iterate 4 (refine fg_calm rfl (fun K hK => ?_); go_simp; (refine hK _ ?_; clear hK K))
    clear LS LN
    refine fg_two rfl rfl ?_ ?_
    · refine fg_buildSlice rfl rfl _ _ _ rfl [] #[] 28 0 0 rfl (fun y => tyR.slice0 y) (fun g1 wx1 hwwx1 hg1 hb1 => ?_)
      have HO := Lib.hid (OwnR.empty 1 encR hg1 hb1 hwwx1)
      have GRwx1 := Lib.hid (Grow.trans (Grow.refl w4) hwwx1)
      clear hwwx1 hg1 hb1
      refine fg_two rfl rfl ?_ ?_
      · refine fg_loud rfl rfl (fun wx2 hwwx2 K hK => ?_)
        refine wpList_append_empty_1 tyR rfl (.tmp 186) (.tmp 188) rfl g1 rfl (HO.out.later hwwx2) sa sn sc M rfl HM.out.1 (HM.out.2.1.below (Grow.trans GRwx1.out hwwx2)) (by have := HM.out.1; omega) (fun v29 wx2b hv29 hwwx2b => ?_)
        have HV := Lib.hid hv29
        have GRwx2b := Lib.hid (Grow.trans (Grow.trans GRwx1.out hwwx2) hwwx2b)
        refine hK _ _ hwwx2b ?_
        clear hv29 hwwx2 hwwx2b hK K
        refine fg_buildSlice rfl rfl _ _ _ rfl [(0, .slice na m nc)] (recA encR ⟨na, m, nc⟩) 28 1 1 rfl (fun y => tyR.slice1 ⟨na, m, nc⟩ y) (fun g2 wx3 hwwx3 hg2 hb2 => ?_)
        have HP := Lib.hid (RsAt.block (enc := encR) (L := 1) hb2)
        have GRwx3 := Lib.hid (Grow.trans GRwx2b.out hwwx3)
        have HV := Lib.hid (HV.out.later hwwx3)
        clear hwwx3 hg2 hb2
        refine fg_sync rfl rfl (fun w10 hw10 K hK => ?_)
        refine wpList_append_1 tyR rfl (.tmp 189) (.tmp 192) rfl _ M rfl (HV.out.later hw10) (some ⟨g2, 0, none⟩) 1 1 [⟨na, m, nc⟩] rfl rfl (HP.out.below hw10) (by have := HM.out.1; rw [List.length_singleton]; omega) ?_
        intro v5 w5 hb5 hgr5 hgr0
        have HB5 := Lib.hid hb5
        clear hgr5 hgr0 hb5 hw10
        go_wp2_with fail
        iterate 1 (refine fg_calm rfl (fun K hK => ?_); go_simp; (refine hK _ ?_; clear hK K))
        refine fg_sync rfl rfl (fun w11 hw11 K hK => ?_)
        have ho11 := HB5.out.later hw11
        obtain ⟨va, vc, rfl, -, -⟩ := ho11.rs1 tyR
        have b11 := H4.out.below ho11.frame
        obtain ⟨-, -, -, f3⟩ := b11.cells
        unfold rowV at f3
        dsimp only at f3
        have F3 := b11.free 3
        have HRES := Lib.hid (since_set H4.out H0.out.2.1 H0.out.1.tlt (fun j e => HRV.out j e) HM.out.2.2.1 HM.out.2.2.2.1 HM.out.2.2.2.2 ho11)
        obtain ⟨n5, hn5⟩ : ∃ n5, n5 = (M ++ [(⟨na, m, nc⟩ : RowA)]).length := ⟨_, rfl⟩
        rw [← hn5] at HRES ⊢
        clear hw11 ho11 b11 hn5
        go_wp2_with fail
        refine fg_nil fun w12 hw12 => ?_
        have HRES2 := Lib.hid (And.intro (HRES.out.1.below hw12) (HRES.out.2.keep (P' := Pof Q w12.heap.size t (.slice (some ⟨g, 0, none⟩) S.files.length c)) (w' := w12) fun j hp => ⟨⟨hp.1, Nat.lt_of_lt_of_le hp.2.1 hw12.size, hp.2.2⟩, hw12.block j hp.2.1⟩))
        clear hw12 f3 F3
        have H5 := Lib.hid HRES2.out.1
        have h5 := H0.out.1.below H5.out.frame
        have hx5 : RfIs (Pof Q w12.heap.size t (.slice (some ⟨g, 0, none⟩) S.files.length c)) w12 ⟨xk.path, ⟨na, m, nc⟩, xk.kept, ⟨va, n5, vc⟩⟩ (path, doF (S.files[k]'HK.out.1).2 ⟨0, (m : Int), []⟩) := by
          have hm : RfIs (Pof Q w12.heap.size t (.slice (some ⟨g, 0, none⟩) S.files.length c)) w12 xk (S.files[k]'HK.out.1) := HX.out.keep fun j hp => ⟨⟨hp.1, Nat.lt_of_lt_of_le hp.2.1 H5.out.frame.size, hp.2.2⟩, H5.out.frame.block j hp.2.1⟩
          have hon : Chg.on ⟨0, (m : Int), []⟩ (S.files[k]'HK.out.1).2.now = (S.files[k]'HK.out.1).2.now.take m := by unfold Chg.on; rw [if_pos (by show (0 : Int) ≤ (m : Int); omega)]; rfl
          refine ⟨hm.path.trans HK.out.2, ?_, hm.kept, ?_⟩
          · show BsAt (Pof Q w12.heap.size t (.slice (some ⟨g, 0, none⟩) S.files.length c)) w12 ⟨na, m, nc⟩ (Chg.on ⟨0, (m : Int), []⟩ (S.files[k]'HK.out.1).2.now)
            rw [hon, HNA.out.1, HNA.out.2]
            refine ⟨by rw [List.length_take, ← HM1.out]; show m = _; omega, ⟨hm.now.sl.bs.take m, ?_, hm.now.sl.max, hm.now.sl.non⟩, hm.now.blk⟩
            rw [List.length_take]
            have := hm.now.sl.le
            show _ ≤ xk.now.c
            omega
          · show SnAt (Pof Q w12.heap.size t (.slice (some ⟨g, 0, none⟩) S.files.length c)) w12 ⟨va, n5, vc⟩ (sinceL (doF (S.files[k]'HK.out.1).2 ⟨0, (m : Int), []⟩))
            rw [sinceL_do (H0.out.2.2.2.1.ok _ (List.getElem_mem HK.out.1)).1, hon]
            exact HRES2.out.2
        obtain ⟨-, m5, -, -⟩ := h5.cells
        rw [← HNL.out] at m5
        have M1 : ∀ y : Later w12, y.1.cell? ⟨t, 1, none⟩ = some (.slice (some ⟨g, 0, none⟩) nl c) := fun y => load_later m5 y
        have M2 : ∀ y : Later w12, (Instr.loadAt 79 (.pointer (some ⟨GF, 0, none⟩))).run Tryd.prog y.1 = .ok (.agg (recA encF ⟨xk.path, ⟨na, m, nc⟩, xk.kept, ⟨va, n5, vc⟩⟩)) y.1 := fun y => (H5.out.below y.2).load
        have HR5 := Lib.hid (And.intro h5 hx5)
        clear h5 hx5 m5
        obtain ⟨x9, hx9⟩ : ∃ x9 : RfA, x9 = ⟨xk.path, ⟨na, m, nc⟩, xk.kept, ⟨va, n5, vc⟩⟩ := ⟨_, rfl⟩
        rw [← hx9] at M2 HR5
        clear hx9
        have IX := HIX.out
        go_upto_region 58 with (fail)
        refine wp_region_mg [(0, 0), (1, 0), (2, 0), (3, 0), (4, 0), (5, 0), (6, 0), (7, 2)] (by kernel_rfl) (by kernel_rfl) ?_
        iterate 5 (refine mg_calm rfl (fun K hK => ?_); go_simp; (refine hK _ ?_; clear hK K))
        refine mg_load rfl rfl _ _ rfl _ _ rfl M2 ?_
        iterate 1 (refine mg_calm rfl (fun K hK => ?_); go_simp; (refine hK _ ?_; clear hK K))
        refine mg_storeF rfl rfl rfl rfl (.tmp 242) (.tmp 241) rfl (n := nl) (by rw [HNL.out]; exact HR5.out.1) HK.out.1 (by rw [HNL.out]; exact HR5.out.2) rfl rfl (fun w6 h6 hf6 => ?_)
        have H6 := Lib.hid (And.intro h6 hf6)
        clear h6 hf6 M1 M2 IX
        refine mg_nil fun w7 hw7 => ?_
        have H7 := Lib.hid hw7
        clear hw7
        go_wp2_with fail
        go_ret
        rw [HC.out]
        refine ⟨rfl, .slice (some ⟨g, 0, none⟩) nl c, ?_, ?_⟩
        · show RefAt Q w7 t (.slice (some ⟨g, 0, none⟩) nl c) S.quota (doneS _).files left S.down
          rw [doneS_files]
          show RefAt Q w7 t (.slice (some ⟨g, 0, none⟩) nl c) S.quota (putF S.files path _) left S.down
          rw [put_key H0.out.2.2.2.1.sorted HK.out.1 HK.out.2]
          exact H6.out.1.below H7.out
        · exact (((FrQ.of H0.out.2.2.1).trans (FrQ.of H5.out.frame)).trans H6.out.2).trans (FrQ.of H7.out)
      · refine fg_buildSlice rfl rfl _ _ _ rfl [(0, .slice na m nc)] (recA encR ⟨na, m, nc⟩) 28 1 1 rfl (fun y => tyR.slice1 ⟨na, m, nc⟩ y) (fun g2 wx2 hwwx2 hg2 hb2 => ?_)
        have HP := Lib.hid (RsAt.block (enc := encR) (L := 1) hb2)
        have GRwx2 := Lib.hid (Grow.trans GRwx1.out hwwx2)
        have HO := Lib.hid (HO.out.later hwwx2)
        clear hwwx2 hg2 hb2
        refine fg_loud rfl rfl (fun wx3 hwwx3 K hK => ?_)
        refine wpList_append_empty_1 tyR rfl (.tmp 186) (.tmp 188) rfl g1 rfl (HO.out.later hwwx3) sa sn sc M rfl HM.out.1 (HM.out.2.1.below (Grow.trans GRwx2.out hwwx3)) (by have := HM.out.1; omega) (fun v29 wx3b hv29 hwwx3b => ?_)
        have HV := Lib.hid hv29
        have HP := Lib.hid (HP.out.below (Grow.trans hwwx3 hwwx3b))
        have GRwx3b := Lib.hid (Grow.trans (Grow.trans GRwx2.out hwwx3) hwwx3b)
        refine hK _ _ hwwx3b ?_
        clear hv29 hwwx3 hwwx3b hK K
        refine fg_sync rfl rfl (fun w10 hw10 K hK => ?_)
        refine wpList_append_1 tyR rfl (.tmp 189) (.tmp 192) rfl _ M rfl (HV.out.later hw10) (some ⟨g2, 0, none⟩) 1 1 [⟨na, m, nc⟩] rfl rfl (HP.out.below hw10) (by have := HM.out.1; rw [List.length_singleton]; omega) ?_
        intro v5 w5 hb5 hgr5 hgr0
        have HB5 := Lib.hid hb5
        clear hgr5 hgr0 hb5 hw10
        go_wp2_with fail
        iterate 1 (refine fg_calm rfl (fun K hK => ?_); go_simp; (refine hK _ ?_; clear hK K))
        refine fg_sync rfl rfl (fun w11 hw11 K hK => ?_)
        have ho11 := HB5.out.later hw11
        obtain ⟨va, vc, rfl, -, -⟩ := ho11.rs1 tyR
        have b11 := H4.out.below ho11.frame
        obtain ⟨-, -, -, f3⟩ := b11.cells
        unfold rowV at f3
        dsimp only at f3
        have F3 := b11.free 3
        have HRES := Lib.hid (since_set H4.out H0.out.2.1 H0.out.1.tlt (fun j e => HRV.out j e) HM.out.2.2.1 HM.out.2.2.2.1 HM.out.2.2.2.2 ho11)
        obtain ⟨n5, hn5⟩ : ∃ n5, n5 = (M ++ [(⟨na, m, nc⟩ : RowA)]).length := ⟨_, rfl⟩
        rw [← hn5] at HRES ⊢
        clear hw11 ho11 b11 hn5
        go_wp2_with fail
        refine fg_nil fun w12 hw12 => ?_
        have HRES2 := Lib.hid (And.intro (HRES.out.1.below hw12) (HRES.out.2.keep (P' := Pof Q w12.heap.size t (.slice (some ⟨g, 0, none⟩) S.files.length c)) (w' := w12) fun j hp => ⟨⟨hp.1, Nat.lt_of_lt_of_le hp.2.1 hw12.size, hp.2.2⟩, hw12.block j hp.2.1⟩))
        clear hw12 f3 F3
        have H5 := Lib.hid HRES2.out.1
        have h5 := H0.out.1.below H5.out.frame
        have hx5 : RfIs (Pof Q w12.heap.size t (.slice (some ⟨g, 0, none⟩) S.files.length c)) w12 ⟨xk.path, ⟨na, m, nc⟩, xk.kept, ⟨va, n5, vc⟩⟩ (path, doF (S.files[k]'HK.out.1).2 ⟨0, (m : Int), []⟩) := by
          have hm : RfIs (Pof Q w12.heap.size t (.slice (some ⟨g, 0, none⟩) S.files.length c)) w12 xk (S.files[k]'HK.out.1) := HX.out.keep fun j hp => ⟨⟨hp.1, Nat.lt_of_lt_of_le hp.2.1 H5.out.frame.size, hp.2.2⟩, H5.out.frame.block j hp.2.1⟩
          have hon : Chg.on ⟨0, (m : Int), []⟩ (S.files[k]'HK.out.1).2.now = (S.files[k]'HK.out.1).2.now.take m := by unfold Chg.on; rw [if_pos (by show (0 : Int) ≤ (m : Int); omega)]; rfl
          refine ⟨hm.path.trans HK.out.2, ?_, hm.kept, ?_⟩
          · show BsAt (Pof Q w12.heap.size t (.slice (some ⟨g, 0, none⟩) S.files.length c)) w12 ⟨na, m, nc⟩ (Chg.on ⟨0, (m : Int), []⟩ (S.files[k]'HK.out.1).2.now)
            rw [hon, HNA.out.1, HNA.out.2]
            refine ⟨by rw [List.length_take, ← HM1.out]; show m = _; omega, ⟨hm.now.sl.bs.take m, ?_, hm.now.sl.max, hm.now.sl.non⟩, hm.now.blk⟩
            rw [List.length_take]
            have := hm.now.sl.le
            show _ ≤ xk.now.c
            omega
          · show SnAt (Pof Q w12.heap.size t (.slice (some ⟨g, 0, none⟩) S.files.length c)) w12 ⟨va, n5, vc⟩ (sinceL (doF (S.files[k]'HK.out.1).2 ⟨0, (m : Int), []⟩))
            rw [sinceL_do (H0.out.2.2.2.1.ok _ (List.getElem_mem HK.out.1)).1, hon]
            exact HRES2.out.2
        obtain ⟨-, m5, -, -⟩ := h5.cells
        rw [← HNL.out] at m5
        have M1 : ∀ y : Later w12, y.1.cell? ⟨t, 1, none⟩ = some (.slice (some ⟨g, 0, none⟩) nl c) := fun y => load_later m5 y
        have M2 : ∀ y : Later w12, (Instr.loadAt 79 (.pointer (some ⟨GF, 0, none⟩))).run Tryd.prog y.1 = .ok (.agg (recA encF ⟨xk.path, ⟨na, m, nc⟩, xk.kept, ⟨va, n5, vc⟩⟩)) y.1 := fun y => (H5.out.below y.2).load
        have HR5 := Lib.hid (And.intro h5 hx5)
        clear h5 hx5 m5
        obtain ⟨x9, hx9⟩ : ∃ x9 : RfA, x9 = ⟨xk.path, ⟨na, m, nc⟩, xk.kept, ⟨va, n5, vc⟩⟩ := ⟨_, rfl⟩
        rw [← hx9] at M2 HR5
        clear hx9
        have IX := HIX.out
        go_upto_region 58 with (fail)
        refine wp_region_mg [(0, 0), (1, 0), (2, 0), (3, 0), (4, 0), (5, 0), (6, 0), (7, 2)] (by kernel_rfl) (by kernel_rfl) ?_
        iterate 5 (refine mg_calm rfl (fun K hK => ?_); go_simp; (refine hK _ ?_; clear hK K))
        refine mg_load rfl rfl _ _ rfl _ _ rfl M2 ?_
        iterate 1 (refine mg_calm rfl (fun K hK => ?_); go_simp; (refine hK _ ?_; clear hK K))
        refine mg_storeF rfl rfl rfl rfl (.tmp 242) (.tmp 241) rfl (n := nl) (by rw [HNL.out]; exact HR5.out.1) HK.out.1 (by rw [HNL.out]; exact HR5.out.2) rfl rfl (fun w6 h6 hf6 => ?_)
        have H6 := Lib.hid (And.intro h6 hf6)
        clear h6 hf6 M1 M2 IX
        refine mg_nil fun w7 hw7 => ?_
        have H7 := Lib.hid hw7
        clear hw7
        go_wp2_with fail
        go_ret
        rw [HC.out]
        refine ⟨rfl, .slice (some ⟨g, 0, none⟩) nl c, ?_, ?_⟩
        · show RefAt Q w7 t (.slice (some ⟨g, 0, none⟩) nl c) S.quota (doneS _).files left S.down
          rw [doneS_files]
          show RefAt Q w7 t (.slice (some ⟨g, 0, none⟩) nl c) S.quota (putF S.files path _) left S.down
          rw [put_key H0.out.2.2.2.1.sorted HK.out.1 HK.out.2]
          exact H6.out.1.below H7.out
        · exact (((FrQ.of H0.out.2.2.1).trans (FrQ.of H5.out.frame)).trans H6.out.2).trans (FrQ.of H7.out)
    · refine fg_buildSlice rfl rfl _ _ _ rfl [(0, .slice na m nc)] (recA encR ⟨na, m, nc⟩) 28 1 1 rfl (fun y => tyR.slice1 ⟨na, m, nc⟩ y) (fun g2 wx1 hwwx1 hg2 hb2 => ?_)
      have HP := Lib.hid (RsAt.block (enc := encR) (L := 1) hb2)
      have GRwx1 := Lib.hid (Grow.trans (Grow.refl w4) hwwx1)
      clear hwwx1 hg2 hb2
      refine fg_buildSlice rfl rfl _ _ _ rfl [] #[] 28 0 0 rfl (fun y => tyR.slice0 y) (fun g1 wx2 hwwx2 hg1 hb1 => ?_)
      have HO := Lib.hid ((OwnR.empty 1 encR hg1 hb1 hwwx2).rebase GRwx1.out)
      have GRwx2 := Lib.hid (Grow.trans GRwx1.out hwwx2)
      have HP := Lib.hid (HP.out.below hwwx2)
      clear hwwx2 hg1 hb1
      refine fg_loud rfl rfl (fun wx3 hwwx3 K hK => ?_)
      refine wpList_append_empty_1 tyR rfl (.tmp 186) (.tmp 188) rfl g1 rfl (HO.out.later hwwx3) sa sn sc M rfl HM.out.1 (HM.out.2.1.below (Grow.trans GRwx2.out hwwx3)) (by have := HM.out.1; omega) (fun v29 wx3b hv29 hwwx3b => ?_)
      have HV := Lib.hid hv29
      have HP := Lib.hid (HP.out.below (Grow.trans hwwx3 hwwx3b))
      have GRwx3b := Lib.hid (Grow.trans (Grow.trans GRwx2.out hwwx3) hwwx3b)
      refine hK _ _ hwwx3b ?_
      clear hv29 hwwx3 hwwx3b hK K
      refine fg_sync rfl rfl (fun w10 hw10 K hK => ?_)
      refine wpList_append_1 tyR rfl (.tmp 189) (.tmp 192) rfl _ M rfl (HV.out.later hw10) (some ⟨g2, 0, none⟩) 1 1 [⟨na, m, nc⟩] rfl rfl (HP.out.below hw10) (by have := HM.out.1; rw [List.length_singleton]; omega) ?_
      intro v5 w5 hb5 hgr5 hgr0
      have HB5 := Lib.hid hb5
      clear hgr5 hgr0 hb5 hw10
      go_wp2_with fail
      iterate 1 (refine fg_calm rfl (fun K hK => ?_); go_simp; (refine hK _ ?_; clear hK K))
      refine fg_sync rfl rfl (fun w11 hw11 K hK => ?_)
      have ho11 := HB5.out.later hw11
      obtain ⟨va, vc, rfl, -, -⟩ := ho11.rs1 tyR
      have b11 := H4.out.below ho11.frame
      obtain ⟨-, -, -, f3⟩ := b11.cells
      unfold rowV at f3
      dsimp only at f3
      have F3 := b11.free 3
      have HRES := Lib.hid (since_set H4.out H0.out.2.1 H0.out.1.tlt (fun j e => HRV.out j e) HM.out.2.2.1 HM.out.2.2.2.1 HM.out.2.2.2.2 ho11)
      obtain ⟨n5, hn5⟩ : ∃ n5, n5 = (M ++ [(⟨na, m, nc⟩ : RowA)]).length := ⟨_, rfl⟩
      rw [← hn5] at HRES ⊢
      clear hw11 ho11 b11 hn5
      go_wp2_with fail
      refine fg_nil fun w12 hw12 => ?_
      have HRES2 := Lib.hid (And.intro (HRES.out.1.below hw12) (HRES.out.2.keep (P' := Pof Q w12.heap.size t (.slice (some ⟨g, 0, none⟩) S.files.length c)) (w' := w12) fun j hp => ⟨⟨hp.1, Nat.lt_of_lt_of_le hp.2.1 hw12.size, hp.2.2⟩, hw12.block j hp.2.1⟩))
      clear hw12 f3 F3
      have H5 := Lib.hid HRES2.out.1
      have h5 := H0.out.1.below H5.out.frame
      have hx5 : RfIs (Pof Q w12.heap.size t (.slice (some ⟨g, 0, none⟩) S.files.length c)) w12 ⟨xk.path, ⟨na, m, nc⟩, xk.kept, ⟨va, n5, vc⟩⟩ (path, doF (S.files[k]'HK.out.1).2 ⟨0, (m : Int), []⟩) := by
        have hm : RfIs (Pof Q w12.heap.size t (.slice (some ⟨g, 0, none⟩) S.files.length c)) w12 xk (S.files[k]'HK.out.1) := HX.out.keep fun j hp => ⟨⟨hp.1, Nat.lt_of_lt_of_le hp.2.1 H5.out.frame.size, hp.2.2⟩, H5.out.frame.block j hp.2.1⟩
        have hon : Chg.on ⟨0, (m : Int), []⟩ (S.files[k]'HK.out.1).2.now = (S.files[k]'HK.out.1).2.now.take m := by unfold Chg.on; rw [if_pos (by show (0 : Int) ≤ (m : Int); omega)]; rfl
        refine ⟨hm.path.trans HK.out.2, ?_, hm.kept, ?_⟩
        · show BsAt (Pof Q w12.heap.size t (.slice (some ⟨g, 0, none⟩) S.files.length c)) w12 ⟨na, m, nc⟩ (Chg.on ⟨0, (m : Int), []⟩ (S.files[k]'HK.out.1).2.now)
          rw [hon, HNA.out.1, HNA.out.2]
          refine ⟨by rw [List.length_take, ← HM1.out]; show m = _; omega, ⟨hm.now.sl.bs.take m, ?_, hm.now.sl.max, hm.now.sl.non⟩, hm.now.blk⟩
          rw [List.length_take]
          have := hm.now.sl.le
          show _ ≤ xk.now.c
          omega
        · show SnAt (Pof Q w12.heap.size t (.slice (some ⟨g, 0, none⟩) S.files.length c)) w12 ⟨va, n5, vc⟩ (sinceL (doF (S.files[k]'HK.out.1).2 ⟨0, (m : Int), []⟩))
          rw [sinceL_do (H0.out.2.2.2.1.ok _ (List.getElem_mem HK.out.1)).1, hon]
          exact HRES2.out.2
      obtain ⟨-, m5, -, -⟩ := h5.cells
      rw [← HNL.out] at m5
      have M1 : ∀ y : Later w12, y.1.cell? ⟨t, 1, none⟩ = some (.slice (some ⟨g, 0, none⟩) nl c) := fun y => load_later m5 y
      have M2 : ∀ y : Later w12, (Instr.loadAt 79 (.pointer (some ⟨GF, 0, none⟩))).run Tryd.prog y.1 = .ok (.agg (recA encF ⟨xk.path, ⟨na, m, nc⟩, xk.kept, ⟨va, n5, vc⟩⟩)) y.1 := fun y => (H5.out.below y.2).load
      have HR5 := Lib.hid (And.intro h5 hx5)
      clear h5 hx5 m5
      obtain ⟨x9, hx9⟩ : ∃ x9 : RfA, x9 = ⟨xk.path, ⟨na, m, nc⟩, xk.kept, ⟨va, n5, vc⟩⟩ := ⟨_, rfl⟩
      rw [← hx9] at M2 HR5
      clear hx9
      have IX := HIX.out
      go_upto_region 58 with (fail)
      refine wp_region_mg [(0, 0), (1, 0), (2, 0), (3, 0), (4, 0), (5, 0), (6, 0), (7, 2)] (by kernel_rfl) (by kernel_rfl) ?_
      iterate 5 (refine mg_calm rfl (fun K hK => ?_); go_simp; (refine hK _ ?_; clear hK K))
      refine mg_load rfl rfl _ _ rfl _ _ rfl M2 ?_
      iterate 1 (refine mg_calm rfl (fun K hK => ?_); go_simp; (refine hK _ ?_; clear hK K))
      refine mg_storeF rfl rfl rfl rfl (.tmp 242) (.tmp 241) rfl (n := nl) (by rw [HNL.out]; exact HR5.out.1) HK.out.1 (by rw [HNL.out]; exact HR5.out.2) rfl rfl (fun w6 h6 hf6 => ?_)
      have H6 := Lib.hid (And.intro h6 hf6)
      clear h6 hf6 M1 M2 IX
      refine mg_nil fun w7 hw7 => ?_
      have H7 := Lib.hid hw7
      clear hw7
      go_wp2_with fail
      go_ret
      rw [HC.out]
      refine ⟨rfl, .slice (some ⟨g, 0, none⟩) nl c, ?_, ?_⟩
      · show RefAt Q w7 t (.slice (some ⟨g, 0, none⟩) nl c) S.quota (doneS _).files left S.down
        rw [doneS_files]
        show RefAt Q w7 t (.slice (some ⟨g, 0, none⟩) nl c) S.quota (putF S.files path _) left S.down
        rw [put_key H0.out.2.2.2.1.sorted HK.out.1 HK.out.2]
        exact H6.out.1.below H7.out
      · exact (((FrQ.of H0.out.2.2.1).trans (FrQ.of H5.out.frame)).trans H6.out.2).trans (FrQ.of H7.out)
end Go.Proofs.YthjjdcfkdmhmlaaDoor
