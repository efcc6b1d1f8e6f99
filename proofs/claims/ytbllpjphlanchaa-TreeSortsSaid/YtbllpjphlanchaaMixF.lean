/-
  A region's walk in an order of our choice that forks: where two loud operations may come up, each is taken first, by itself.
-/
import Derived.Test.YtbllpjphlanchaaMixG
namespace Go.Mix
open Go.RowKit

/-- An order that forks. -/
inductive FT where
  | nil
  | one (i k : Nat) (r : FT)
  | two (i n : Nat) (r q : FT)
def FT.run : List (Nat × Nat) → FT → FT
  | [], T => T
  | (i, k) :: r, T => .one i k (FT.run r T)
def FT.len : FT → Nat
  | .nil => 0
  | .one _ _ r => r.len + 1
  | .two _ _ r _ => r.len + 1

section
variable {P : Program} {ops : Array Oper} {md : Region.Mode} {Q : Act → World → Prop}

/-- sy: the sync ones. -/
def FT.good (md : Region.Mode) (ops : Array Oper) (sy : List Nat) : FT → Array Bool → Bool
  | .nil, listed => (Region.ready md ops listed).isEmpty
  | .one i 0 r, listed => (Region.ready md ops listed).contains i && Region.free md ops listed i && (sy.all fun j => j == i || listed.getD j false || ancB md ops ops.size i j) && FT.good md ops sy r (listed.setIfInBounds i true)
  | .one i 1 r, listed => (Region.ready md ops listed == [i]) && FT.good md ops sy r (listed.setIfInBounds i true)
  | .one i 2 r, listed => (Region.ready md ops listed == [i]) && sy.contains i && FT.good md ops sy r (listed.setIfInBounds i true)
  | .one i _ r, listed => (Region.ready md ops listed).contains i && Region.free md ops listed i && FT.good md ops sy r (listed.setIfInBounds i true)
  | .two i n r q, listed => (Region.ready md ops listed == [i, n]) && (r.len == q.len) && FT.good md ops sy r (listed.setIfInBounds i true) && FT.good md ops sy q (listed.setIfInBounds n true)

def wpFT (P : Program) (ops : Array Oper) (Q : Act → World → Prop) : FT → Act → World → Prop
  | .nil, a, w => ∀ w', Grow w w' → Q a w'
  | .one i 0 r, a, w => match ops[i]? with
    | none => False
    | some o => calmStep P ops o (fun a' => wpFT P ops Q r a' w) a w
  | .one i 1 r, a, w => match ops[i]? with
    | none => False
    | some o => loudStep P ops false o (wpFT P ops Q r) a w
  | .one i 2 r, a, w => match ops[i]? with
    | none => False
    | some o => loudStep P ops true o (wpFT P ops Q r) a w
  | .one i _ r, a, w => match ops[i]? with
    | none => False
    | some o => pureStep P ops o (fun a' => wpFT P ops Q r a' w) a
  | .two i n r q, a, w => match ops[i]?, ops[n]? with
    | some oi, some on => loudStep P ops false oi (wpFT P ops Q r) a w ∧ loudStep P ops false on (wpFT P ops Q q) a w
    | _, _ => False

def syL (sy : List Nat) (i : Nat) : Bool := sy.contains i

theorem anyG_of_ft (hs : Region.noSelect ops = true) (sy : List Nat) : ∀ (T : FT) (listed : Array Bool) (a : Act) (w : World), Closed md ops listed → T.good md ops sy listed = true → wpFT P ops Q T a w →
    anyG P md ops (syL sy) Q T.len listed a w
  | .nil, listed, a, w, _, hB, h => fun w' hw' => ⟨by simpa [FT.good] using hB, h w' hw'⟩
  | .one i 0 r, listed, a, w, hcl, hB, h => by
    simp only [FT.good, Bool.and_eq_true] at hB
    obtain ⟨⟨⟨hr, hf⟩, hanc⟩, hB'⟩ := hB
    have hri : i ∈ Region.ready md ops listed := by simpa using hr
    have hanc' : ∀ j, j ≠ i → syL sy j = true → listed.getD j false = true ∨ ∃ f, ancB md ops f i j = true := fun j hji hj => by
      have h2 := List.all_eq_true.1 hanc j (by simpa [syL] using hj)
      simp only [Bool.or_eq_true, beq_iff_eq] at h2
      rcases h2 with (h2 | h2) | h2
      · exact absurd h2 hji
      · exact .inl h2
      · exact .inr ⟨_, h2⟩
    simp only [wpFT] at h
    split at h
    · exact h.elim
    · rename_i o ho
      unfold calmStep at h
      by_cases hw : Region.wanted o (yielded ops a.tmps) = true
      · simp only [hw, if_true] at h
        obtain ⟨v, h1, h2⟩ := h
        exact anyG_first ho (Region.noSelect_spec hs) r.len listed a w (Region.free_spec ho hf) hcl hanc' hri (.inl ⟨hw, fun w' hw' => h1 ⟨w', hw'⟩⟩) (anyG_of_ft hs sy r _ _ _ (hcl.set hri) hB' h2)
      · simp only [hw] at h
        exact anyG_first ho (Region.noSelect_spec hs) r.len listed a w (Region.free_spec ho hf) hcl hanc' hri (.inr ⟨by simpa using hw, rfl⟩) (anyG_of_ft hs sy r _ _ _ (hcl.set hri) hB' h)
  | .one i 1 r, listed, a, w, hcl, hB, h => by
    simp only [FT.good, Bool.and_eq_true, beq_iff_eq] at hB
    obtain ⟨hr, hB'⟩ := hB
    have hri : i ∈ Region.ready md ops listed := by rw [hr]; simp
    simp only [wpFT] at h
    split at h
    · exact h.elim
    · rename_i o ho
      exact anyG_loud ho hr (fun a w h => anyG_of_ft hs sy r _ a w (hcl.set hri) hB' h) h
  | .one i 2 r, listed, a, w, hcl, hB, h => by
    simp only [FT.good, Bool.and_eq_true, beq_iff_eq] at hB
    obtain ⟨⟨hr, hsy⟩, hB'⟩ := hB
    have hri : i ∈ Region.ready md ops listed := by rw [hr]; simp
    have hSi : syL sy i = true := hsy
    simp only [wpFT] at h
    split at h
    · exact h.elim
    · rename_i o ho
      intro w' hw'
      refine ⟨fun e => (by rw [hr] at e; cases e), fun j hj => ?_⟩
      rw [hr] at hj
      obtain rfl : j = i := by simpa using hj
      unfold opG
      simp only [ho]
      unfold loudStep at h
      by_cases hw : Region.wanted o (yielded ops a.tmps) = true
      · simp only [hw, if_true] at h ⊢
        exact Oper.wp_mono (fun a' w'' hh => ⟨fun e => (by rw [hSi] at e; cases e), anyG_of_ft hs sy r _ _ _ (hcl.set hri) hB' hh.2⟩) (h w' hw')
      · simp only [hw] at h ⊢
        exact ⟨fun e => (by rw [hSi] at e; cases e), anyG_later (anyG_of_ft hs sy r _ _ _ (hcl.set hri) hB' h) hw'⟩
  | .one i (k + 3) r, listed, a, w, hcl, hB, h => by
    simp only [FT.good, Bool.and_eq_true] at hB
    obtain ⟨⟨hr, hf⟩, hB'⟩ := hB
    have hri : i ∈ Region.ready md ops listed := by simpa using hr
    simp only [wpFT] at h
    split at h
    · exact h.elim
    · rename_i o ho
      unfold pureStep at h
      by_cases hw : Region.wanted o (yielded ops a.tmps) = true
      · simp only [hw, if_true] at h
        obtain ⟨v, h1, h2⟩ := h
        exact anyG_pure ho (Region.noSelect_spec hs) r.len listed a w (Region.free_spec ho hf) hri (.inl ⟨hw, h1⟩) (anyG_of_ft hs sy r _ _ _ (hcl.set hri) hB' h2)
      · simp only [hw] at h
        exact anyG_pure ho (Region.noSelect_spec hs) r.len listed a w (Region.free_spec ho hf) hri (.inr ⟨by simpa using hw, rfl⟩) (anyG_of_ft hs sy r _ _ _ (hcl.set hri) hB' h)
  | .two i n r q, listed, a, w, hcl, hB, h => by
    simp only [FT.good, Bool.and_eq_true, beq_iff_eq] at hB
    obtain ⟨⟨⟨hr, hlen⟩, hB1⟩, hB2⟩ := hB
    have hri : i ∈ Region.ready md ops listed := by rw [hr]; simp
    have hrn : n ∈ Region.ready md ops listed := by rw [hr]; simp
    simp only [wpFT] at h
    split at h
    · rename_i oi on hoi hon
      refine anyG_two hoi hon hr ?_ ?_ h.1 h.2
      · exact fun a w h => anyG_of_ft hs sy r _ a w (hcl.set hri) hB1 h
      · intro a w h
        have := anyG_of_ft hs sy q _ a w (hcl.set hrn) hB2 h
        rw [← hlen] at this
        exact this
    · exact h.elim

structure FG (P : Program) (ops : Array Oper) (Q : Act → World → Prop) (T : FT) (a : Act) (w : World) : Prop where
  out : wpFT P ops Q T a w

/-- The region, in the chosen order. -/
theorem wp_region_ft {id : Nat} {Q' : Exit → Act → World → Prop} {a : Act} {w : World} {l : List Oper} (T : FT) (sy : List Nat) (hm : P.follows .mixedOrders = true)
    (hB : (Region.noSelect l.toArray && decide (T.len = l.length) && T.good .any l.toArray sy (Array.replicate l.length false)) = true)
    (h : FG P l.toArray (fun a' w' => Q' .normal a' w') T a w) : (Code.region id l.toArray true).wp P Q' a w := by
  simp only [Bool.and_eq_true, decide_eq_true_eq] at hB
  obtain ⟨⟨hs, hl⟩, hB⟩ := hB
  refine wp_region_any hm (wpAny_of_G (S := syL sy) (Q := fun a' w' => Q' .normal a' w') (fun _ _ h => h) _ _ _ _ ?_)
  have h2 := anyG_later (anyG_of_ft (md := .any) hs sy T (Array.replicate l.length false) a w (closed_start _) hB h.out) (Grow.drew w)
  rw [hl] at h2
  simpa using h2

/-! ### Its steps -/
theorem fg_nil {a : Act} {w : World} (h : ∀ w', Grow w w' → Q a w') : FG P ops Q (FT.run [] .nil) a w := ⟨h⟩
theorem fg_calm {i : Nat} {r : List (Nat × Nat)} {T : FT} {o : Oper} {a : Act} {w : World} (ho : ops[i]? = some o)
    (h : ∀ K : Act → Prop, (∀ a, FG P ops Q (FT.run r T) a w → K a) → calmStep P ops o K a w) : FG P ops Q (FT.run ((i, 0) :: r) T) a w :=
  ⟨by simp only [FT.run, wpFT, ho]; exact h _ fun _ h => h.out⟩
theorem fg_pure {i : Nat} {r : List (Nat × Nat)} {T : FT} {o : Oper} {a : Act} {w : World} (ho : ops[i]? = some o)
    (h : ∀ K : Act → Prop, (∀ a, FG P ops Q (FT.run r T) a w → K a) → pureStep P ops o K a) : FG P ops Q (FT.run ((i, 3) :: r) T) a w :=
  ⟨by simp only [FT.run, wpFT, ho]; exact h _ fun _ h => h.out⟩
theorem fg_load {i : Nat} {r : List (Nat × Nat)} {T : FT} {o : Oper} {a : Act} {w : World} (ho : ops[i]? = some o) (hw : Region.wanted o (yielded ops a.tmps) = true)
    (ty : TypeId) (x : Operand) (hop : o.op = .load ty x) (V v : Value) (hx : a.eval x = V) (hl : ∀ y : Later w, (Instr.loadAt ty V).run P y.1 = .ok v y.1)
    (h : FG P ops Q (FT.run r T) (a.put o.dst v) w) : FG P ops Q (FT.run ((i, 0) :: r) T) a w := fg_calm ho fun K hK => by
  unfold calmStep
  rw [if_pos hw]
  refine ⟨v, fun y => ?_, hK _ h⟩
  unfold calmAt execOp
  simp only [hop, hx, Sem.run_bind, Sem.run_pure, Result.andThen_ok, hl y]
  exact ⟨rfl, rfl⟩
theorem loudStep_of_list {o : Oper} {b : Bool} {a : Act} {w : World} {K : Act → World → Prop} (hw : Region.wanted o (yielded ops a.tmps) = true)
    (h : ∀ w', Grow w w' → ∀ K2 : Act → World → Prop, (∀ a' w'', (b = false → Grow w' w'') → K a' w'' → K2 a' w'') → wpList P ops (Exit.then K2 NoQ) [o] a w') : loudStep P ops b o K a w := by
  unfold loudStep
  rw [if_pos hw]
  exact fun w' hw' => wp_of_list hw (h w' hw' _ fun a' w'' h1 h2 => ⟨h1, h2⟩)
theorem fg_loud {i : Nat} {r : List (Nat × Nat)} {T : FT} {o : Oper} {a : Act} {w : World} (ho : ops[i]? = some o) (hw : Region.wanted o (yielded ops a.tmps) = true)
    (h : ∀ w', Grow w w' → ∀ K : Act → World → Prop, (∀ a' w'', Grow w' w'' → FG P ops Q (FT.run r T) a' w'' → K a' w'') → wpList P ops (Exit.then K NoQ) [o] a w') : FG P ops Q (FT.run ((i, 1) :: r) T) a w :=
  ⟨by simp only [FT.run, wpFT, ho]; exact loudStep_of_list hw fun w' hw' K hK => h w' hw' K fun a' w'' g h => hK a' w'' (fun _ => g) h.out⟩
theorem fg_sync {i : Nat} {r : List (Nat × Nat)} {T : FT} {o : Oper} {a : Act} {w : World} (ho : ops[i]? = some o) (hw : Region.wanted o (yielded ops a.tmps) = true)
    (h : ∀ w', Grow w w' → ∀ K : Act → World → Prop, (∀ a' w'', FG P ops Q (FT.run r T) a' w'' → K a' w'') → wpList P ops (Exit.then K NoQ) [o] a w') : FG P ops Q (FT.run ((i, 2) :: r) T) a w :=
  ⟨by simp only [FT.run, wpFT, ho]; exact loudStep_of_list hw fun w' hw' K hK => h w' hw' K fun a' w'' h => hK a' w'' (fun e => by cases e) h.out⟩
theorem fg_two {i n : Nat} {r q : FT} {oi on : Oper} {a : Act} {w : World} (hi : ops[i]? = some oi) (hn : ops[n]? = some on)
    (h1 : FG P ops Q (FT.run [(i, 1)] r) a w) (h2 : FG P ops Q (FT.run [(n, 1)] q) a w) : FG P ops Q (FT.run [] (.two i n r q)) a w := by
  obtain ⟨h1⟩ := h1
  obtain ⟨h2⟩ := h2
  simp only [FT.run, wpFT, hi, hn] at h1 h2
  exact ⟨by simp only [FT.run, wpFT, hi, hn]; exact ⟨h1, h2⟩⟩
theorem fg_buildSlice {i : Nat} {r : List (Nat × Nat)} {T : FT} {o : Oper} {a : Act} {w : World} (ho : ops[i]? = some o) (hw : Region.wanted o (yielded ops a.tmps) = true)
    (ty : TypeId) (k : Nat) (ps : Array (Nat × Operand)) (hop : o.op = .buildSlice ty k ps) (PS : List (Nat × Value)) (C : Array Value) (et : TypeId) (n c : Nat) (hx : (ps.toList.map fun p => (p.1, a.eval p.2)) = PS)
    (hl : ∀ y : World, (Instr.buildSlice ty k PS.toArray).run P y = .ok (.slice (some ⟨y.heap.size, 0, none⟩) n c) (y.alloc (.cells C et)))
    (h : ∀ g w', Grow w w' → w.heap.size ≤ g → w'.heap[g]? = some (.cells C et (0, 0)) → FG P ops Q (FT.run r T) (a.put o.dst (.slice (some ⟨g, 0, none⟩) n c)) w') : FG P ops Q (FT.run ((i, 1) :: r) T) a w := by
  refine ⟨?_⟩
  simp only [FT.run, wpFT, ho]
  unfold loudStep
  rw [if_pos hw]
  intro w' hw'
  have e : (ps.map fun (i, x) => (i, a.eval x)) = PS.toArray := Array.ext' (by rw [Array.toList_map]; exact hx)
  have g : Grow w' (w'.alloc (.cells C et)) := (Below.refl _ _).alloc (Nat.le_refl _) _
  unfold Oper.wp execOp
  simp only [hop, e, Sem.run_bind, Sem.run_pure, Result.andThen_ok, hl]
  exact ⟨fun _ => g, (h _ _ (Grow.trans hw' g) hw'.size (by show (w'.heap.push _)[w'.heap.size]? = _; simp)).out⟩
end
end Go.Mix
