/-
  A region that draws its order, walked once in an order of our choice: operations that only read, or call what only makes new memory and hands back one known value ('calm'), may be taken first; any other operation ('loud') is taken where it alone may come up.
  The make follows the library's own two proofs on orders (Derived/Orders, Derived/Deep/Quiet), here over worlds that grow.
-/
import Derived.Deep.Quiet
import Derived.Below
import Derived.WalkKit
namespace Go.MixT
open Go.RowKit

/-- w' is w with new memory; what was there has not changed. -/
def Sm (w w' : World) : Prop := Below w.heap.size w w'
theorem Sm.refl (w : World) : Sm w w := Below.refl _ _
theorem Sm.trans {a b c : World} (h : Sm a b) (k : Sm b c) : Sm a c := Below.trans h (Below.mono k (Below.size h))
theorem Sm.drew (w : World) : Sm w w.drew := (Below.refl _ _).drew

/-- Of w' the blocks that N names are as they were in w. -/
structure Grow (N : Nat → Prop) (w w' : World) : Prop where
  os : w'.os = w.os
  tape : w'.tape = w.tape
  output : w'.output = w.output
  size : w.heap.size ≤ w'.heap.size
  keep : ∀ k, N k → k < w.heap.size → w'.heap[k]? = w.heap[k]?
theorem Grow.refl {N : Nat → Prop} (w : World) : Grow N w w := ⟨rfl, rfl, rfl, Nat.le_refl _, fun _ _ _ => rfl⟩
theorem Grow.trans {N : Nat → Prop} {a b c : World} (h : Grow N a b) (k : Grow N b c) : Grow N a c :=
  ⟨k.os.trans h.os, k.tape.trans h.tape, k.output.trans h.output, Nat.le_trans h.size k.size, fun i hi hl => (k.keep i hi (Nat.lt_of_lt_of_le hl h.size)).trans (h.keep i hi hl)⟩
theorem Sm.grow {N : Nat → Prop} {a b : World} (h : Sm a b) : Grow N a b := ⟨h.os, h.tape, h.output, h.size, fun k _ hk => h.block k hk⟩

/-- A world behind w. -/
def Later (N : Nat → Prop) (w : World) := { w' : World // Grow N w w' }

instance (N : Nat → Prop) (w : World) : Nonempty (Later N w) := ⟨⟨w, Grow.refl w⟩⟩

/-- An end by panic, the deferred ones being D. -/
def PanQ (D : List Deferred) (E : List PanicEntry → World → Prop) : Exit → Act → World → Prop
  | .panic c, a, w => a.defers = D ∧ E c w
  | _, _, _ => False

section
variable {D : List Deferred} {E : List PanicEntry → World → Prop} {N : Nat → Prop} {P : Program} {ops : Array Oper} {md : Region.Mode} {Q : Act → World → Prop}

def calmUpon (_N : Nat → Prop) (P : Program) (w : World) (v : Value) : Result Next → Prop
  | .ok (.value u) w' => w' = w ∧ u = v
  | .ok .skip w' => w' = w ∧ v = undef
  | .ok (.enter f args) w' => w' = w ∧ Calls P f args w (fun e w'' => e = .returned v ∧ Sm w w'')
  | _ => False

def calmAt (N : Nat → Prop) (P : Program) (o : Oper) (a : Act) (w : World) (v : Value) : Prop := calmUpon N P w v ((execOp a.eval o).run P w)

def CalmIn (N : Nat → Prop) (P : Program) (ops : Array Oper) (w : World) (o : Oper) (v : Value) (a : Act) : Prop :=
  (Region.wanted o (yielded ops a.tmps) = true ∧ ∀ w', Grow N w w' → calmAt N P o a w' v) ∨ (Region.wanted o (yielded ops a.tmps) = false ∧ v = undef)

theorem CalmIn.of_same {w : World} {o : Oper} {v : Value} {a a' : Act} (hy : CalmIn N P ops w o v a) (he : execOp a'.eval o = execOp a.eval o)
    (hw : Region.wanted o (yielded ops a'.tmps) = Region.wanted o (yielded ops a.tmps)) : CalmIn N P ops w o v a' := by
  unfold CalmIn calmAt at *
  rw [he, hw]
  exact hy

theorem CalmIn.later {w w' : World} {o : Oper} {v : Value} {a : Act} (hy : CalmIn N P ops w o v a) (hg : Grow N w w') : CalmIn N P ops w' o v a :=
  hy.imp (fun h => ⟨h.1, fun x hx => h.2 x (hg.trans hx)⟩) id

def opG (D : List Deferred) (E : List PanicEntry → World → Prop) (P : Program) (ops : Array Oper) (i : Nat) (K : Act → World → Prop) (a : Act) (w : World) : Prop :=
  match ops[i]? with
  | none => K a w
  | some o => if Region.wanted o (yielded ops a.tmps) then o.wp P a w K (PanQ D E) else K (a.put o.dst undef) w

theorem opG_mono {i : Nat} {a : Act} {w : World} {K K' : Act → World → Prop} (h : ∀ a w, K a w → K' a w) (hh : opG D E P ops i K a w) : opG D E P ops i K' a w := by
  unfold opG at *
  split
  · exact h _ _ (by simpa [*] using hh)
  · rename_i o ho
    simp only [ho] at hh
    split
    · rename_i hw; simp only [hw, if_true] at hh; exact Oper.wp_mono h hh
    · rename_i hw; simp only [hw] at hh; exact h _ _ hh

theorem wp_of_panQ {o : Oper} {a : Act} {w : World} {K : Act → World → Prop} {Q' : Exit → Act → World → Prop} (hE : ∀ c a' w', a'.defers = D → E c w' → Q' (.panic c) a' w') (hh : o.wp P a w K (PanQ D E)) : o.wp P a w K Q' := by
  unfold Oper.wp at *
  generalize (execOp a.eval o).run P w = r at *
  cases r with
  | ok n w' =>
    cases n <;> simp only [Oper.upon] at hh ⊢
    case enter f args =>
      exact Calls.mono hh fun e w'' he => by
        cases e with
        | returned u => exact he
        | panicked c => exact hE _ _ _ he.1 he.2
        | outgrown => obtain ⟨_, _, h⟩ := he; exact h.elim
    all_goals exact hh
  | halt x w' =>
    cases x <;> simp only [Oper.upon] at hh ⊢
    case panic v => exact hE _ _ _ hh.1 hh.2

/-- S: the operations that need not leave old memory alone ('sync'): each comes behind all that was taken first. -/
def anyG (D : List Deferred) (E : List PanicEntry → World → Prop) (N : Nat → Prop) (P : Program) (md : Region.Mode) (ops : Array Oper) (S : Nat → Bool) (Q : Act → World → Prop) : Nat → Array Bool → Act → World → Prop
  | 0, listed, a, w => ∀ w', Sm w w' → Region.ready md ops listed = [] ∧ Q a w'
  | fuel + 1, listed, a, w => ∀ w', Sm w w' → (Region.ready md ops listed = [] → Q a w') ∧
      ∀ i ∈ Region.ready md ops listed, opG D E P ops i (fun a' w'' => (S i = false → Grow N w' w'') ∧ anyG D E N P md ops S Q fuel (listed.setIfInBounds i true) a' w'') a w'

variable {S : Nat → Bool}

theorem anyG_later : ∀ {fuel : Nat} {listed : Array Bool} {a : Act} {w w' : World}, anyG D E N P md ops S Q fuel listed a w → Sm w w' → anyG D E N P md ops S Q fuel listed a w'
  | 0, _, _, _, _, h, hg => fun x hx => h x (hg.trans hx)
  | _ + 1, _, _, _, _, h, hg => fun x hx => h x (hg.trans hx)

theorem wpAny_of_G {Q' : Exit → Act → World → Prop} (hE : ∀ c a' w', a'.defers = D → E c w' → Q' (.panic c) a' w') (hQ : ∀ a w, Q a w → Q' .normal a w) : ∀ (fuel : Nat) (listed : Array Bool) (a : Act) (w : World),
    anyG D E N P md ops S Q fuel listed a w → wpAny P md ops Q' fuel listed a w
  | 0, _, _, w, h => ⟨(h w (Sm.refl w)).1, hQ _ _ (h w (Sm.refl w)).2⟩
  | fuel + 1, listed, a, w, h => ⟨fun h0 => hQ _ _ ((h w (Sm.refl w)).1 h0), fun i hi => by
      have h1 := (h w (Sm.refl w)).2 i hi
      have h2 := opG_mono (K' := wpAny P md ops Q' fuel (listed.setIfInBounds i true)) (fun a' w' hh => wpAny_of_G hE hQ fuel _ a' w' hh.2) h1
      unfold opG at h2
      unfold wpOp
      split
      · rename_i ho; simp only [ho] at h2; exact h2
      · rename_i o ho
        simp only [ho] at h2
        split
        · rename_i hw; simp only [hw, if_true] at h2; exact .inl (wp_of_panQ hE h2)
        · rename_i hw; simp only [hw] at h2; exact h2⟩

/-- What has come up has come up behind what it waits for. -/
def Closed (md : Region.Mode) (ops : Array Oper) (listed : Array Bool) : Prop :=
  ∀ j oj, ops[j]? = some oj → listed.getD j false = true → ∀ e ∈ oj.after, Region.binds md e = true → listed.getD e.on false = true

theorem Closed.set {i : Nat} {listed : Array Bool} (inv : Closed md ops listed) (hi : i ∈ Region.ready md ops listed) : Closed md ops (listed.setIfInBounds i true) := by
  obtain ⟨_, oi, hoi, hall⟩ := mem_ready.1 hi
  intro j oj hj hl e he hb
  by_cases hij : i = j
  · subst hij
    have : oj = oi := Option.some.inj (hj.symm.trans hoi)
    subst this
    exact getD_set_true (hall e he hb)
  · rw [getD_set_ne false hij] at hl
    exact getD_set_true (inv j oj hj hl e he hb)

/-- Operation j comes up behind i. -/
def ancB (md : Region.Mode) (ops : Array Oper) : Nat → Nat → Nat → Bool
  | 0, _, _ => false
  | f + 1, i, j => match ops[j]? with
    | some oj => oj.after.any fun e => Region.binds md e && (e.on == i || ancB md ops f i e.on)
    | none => false

theorem ancB_listed {listed : Array Bool} (inv : Closed md ops listed) : ∀ (f i j : Nat), ancB md ops f i j = true → listed.getD j false = true → listed.getD i false = true
  | f + 1, i, j, h, hl => by
    unfold ancB at h
    split at h
    · rename_i oj hj
      obtain ⟨e, he, hb⟩ := Array.any_eq_true'.1 h
      simp only [Bool.and_eq_true, Bool.or_eq_true, beq_iff_eq] at hb
      have h1 := inv j oj hj hl e he hb.1
      rcases hb.2 with h2 | h2
      · rw [← h2]; exact h1
      · exact ancB_listed inv f i e.on h2 h1
    · cases h

theorem ancB_ready {listed : Array Bool} (inv : Closed md ops listed) (f i j : Nat) (h : ancB md ops f i j = true) (hr : j ∈ Region.ready md ops listed) : listed.getD i false = true := by
  cases f with
  | zero => cases h
  | succ f =>
    obtain ⟨_, oj, hoj, hall⟩ := mem_ready.1 hr
    unfold ancB at h
    rw [hoj] at h
    obtain ⟨e, he, hb⟩ := Array.any_eq_true'.1 h
    simp only [Bool.and_eq_true, Bool.or_eq_true, beq_iff_eq] at hb
    have h1 := hall e he hb.1
    rcases hb.2 with h2 | h2
    · rw [← h2]; exact h1
    · exact ancB_listed inv f i e.on h2 h1

theorem CalmIn.opG {i : Nat} {o : Oper} {v : Value} {a : Act} {w w' : World} (hi : ops[i]? = some o) (hy : CalmIn N P ops w o v a) (hg : Grow N w w') {K : Act → World → Prop}
    (h : ∀ w'', Sm w' w'' → K (a.put o.dst v) w'') : opG D E P ops i K a w' := by
  unfold MixT.opG
  simp only [hi]
  rcases hy with ⟨hw, hv⟩ | ⟨hw, rfl⟩
  · simp only [hw, if_true]
    have h3 := hv w' hg
    unfold calmAt at h3
    unfold Oper.wp
    generalize (execOp a.eval o).run P w' = r at *
    cases r with
    | ok n x =>
      cases n <;> simp only [calmUpon] at h3 <;> simp only [Oper.upon]
      case value u => obtain ⟨e1, e2⟩ := h3; rw [e1, e2]; exact h _ (Sm.refl _)
      case skip => obtain ⟨e1, e2⟩ := h3; rw [e1, ← e2]; exact h _ (Sm.refl _)
      case enter f args =>
        obtain ⟨e1, hc⟩ := h3
        rw [e1]
        exact hc.mono fun e w'' ⟨he, hw''⟩ => by subst he; exact h _ hw''
    | halt x y => simp only [calmUpon] at h3
  · simp only [hw, Bool.false_eq_true, if_false]; exact h _ (Sm.refl _)

theorem panQ_put {x : Exit} {a : Act} {d : Option Nat} {v : Value} {w : World} (h : PanQ D E x (a.put d v) w) : PanQ D E x a w := by
  cases x with
  | panic c => exact ⟨by have h1 := h.1; cases d <;> exact h1, h.2⟩
  | _ => exact h.elim

theorem opG_putY {j : Nat} {oi oj : Oper} {v : Value} (Y : Act → Prop) (hj : ops[j]? = some oj) (hap : oi.apart ops oj = true)
    (hsj : ∀ cs b, oj.op ≠ .select cs b) (keep : ∀ (a : Act), Y a → ∀ u, Y (a.put oj.dst u)) {K : Act → World → Prop} {a : Act} {w : World} (keepD : ∀ d, Y { a with defers := d :: a.defers })
    (hy : Y a) (h : opG D E P ops j K (a.put oi.dst v) w) :
    opG D E P ops j (fun a' w' => Y a' ∧ K (a'.put oi.dst v) w') a w := by
  obtain ⟨h1, h2, h3⟩ := Oper.apart_spec hap
  unfold opG at *
  simp only [hj] at *
  rw [wanted_put oj a oi.dst v h1] at h
  split
  · rename_i hw
    simp only [hw, if_true] at h
    unfold Oper.wp at *
    rw [execOp_put oj hsj a oi.dst v h1] at h
    generalize (execOp a.eval oj).run P w = r at *
    cases r with
    | ok n w' =>
      cases n <;> simp only [Oper.upon] at h ⊢
      case value u => exact ⟨keep a hy u, by rw [← Act.put_comm a v u h2]; exact h⟩
      case skip => exact ⟨keep a hy _, by rw [← Act.put_comm a v undef h2]; exact h⟩
      case defer d =>
        refine ⟨keep _ (keepD d) _, ?_⟩
        rw [← Act.put_comm _ v undef h2, ← Act.put_defers]
        exact h
      case enter f args =>
        refine Calls.mono h fun e w'' he => ?_
        cases e with
        | returned u => exact ⟨keep a hy u, by rw [← Act.put_comm a v u h2]; exact he⟩
        | panicked c => exact panQ_put he
        | outgrown => exact he
      case row row args => exact Rows.mono h fun u w'' he => ⟨keep a hy u, by rw [← Act.put_comm a v u h2]; exact he⟩
    | halt x w' => cases x <;> simp only [Oper.upon] at h ⊢ <;> first | exact h | exact panQ_put h
  · rename_i hw
    simp only [hw] at h
    exact ⟨keep a hy _, by rw [← Act.put_comm a v undef h2]; exact h⟩

theorem opG_put {j : Nat} {oi oj : Oper} {v : Value} (hj : ops[j]? = some oj) (hap : oi.apart ops oj = true)
    (hsi : ∀ cs b, oi.op ≠ .select cs b) (hsj : ∀ cs b, oj.op ≠ .select cs b) {K : Act → World → Prop} {a : Act} {w w0 : World}
    (hy : CalmIn N P ops w0 oi v a) (h : opG D E P ops j K (a.put oi.dst v) w) :
    opG D E P ops j (fun a' w' => CalmIn N P ops w0 oi v a' ∧ K (a'.put oi.dst v) w') a w := by
  obtain ⟨_, _, h3⟩ := Oper.apart_spec hap
  exact opG_putY (CalmIn N P ops w0 oi v) hj hap hsj (fun a hy u => hy.of_same (execOp_put oi hsi a oj.dst u h3) (wanted_put oi a oj.dst u h3)) (fun d => hy.of_same rfl rfl) hy h

/-- Calm in every world. -/
def PureIn (N : Nat → Prop) (P : Program) (ops : Array Oper) (o : Oper) (v : Value) (a : Act) : Prop :=
  (Region.wanted o (yielded ops a.tmps) = true ∧ ∀ w', calmAt N P o a w' v) ∨ (Region.wanted o (yielded ops a.tmps) = false ∧ v = undef)

theorem PureIn.calm {o : Oper} {v : Value} {a : Act} (h : PureIn N P ops o v a) (w : World) : CalmIn N P ops w o v a := h.imp (fun h => ⟨h.1, fun x _ => h.2 x⟩) id

theorem PureIn.of_same {o : Oper} {v : Value} {a a' : Act} (hy : PureIn N P ops o v a) (he : execOp a'.eval o = execOp a.eval o)
    (hw : Region.wanted o (yielded ops a'.tmps) = Region.wanted o (yielded ops a.tmps)) : PureIn N P ops o v a' := by
  unfold PureIn calmAt at *
  rw [he, hw]
  exact hy

theorem anyG_pure {i : Nat} {oi : Oper} {v : Value} (hi : ops[i]? = some oi) (hsel : ∀ (j : Nat) (o : Oper) cs b, ops[j]? = some o → o.op ≠ .select cs b) :
    ∀ (fuel : Nat) (listed : Array Bool) (a : Act) (w : World),
      (∀ j oj, ops[j]? = some oj → j ≠ i → listed.getD j true = false → (∀ e ∈ oj.after, Region.binds md e = true → e.on ≠ i) → oi.apart ops oj = true) →
      i ∈ Region.ready md ops listed → PureIn N P ops oi v a →
      anyG D E N P md ops S Q fuel (listed.setIfInBounds i true) (a.put oi.dst v) w → anyG D E N P md ops S Q (fuel + 1) listed a w := by
  intro fuel
  induction fuel with
  | zero =>
    intro listed a w _ hr hy H w' hw'
    refine ⟨fun h => (by rw [h] at hr; cases hr), fun j hj => ?_⟩
    by_cases hji : j = i
    · subst hji; exact (hy.calm w).opG hi hw'.grow fun w'' hg => ⟨fun _ => hg.grow, anyG_later H (hw'.trans hg)⟩
    · have := ready_mono hj hji
      rw [(H w' hw').1] at this
      cases this
  | succ fuel ih =>
    intro listed a w hfree hr hy H w' hw'
    refine ⟨fun h => (by rw [h] at hr; cases hr), fun j hj => ?_⟩
    by_cases hji : j = i
    · subst hji; exact (hy.calm w).opG hi hw'.grow fun w'' hg => ⟨fun _ => hg.grow, anyG_later H (hw'.trans hg)⟩
    · have h1 := (H w' hw').2 j (ready_mono hj hji)
      obtain ⟨hjun, oj, hoj, hall⟩ := mem_ready.1 hj
      have hnot : ∀ e ∈ oj.after, Region.binds md e = true → e.on ≠ i := fun e he hb heq => by
        have h1 := hall e he hb
        have h0 := (mem_ready.1 hr).1
        rw [heq] at h1
        rcases Nat.lt_or_ge i listed.size with h' | h'
        · simp [h'] at h0 h1; rw [h0] at h1; cases h1
        · simp [Array.getElem?_eq_none h'] at h1
      have hap := hfree j oj hoj hji hjun hnot
      obtain ⟨_, _, h3⟩ := Oper.apart_spec hap
      have h2 := opG_putY (PureIn N P ops oi v) hoj hap (fun cs b => hsel j oj cs b hoj) (fun a hy u => hy.of_same (execOp_put oi (fun cs b => hsel i oi cs b hi) a oj.dst u h3) (wanted_put oi a oj.dst u h3)) (fun d => hy.of_same rfl rfl) hy h1
      have hfree' : ∀ k ok, ops[k]? = some ok → k ≠ i → (listed.setIfInBounds j true).getD k true = false →
          (∀ e ∈ ok.after, Region.binds md e = true → e.on ≠ i) → oi.apart ops ok = true := fun k ok hk hki hun hno => by
        refine hfree k ok hk hki ?_ hno
        by_cases hjk : j = k
        · subst hjk; exact hjun
        · rw [getD_set_ne true hjk] at hun; exact hun
      refine opG_mono (fun a' w'' h3 => ⟨h3.2.1, ih (listed.setIfInBounds j true) a' w'' hfree' (ready_mono hr (Ne.symm hji)) h3.1 ?_⟩) h2
      rw [Array.setIfInBounds_comm _ _ hji]
      exact h3.2.2

theorem anyG_first {i : Nat} {oi : Oper} {v : Value} (hi : ops[i]? = some oi) (hsel : ∀ (j : Nat) (o : Oper) cs b, ops[j]? = some o → o.op ≠ .select cs b) :
    ∀ (fuel : Nat) (listed : Array Bool) (a : Act) (w : World),
      (∀ j oj, ops[j]? = some oj → j ≠ i → listed.getD j true = false → (∀ e ∈ oj.after, Region.binds md e = true → e.on ≠ i) → oi.apart ops oj = true) →
      Closed md ops listed → (∀ j, j ≠ i → S j = true → listed.getD j false = true ∨ ∃ f, ancB md ops f i j = true) → i ∈ Region.ready md ops listed → CalmIn N P ops w oi v a →
      anyG D E N P md ops S Q fuel (listed.setIfInBounds i true) (a.put oi.dst v) w → anyG D E N P md ops S Q (fuel + 1) listed a w := by
  intro fuel
  induction fuel with
  | zero =>
    intro listed a w _ _ _ hr hy H w' hw'
    refine ⟨fun h => (by rw [h] at hr; cases hr), fun j hj => ?_⟩
    by_cases hji : j = i
    · subst hji; exact hy.opG hi hw'.grow fun w'' hg => ⟨fun _ => hg.grow, anyG_later H (hw'.trans hg)⟩
    · have := ready_mono hj hji
      rw [(H w' hw').1] at this
      cases this
  | succ fuel ih =>
    intro listed a w hfree hcl hanc hr hy H w' hw'
    refine ⟨fun h => (by rw [h] at hr; cases hr), fun j hj => ?_⟩
    by_cases hji : j = i
    · subst hji; exact hy.opG hi hw'.grow fun w'' hg => ⟨fun _ => hg.grow, anyG_later H (hw'.trans hg)⟩
    · have h1 := (H w' hw').2 j (ready_mono hj hji)
      obtain ⟨hjun, oj, hoj, hall⟩ := mem_ready.1 hj
      have hnot : ∀ e ∈ oj.after, Region.binds md e = true → e.on ≠ i := fun e he hb heq => by
        have h1 := hall e he hb
        have h0 := (mem_ready.1 hr).1
        rw [heq] at h1
        rcases Nat.lt_or_ge i listed.size with h' | h'
        · simp [h'] at h0 h1; rw [h0] at h1; cases h1
        · simp [Array.getElem?_eq_none h'] at h1
      have h2 := opG_put hoj (hfree j oj hoj hji hjun hnot) (fun cs b => hsel i oi cs b hi) (fun cs b => hsel j oj cs b hoj) hy h1
      have hfree' : ∀ k ok, ops[k]? = some ok → k ≠ i → (listed.setIfInBounds j true).getD k true = false →
          (∀ e ∈ ok.after, Region.binds md e = true → e.on ≠ i) → oi.apart ops ok = true := fun k ok hk hki hun hno => by
        refine hfree k ok hk hki ?_ hno
        by_cases hjk : j = k
        · subst hjk; exact hjun
        · rw [getD_set_ne true hjk] at hun; exact hun
      have hSj : S j = false := by
        cases hs : S j with
        | false => rfl
        | true =>
          rcases hanc j hji hs with h6 | ⟨f, hf⟩
          · rcases Nat.lt_or_ge j listed.size with h' | h'
            · simp [h'] at h6 hjun; rw [hjun] at h6; cases h6
            · simp [Array.getElem?_eq_none h'] at h6
          have h4 := ancB_ready hcl f i j hf hj
          have h5 := (mem_ready.1 hr).1
          rcases Nat.lt_or_ge i listed.size with h' | h'
          · simp [h'] at h4 h5; rw [h5] at h4; cases h4
          · simp [Array.getElem?_eq_none h'] at h4
      refine opG_mono (fun a' w'' h3 => ⟨h3.2.1, ih (listed.setIfInBounds j true) a' w'' hfree' (hcl.set hj) (fun k hk hs => (hanc k hk hs).imp getD_set_true id) (ready_mono hr (Ne.symm hji)) (h3.1.later (hw'.grow.trans (h3.2.1 hSj))) ?_⟩) h2
      rw [Array.setIfInBounds_comm _ _ hji]
      exact h3.2.2

/-! ### The chosen order -/

/-- 0: calm; 1: loud; 2: sync; 3: pure. -/
def mixB (md : Region.Mode) (ops : Array Oper) : List (Nat × Nat) → Array Bool → Bool
  | [], listed => (Region.ready md ops listed).isEmpty
  | (i, 0) :: r, listed => (Region.ready md ops listed).contains i && Region.free md ops listed i && (r.all fun x => decide (x.2 ≠ 2) || x.1 == i || ancB md ops ops.size i x.1) && mixB md ops r (listed.setIfInBounds i true)
  | (i, 3) :: r, listed => (Region.ready md ops listed).contains i && Region.free md ops listed i && mixB md ops r (listed.setIfInBounds i true)
  | (i, _) :: r, listed => (Region.ready md ops listed == [i]) && mixB md ops r (listed.setIfInBounds i true)

/-- The sync ones of an order. -/
def syncOf (l : List (Nat × Nat)) (i : Nat) : Bool := l.any fun x => x.1 == i && decide (x.2 = 2)

def calmStep (N : Nat → Prop) (P : Program) (ops : Array Oper) (o : Oper) (K : Act → Prop) (a : Act) (w : World) : Prop :=
  if Region.wanted o (yielded ops a.tmps) then ∃ v, (∀ x : Later N w, calmAt N P o a x.1 v) ∧ K (a.put o.dst v) else K (a.put o.dst undef)

def pureStep (N : Nat → Prop) (P : Program) (ops : Array Oper) (o : Oper) (K : Act → Prop) (a : Act) : Prop :=
  if Region.wanted o (yielded ops a.tmps) then ∃ v, (∀ x : World, calmAt N P o a x v) ∧ K (a.put o.dst v) else K (a.put o.dst undef)

def loudStep (D : List Deferred) (E : List PanicEntry → World → Prop) (N : Nat → Prop) (P : Program) (ops : Array Oper) (sync : Bool) (o : Oper) (K : Act → World → Prop) (a : Act) (w : World) : Prop :=
  if Region.wanted o (yielded ops a.tmps) then ∀ w', Sm w w' → o.wp P a w' (fun a' w'' => (sync = false → Grow N w' w'') ∧ K a' w'') (PanQ D E) else K (a.put o.dst undef) w

def wpMix (D : List Deferred) (E : List PanicEntry → World → Prop) (N : Nat → Prop) (P : Program) (ops : Array Oper) (Q : Act → World → Prop) : List (Nat × Nat) → Act → World → Prop
  | [], a, w => ∀ w', Sm w w' → Q a w'
  | (i, 0) :: r, a, w => match ops[i]? with
    | none => False
    | some o => calmStep N P ops o (fun a' => wpMix D E N P ops Q r a' w) a w
  | (i, 1) :: r, a, w => match ops[i]? with
    | none => False
    | some o => loudStep D E N P ops false o (wpMix D E N P ops Q r) a w
  | (i, 2) :: r, a, w => match ops[i]? with
    | none => False
    | some o => loudStep D E N P ops true o (wpMix D E N P ops Q r) a w
  | (i, 3) :: r, a, w => match ops[i]? with
    | none => False
    | some o => pureStep N P ops o (fun a' => wpMix D E N P ops Q r a' w) a
  | (_, _ + 4) :: _, _, _ => False

theorem getD_set_self {listed : Array Bool} {i : Nat} (h : listed.getD i true = false) : (listed.setIfInBounds i true).getD i false = true := by
  have hlt : i < listed.size := by
    rcases Nat.lt_or_ge i listed.size with h' | h'
    · exact h'
    · simp [Array.getElem?_eq_none h'] at h
  simp [hlt]

theorem anyG_of_mix (hs : Region.noSelect ops = true) : ∀ (l : List (Nat × Nat)) (listed : Array Bool) (a : Act) (w : World), Closed md ops listed → mixB md ops l listed = true →
    (∀ x ∈ l, x.2 = 2 → S x.1 = true) → (∀ j, S j = true → listed.getD j false = true ∨ syncOf l j = true) → wpMix D E N P ops Q l a w → anyG D E N P md ops S Q l.length listed a w
  | [], listed, a, w, _, hB, _, _, h => fun w' hw' => ⟨by simpa [mixB] using hB, h w' hw'⟩
  | (i, 0) :: r, listed, a, w, hcl, hB, hS, hcov, h => by
    simp only [mixB, Bool.and_eq_true] at hB
    obtain ⟨⟨⟨hr, hf⟩, hanc⟩, hB'⟩ := hB
    have hri : i ∈ Region.ready md ops listed := by simpa using hr
    have hcov' : ∀ j, S j = true → listed.getD j false = true ∨ syncOf r j = true := fun j hj => (hcov j hj).imp id fun h1 => by simpa [syncOf] using h1
    have hcov2 : ∀ j, S j = true → (listed.setIfInBounds i true).getD j false = true ∨ syncOf r j = true := fun j hj => (hcov' j hj).imp getD_set_true id
    have hanc' : ∀ j, j ≠ i → S j = true → listed.getD j false = true ∨ ∃ f, ancB md ops f i j = true := fun j hji hj => (hcov' j hj).imp id fun h1 => by
      unfold syncOf at h1
      obtain ⟨x, hx, hx2⟩ := List.any_eq_true.1 h1
      simp only [Bool.and_eq_true, beq_iff_eq, decide_eq_true_eq] at hx2
      have h2 := List.all_eq_true.1 hanc x hx
      simp only [Bool.or_eq_true, beq_iff_eq, decide_eq_true_eq] at h2
      rcases h2 with (h2 | h2) | h2
      · omega
      · exact absurd (hx2.1.symm.trans h2) hji
      · rw [hx2.1] at h2; exact ⟨_, h2⟩
    have hS' : ∀ x ∈ r, x.2 = 2 → S x.1 = true := fun x hx => hS x (List.mem_cons_of_mem _ hx)
    simp only [wpMix] at h
    split at h
    · exact h.elim
    · rename_i o ho
      unfold calmStep at h
      by_cases hw : Region.wanted o (yielded ops a.tmps) = true
      · simp only [hw, if_true] at h
        obtain ⟨v, h1, h2⟩ := h
        exact anyG_first ho (Region.noSelect_spec hs) r.length listed a w (Region.free_spec ho hf) hcl hanc' hri (.inl ⟨hw, fun w' hw' => h1 ⟨w', hw'⟩⟩) (anyG_of_mix hs r _ _ _ (hcl.set hri) hB' hS' hcov2 h2)
      · simp only [hw] at h
        exact anyG_first ho (Region.noSelect_spec hs) r.length listed a w (Region.free_spec ho hf) hcl hanc' hri (.inr ⟨by simpa using hw, rfl⟩) (anyG_of_mix hs r _ _ _ (hcl.set hri) hB' hS' hcov2 h)
  | (i, 1) :: r, listed, a, w, hcl, hB, hS, hcov, h => by
    simp only [mixB, Bool.and_eq_true, beq_iff_eq] at hB
    obtain ⟨hr, hB'⟩ := hB
    have hri : i ∈ Region.ready md ops listed := by rw [hr]; simp
    have hcov2 : ∀ j, S j = true → (listed.setIfInBounds i true).getD j false = true ∨ syncOf r j = true := fun j hj => (hcov j hj).imp getD_set_true fun h1 => by simpa [syncOf] using h1
    have hS' : ∀ x ∈ r, x.2 = 2 → S x.1 = true := fun x hx => hS x (List.mem_cons_of_mem _ hx)
    simp only [wpMix] at h
    split at h
    · exact h.elim
    · rename_i o ho
      intro w' hw'
      refine ⟨fun e => (by rw [hr] at e; cases e), fun j hj => ?_⟩
      rw [hr] at hj
      obtain rfl : j = i := by simpa using hj
      unfold opG
      simp only [ho]
      unfold loudStep at h
      by_cases hw : Region.wanted o (yielded ops a.tmps) = true
      · simp only [hw, if_true] at h ⊢
        exact Oper.wp_mono (fun a' w'' hh => ⟨fun _ => hh.1 (by simp), anyG_of_mix hs r _ _ _ (hcl.set hri) hB' hS' hcov2 hh.2⟩) (h w' hw')
      · simp only [hw] at h ⊢
        exact ⟨fun _ => Grow.refl _, anyG_later (anyG_of_mix hs r _ _ _ (hcl.set hri) hB' hS' hcov2 h) hw'⟩
  | (i, 2) :: r, listed, a, w, hcl, hB, hS, hcov, h => by
    simp only [mixB, Bool.and_eq_true, beq_iff_eq] at hB
    obtain ⟨hr, hB'⟩ := hB
    have hri : i ∈ Region.ready md ops listed := by rw [hr]; simp
    have hSi : S i = true := hS (i, 2) (by simp) rfl
    have hcov2 : ∀ j, S j = true → (listed.setIfInBounds i true).getD j false = true ∨ syncOf r j = true := fun j hj => by
      rcases hcov j hj with h1 | h1
      · exact .inl (getD_set_true h1)
      · unfold syncOf at h1 ⊢
        simp only [List.any_cons, Bool.or_eq_true, Bool.and_eq_true, beq_iff_eq] at h1
        rcases h1 with h1 | h1
        · rw [← h1.1]; exact .inl (getD_set_self (mem_ready.1 hri).1)
        · exact .inr h1
    have hS' : ∀ x ∈ r, x.2 = 2 → S x.1 = true := fun x hx => hS x (List.mem_cons_of_mem _ hx)
    simp only [wpMix] at h
    split at h
    · exact h.elim
    · rename_i o ho
      intro w' hw'
      refine ⟨fun e => (by rw [hr] at e; cases e), fun j hj => ?_⟩
      rw [hr] at hj
      obtain rfl : j = i := by simpa using hj
      unfold opG
      simp only [ho]
      unfold loudStep at h
      by_cases hw : Region.wanted o (yielded ops a.tmps) = true
      · simp only [hw, if_true] at h ⊢
        exact Oper.wp_mono (fun a' w'' hh => ⟨fun e => (by rw [hSi] at e; cases e), anyG_of_mix hs r _ _ _ (hcl.set hri) hB' hS' hcov2 hh.2⟩) (h w' hw')
      · simp only [hw] at h ⊢
        exact ⟨fun e => (by rw [hSi] at e; cases e), anyG_later (anyG_of_mix hs r _ _ _ (hcl.set hri) hB' hS' hcov2 h) hw'⟩
  | (i, 3) :: r, listed, a, w, hcl, hB, hS, hcov, h => by
    simp only [mixB, Bool.and_eq_true] at hB
    obtain ⟨⟨hr, hf⟩, hB'⟩ := hB
    have hri : i ∈ Region.ready md ops listed := by simpa using hr
    have hcov2 : ∀ j, S j = true → (listed.setIfInBounds i true).getD j false = true ∨ syncOf r j = true := fun j hj => (hcov j hj).imp getD_set_true fun h1 => by simpa [syncOf] using h1
    have hS' : ∀ x ∈ r, x.2 = 2 → S x.1 = true := fun x hx => hS x (List.mem_cons_of_mem _ hx)
    simp only [wpMix] at h
    split at h
    · exact h.elim
    · rename_i o ho
      unfold pureStep at h
      by_cases hw : Region.wanted o (yielded ops a.tmps) = true
      · simp only [hw, if_true] at h
        obtain ⟨v, h1, h2⟩ := h
        exact anyG_pure ho (Region.noSelect_spec hs) r.length listed a w (Region.free_spec ho hf) hri (.inl ⟨hw, h1⟩) (anyG_of_mix hs r _ _ _ (hcl.set hri) hB' hS' hcov2 h2)
      · simp only [hw] at h
        exact anyG_pure ho (Region.noSelect_spec hs) r.length listed a w (Region.free_spec ho hf) hri (.inr ⟨by simpa using hw, rfl⟩) (anyG_of_mix hs r _ _ _ (hcl.set hri) hB' hS' hcov2 h)
  | (_, _ + 4) :: _, _, _, _, _, _, _, _, h => h.elim

theorem closed_start (n : Nat) : Closed md ops (Array.replicate n false) := by
  intro j oj _ h
  rcases Nat.lt_or_ge j n with h' | h' <;> simp [h'] at h

/-- The region, in the chosen order. -/
theorem wp_region_mix {id : Nat} {Q' : Exit → Act → World → Prop} {a : Act} {w : World} {l : List Oper} (order : List (Nat × Nat)) (hm : P.follows .mixedOrders = true) (hE : ∀ c a' w', a'.defers = D → E c w' → Q' (.panic c) a' w')
    (hB : (Region.noSelect l.toArray && decide (order.length = l.length) && mixB .any l.toArray order (Array.replicate l.length false)) = true)
    (h : wpMix D E N P l.toArray (fun a' w' => Q' .normal a' w') order a w) : (Code.region id l.toArray true).wp P Q' a w := by
  simp only [Bool.and_eq_true, decide_eq_true_eq] at hB
  obtain ⟨⟨hs, hl⟩, hB⟩ := hB
  refine wp_region_any hm (wpAny_of_G (N := N) (S := syncOf order) (Q := fun a' w' => Q' .normal a' w') hE (fun _ _ h => h) _ _ _ _ ?_)
  have h2 := anyG_later (anyG_of_mix (md := .any) (S := syncOf order) hs order (Array.replicate l.length false) a w (closed_start _) hB
    (fun x hx hx2 => List.any_eq_true.2 ⟨x, hx, by simp [hx2]⟩) (fun j hj => .inr hj) h) (Sm.drew w)
  rw [hl] at h2
  simpa using h2

/-! ### Its steps -/

theorem mix_nil {a : Act} {w : World} (h : ∀ w', Sm w w' → Q a w') : wpMix D E N P ops Q [] a w := h

theorem mix_calm {i : Nat} {r : List (Nat × Nat)} {o : Oper} {a : Act} {w : World} (ho : ops[i]? = some o)
    (h : ∀ K : Act → Prop, (∀ a, wpMix D E N P ops Q r a w → K a) → calmStep N P ops o K a w) : wpMix D E N P ops Q ((i, 0) :: r) a w := by
  simp only [wpMix, ho]; exact h _ fun _ h => h

theorem wp_of_list {o : Oper} {a : Act} {w : World} {K : Act → World → Prop} (hw : Region.wanted o (yielded ops a.tmps) = true) (h1 : wpList P ops (Exit.then K (PanQ D E)) [o] a w) : o.wp P a w K (PanQ D E) := by
  unfold wpList at h1
  rw [if_pos hw] at h1
  rcases h1 with h1 | ⟨_, _, _, h1⟩
  · have h2 : o.wp P a w (wpList P ops (Exit.then K (PanQ D E)) []) (PanQ D E) := by
      unfold Oper.wp at *
      generalize (execOp a.eval o).run P w = x at *
      cases x with
      | ok n y =>
        cases n <;> simp only [Oper.upon] at h1 ⊢
        case enter f args =>
          exact Calls.mono h1 fun e w'' he => by
            cases e with
            | returned u => exact he
            | panicked c => exact he
            | outgrown => obtain ⟨_, _, h⟩ := he; exact h.elim
        all_goals exact h1
      | halt x y => cases x <;> simp only [Oper.upon] at h1 ⊢ <;> exact h1
    exact Oper.wp_mono (fun a' w'' hh => hh) h2
  · exact h1.elim

theorem mix_pure {i : Nat} {r : List (Nat × Nat)} {o : Oper} {a : Act} {w : World} (ho : ops[i]? = some o)
    (h : ∀ K : Act → Prop, (∀ a, wpMix D E N P ops Q r a w → K a) → pureStep N P ops o K a) : wpMix D E N P ops Q ((i, 3) :: r) a w := by
  simp only [wpMix, ho]; exact h _ fun _ h => h

theorem mix_loud {i : Nat} {r : List (Nat × Nat)} {o : Oper} {a : Act} {w : World} (ho : ops[i]? = some o) (hw : Region.wanted o (yielded ops a.tmps) = true)
    (h : ∀ w', Sm w w' → ∀ K : Act → World → Prop, (∀ a' w'', Grow N w' w'' → wpMix D E N P ops Q r a' w'' → K a' w'') → wpList P ops (Exit.then K (PanQ D E)) [o] a w') : wpMix D E N P ops Q ((i, 1) :: r) a w := by
  simp only [wpMix, ho, loudStep, hw, if_true]
  exact fun w' hw' => wp_of_list hw (h w' hw' _ fun a' w'' h1 h2 => ⟨fun _ => h1, h2⟩)

theorem mix_sync {i : Nat} {r : List (Nat × Nat)} {o : Oper} {a : Act} {w : World} (ho : ops[i]? = some o) (hw : Region.wanted o (yielded ops a.tmps) = true)
    (h : ∀ w', Sm w w' → ∀ K : Act → World → Prop, (∀ a' w'', wpMix D E N P ops Q r a' w'' → K a' w'') → wpList P ops (Exit.then K (PanQ D E)) [o] a w') : wpMix D E N P ops Q ((i, 2) :: r) a w := by
  simp only [wpMix, ho, loudStep, hw, if_true]
  exact fun w' hw' => wp_of_list hw (h w' hw' _ fun a' w'' h2 => ⟨fun e => (by cases e), h2⟩)

theorem mix_loud_skip {i : Nat} {r : List (Nat × Nat)} {o : Oper} {a : Act} {w : World} (ho : ops[i]? = some o) (hw : Region.wanted o (yielded ops a.tmps) = false)
    (h : wpMix D E N P ops Q r (a.put o.dst undef) w) : wpMix D E N P ops Q ((i, 1) :: r) a w := by
  simp only [wpMix, ho, loudStep, hw]; exact h

theorem mix_sync_skip {i : Nat} {r : List (Nat × Nat)} {o : Oper} {a : Act} {w : World} (ho : ops[i]? = some o) (hw : Region.wanted o (yielded ops a.tmps) = false)
    (h : wpMix D E N P ops Q r (a.put o.dst undef) w) : wpMix D E N P ops Q ((i, 2) :: r) a w := by
  simp only [wpMix, ho, loudStep, hw]; exact h

/-- A callee that hands back one known value and only makes memory. -/
theorem calls_calm {f : FuncId} {args : Array Value} {w : World} {v : Value} (h : Calls P f args w fun e w' => e = .returned v ∧ w = w') : Calls P f args w fun e w'' => e = .returned v ∧ Sm w w'' :=
  h.mono fun _ _ ⟨he, hw⟩ => ⟨he, by rw [← hw]; exact Sm.refl _⟩

end
attribute [go_sem] calmStep pureStep calmAt calmUpon
end Go.MixT
