/-
  The walk of told of package inflate: what is needed of frames; the parts of toldR.
-/
import Derived.Test.YtaapnjhkflpiiaaInf7
namespace Go.Proofs.Ytaapnjhkflpiiaa
open Go.RowKit Go.Mix

theorem Row.moved {S T : Nat → Prop} {e : TypeId} {w0 w w' : World} {v : Value} {xs : List Value} (h : Row S e w0 w v xs) (f : FrameS T w w') (hT : ∀ g, v.ownBlock = some g → T g) (hS : ∀ k, S k → T k) : Row S e w0 w' v xs := by
  refine ⟨⟨h.own.1, ?_⟩, h.off, h.frame.trans (f.sub hS)⟩
  rcases h.own.2 with ⟨rfl, h0⟩ | ⟨g, cap, cur, rfl, hb, hh, hr⟩
  · exact .inl ⟨rfl, h0⟩
  · exact .inr ⟨g, cap, cur, rfl, hb, (f.keep g (hT g rfl)).2.trans hh, hr⟩

theorem Row.held {S : Nat → Prop} {e : TypeId} {w0 w : World} {v : Value} {xs : List Value} (h : Row S e w0 w v xs) : ∀ g, v.ownBlock = some g → ∃ C, w.heap[g]? = some (.cells C e (0, 0)) := by
  intro g hg
  rcases h.own.2 with ⟨rfl, _⟩ | ⟨g', cap, cur, rfl, _, hh, _⟩
  · cases hg
  · injection hg with hg
    subst hg
    exact ⟨cur, hh⟩

section
variable {S : Nat → Prop} {w0 w w' : World} {P : Nat} {a : Option Addr} {cap : Nat} {d : List UInt8} {most : Int} {p : Nat} {out : List UInt8}

/-- As hold, when new memory has been made since. -/
theorem InfS.holdNew (h : InfS S w0 w P a cap d most p out) (gw : Below w.heap.size w w') : ∃ T : Nat → Prop, (∀ k, S k → T k) ∧ InfS T w' w' P a cap d most p out ∧
    (∀ k C t fr, w.heap[k]? = some (.cells C t fr) → k ≠ P → t ≠ 5 → T k) ∧ (∀ k, w.heap.size ≤ k → k < w'.heap.size → T k) ∧
    (∀ w2 p' out', InfS T w' w2 P a cap d most p' out' → InfS S w0 w2 P a cap d most p' out') ∧ (∀ w2, FrameS T w' w2 → FrameS S w0 w2) := by
  obtain ⟨v, h⟩ := h
  have hF := h.row.frame
  have hF' := hF.below gw
  have hPl := lt_of_block h.blk
  have hle := gw.size
  have hST : ∀ k, S k → k < w'.heap.size ∧ k ≠ P ∧ v.ownBlock ≠ some k := fun k hk => ⟨hF'.lt hk, fun e => h.off (e ▸ hk), fun e => h.row.off k e hk⟩
  have h' := h.later gw
  have hB : ∀ w2, FrameS (fun k => k < w'.heap.size ∧ k ≠ P ∧ v.ownBlock ≠ some k) w' w2 → FrameS S w0 w2 := fun w2 hf => hF'.trans (hf.sub hST)
  refine ⟨fun k => k < w'.heap.size ∧ k ≠ P ∧ v.ownBlock ≠ some k, hST, ⟨v, h'.blk, h'.row.rebase (FrameS.refl fun k hk => hk.1) (fun g hg hk => hk.2.2 hg), fun hk => hk.2.1 rfl, h.few⟩, ?_, ?_, ?_, hB⟩
  · intro k C t fr hk hne ht
    exact ⟨Nat.lt_of_lt_of_le (lt_of_block hk) hle, hne, h.row.other hk ht⟩
  · intro k h1 h2
    exact ⟨h2, by omega, fun e => by have := h.row.lt k e; omega⟩
  · rintro w2 p' out' ⟨v', h2⟩
    exact ⟨v', h2.blk, h2.row.rebase (hB w2 h2.row.frame) (fun g hg hk => h2.row.off g hg (hST g hk)), h.off, h2.few⟩

/-- A store into another block, that is not of bytes. -/
theorem InfS.set_other (h : InfS S w0 w P a cap d most p out) {g : Nat} {C : Array Value} {t : TypeId} {fr : Nat × Nat} (hg : w.heap[g]? = some (.cells C t fr)) (ht : t ≠ 5) (hgP : g ≠ P) (hgS : ¬ S g) (k : Nat) (u : Value) :
    InfS S w0 (w.setCell ⟨g, k, none⟩ u) P a cap d most p out := by
  obtain ⟨v, h⟩ := h
  exact ⟨v, (Below.heap_setCell _ _ _ _ (fun e => hgP e.symm)).trans h.blk, h.row.set_other (p := ⟨g, k, none⟩) (h.row.other hg ht) hgS u, h.off, h.few⟩

theorem belowS_any (hd : Fits S w0 a cap d most) (h : InfS S w0 w P a cap d most p out) (hp : p ≤ 8 * d.length) (n m : Nat) (ni mi : Int) (hni : ni = (n : Int)) (hmi : mi = (m : Int)) (hn : n ≤ 16) :
    Calls Try.prog 62 #[.pointer (some ⟨P, 0, none⟩), .int .i64 ni, .int .i64 mi] w
      (Outs (belowR d n m p) (FrameS S w0) fun x e w' => e = .returned (.int .i64 (x.1 : Nat)) ∧ InfS S w0 w' P a cap d most x.2 out) := by
  obtain ⟨v, h⟩ := h
  refine (below_any hd h hp n m ni mi hni hmi hn).mono fun e w' h' => ?_
  unfold Outs at *
  split at h'
  · exact ⟨h'.1, v, h'.2⟩
  · exact h'
end

theorem belowR_le {d : List UInt8} {n m p x q : Nat} (h : belowR d n m p = .ok (x, q)) : q = p + n ∧ q ≤ 8 * d.length ∧ x < m := by
  unfold belowR at h
  split at h
  · cases h
  · rename_i y hy
    split at h
    · cases h
    · injection h with h
      obtain ⟨y1, y2⟩ := y
      injection h with h1 h2
      obtain ⟨e1, e2, _⟩ := numR_le hy
      subst h1 h2
      exact ⟨e1, e2, by simpa using ‹¬ m ≤ _›⟩

def toldE (a : Nat) (all : List Nat) (p : Nat) : Except Nat (List Nat × List Nat × Nat) :=
  if all.getD 256 0 = 0 ∨ good (all.take (a + 257)) false = false ∨ good (all.drop (a + 257)) true = false then .error 4
  else .ok (all.take (a + 257), all.drop (a + 257), p)
def toldD (d : List UInt8) (a b : Nat) (own : List Nat) (p : Nat) : Except Nat (List Nat × List Nat × Nat) :=
  if good own false = false then .error 4 else match allGo d own (a + b + 258) (a + b + 259) p [] with
    | .error e => .error e
    | .ok (all, p5) => toldE a all p5
def toldC (d : List UInt8) (a b p : Nat) : Except Nat (List Nat × List Nat × Nat) := match numR d 4 p with
  | .error e => .error e
  | .ok (c, p3) => match ownGo d (c + 4) order19 p3 (List.replicate 19 0) with
    | .error e => .error e
    | .ok (own, p4) => toldD d a b own p4

theorem told_below (d : List UInt8) (p : Nat) : toldR d p = match belowR d 5 30 p with
    | .error e => .error e
    | .ok (a, p1) => match belowR d 5 30 p1 with
      | .error e => .error e
      | .ok (b, p2) => toldC d a b p2 := by
  unfold toldR belowR
  cases numR d 5 p with
  | error e => rfl
  | ok x =>
    obtain ⟨x, q⟩ := x
    simp only
    by_cases h : 30 ≤ x
    · rw [if_pos h, if_pos h]
    · rw [if_neg h, if_neg h]
      simp only
      cases numR d 5 q with
      | error e => rfl
      | ok y =>
        obtain ⟨y, q2⟩ := y
        simp only
        by_cases h : 30 ≤ y
        · rw [if_pos h, if_pos h]
        · rw [if_neg h, if_neg h]; rfl

/-- What is left when the codes are there: they lie in what may be kept from now on. -/
def Ready (S : Nat → Prop) (w0 w' : World) (P : Nat) (a : Option Addr) (cap : Nat) (d : List UInt8) (most : Int) (p : Nat) (out : List UInt8) (cl cd : List Nat) (C D : Array Value) : Prop :=
  ∃ T : Nat → Prop, (∀ k, S k → T k) ∧ InfS T w' w' P a cap d most p out ∧ CodeIn T w' cl C ∧ CodeIn T w' cd D ∧
    (∀ w2 p2 o2, InfS T w' w2 P a cap d most p2 o2 → InfS S w0 w2 P a cap d most p2 o2) ∧ (∀ w2, FrameS T w' w2 → FrameS S w0 w2)

end Go.Proofs.Ytaapnjhkflpiiaa
