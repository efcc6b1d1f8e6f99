/-
  What a store holds in memory: each block of it has an owner; what no call of ours may turn.
-/
import Derived.Test.YtnlkanhakmkejaaDoorSl18
import Derived.Test.YtnlkanhakmkejaaDoorRecs
import Derived.Test.YtnlkanhakmkejaaDoorStPure
import Derived.Maps.AppendAt
import Derived.Laws.OwnMore
namespace Go.Proofs.YtnlkanhakmkejaaDoor
open Go.RowKit Go.Mix Go.WideMaps

/-- What S names was there in w0 and is as it was. -/
structure FrameS (S : Nat → Prop) (w0 w : World) : Prop where
  os : w.os = w0.os
  tape : w.tape = w0.tape
  output : w.output = w0.output
  size : w0.heap.size ≤ w.heap.size
  keep : ∀ k, S k → k < w0.heap.size ∧ w.heap[k]? = w0.heap[k]?

theorem FrameS.refl {S : Nat → Prop} {w : World} (h : ∀ k, S k → k < w.heap.size) : FrameS S w w := ⟨rfl, rfl, rfl, Nat.le_refl _, fun k hk => ⟨h k hk, rfl⟩⟩
theorem FrameS.trans {S : Nat → Prop} {a b c : World} (h : FrameS S a b) (k : FrameS S b c) : FrameS S a c :=
  ⟨k.os.trans h.os, k.tape.trans h.tape, k.output.trans h.output, Nat.le_trans h.size k.size, fun i hi => ⟨(h.keep i hi).1, (k.keep i hi).2.trans (h.keep i hi).2⟩⟩
theorem FrameS.lt {S : Nat → Prop} {w0 w : World} (h : FrameS S w0 w) {k : Nat} (hk : S k) : k < w.heap.size := Nat.lt_of_lt_of_le (h.keep k hk).1 h.size
theorem FrameS.below {S : Nat → Prop} {w0 w w' : World} (h : FrameS S w0 w) (g : Below w.heap.size w w') : FrameS S w0 w' :=
  ⟨g.os.trans h.os, g.tape.trans h.tape, g.output.trans h.output, Nat.le_trans h.size g.size, fun i hi => ⟨(h.keep i hi).1, (g.block i (h.lt hi)).trans (h.keep i hi).2⟩⟩
theorem FrameS.grown {S : Nat → Prop} {w0 w w' : World} {row : Option Nat} (h : FrameS S w0 w) (g : w.grownBy w' row) (hr : ∀ k, row = some k → ¬ S k) : FrameS S w0 w' :=
  ⟨g.os.trans h.os, g.tape.trans h.tape, g.output.trans h.output, Nat.le_trans h.size g.size, fun i hi => ⟨(h.keep i hi).1, (g.block i (h.lt hi) (fun e => hr i e.symm hi)).trans (h.keep i hi).2⟩⟩
theorem FrameS.setCell {S : Nat → Prop} {w0 w : World} (h : FrameS S w0 w) {p : Addr} (hp : ¬ S p.block) (u : Value) : FrameS S w0 (w.setCell p u) :=
  ⟨h.os, h.tape, h.output, by simpa [World.setCell] using h.size, fun i hi => ⟨(h.keep i hi).1, (Below.heap_setCell _ _ _ _ (fun e => hp (e ▸ hi))).trans (h.keep i hi).2⟩⟩
theorem FrameS.sub {S T : Nat → Prop} {w0 w : World} (h : FrameS S w0 w) (hT : ∀ k, T k → S k) : FrameS T w0 w := ⟨h.os, h.tape, h.output, h.size, fun k hk => h.keep k (hT k hk)⟩
theorem FrameS.toBelow {S : Nat → Prop} {w0 w : World} (h : FrameS S w0 w) {B : Nat} (hB : ∀ k, k < B → S k) : Below B w0 w := ⟨h.os, h.tape, h.output, h.size, fun k hk => (h.keep k (hB k hk)).2⟩
theorem FrameS.ofBelow {B : Nat} {w0 w : World} (h : Below B w0 w) (hB : B ≤ w0.heap.size) : FrameS (· < B) w0 w := ⟨h.os, h.tape, h.output, h.size, fun k hk => ⟨Nat.lt_of_lt_of_le hk hB, h.block k hk⟩⟩
theorem FrameS.block {S : Nat → Prop} {w0 w : World} (h : FrameS S w0 w) {k : Nat} (hk : S k) {o : Obj} (ho : w0.heap[k]? = some o) : w.heap[k]? = some o := (h.keep k hk).2.trans ho

theorem sl_same {w w' : World} {a : Option Addr} {cap : Nat} {l : List UInt8} (h : Sl w a cap l) (hk : ∀ x, a = some x → w'.heap[x.block]? = w.heap[x.block]?) : Sl w' a cap l := by
  refine ⟨?_, h.le, h.max, h.non⟩
  rcases h.bs with h | ⟨b, off, rfl, hc⟩
  · exact .inl h
  · exact .inr ⟨b, off, rfl, fun j hj => by
      rw [World.cell?_of_block (a := ⟨b, off + j, none⟩) (hk ⟨b, off, none⟩ rfl)]
      exact hc j hj⟩

/-! ### Who owns a block -/
inductive Own | root | bytes | file (b : Nat)
deriving DecidableEq
abbrev Owns := Nat → Option Own
/-- Bytes of a store. -/
def SlO (own : Owns) (w : World) (v : Value) (l : List UInt8) : Prop := ∃ a c, v = .slice a l.length c ∧ Sl w a c l ∧ ∀ x, a = some x → own x.block = some .bytes
theorem SlO.nil (own : Owns) (w : World) : SlO own w (.slice none 0 0) [] := ⟨none, 0, rfl, ⟨.inl rfl, Nat.le_refl _, by decide, fun _ => rfl⟩, fun _ h => nomatch h⟩
theorem SlO.keep {own own' : Owns} {w w' : World} {v : Value} {l : List UInt8} {S : Nat → Prop} (h : SlO own w v l) (g : FrameS S w w') (hS : ∀ k, own k = some .bytes → S k ∧ own' k = some .bytes) : SlO own' w' v l := by
  obtain ⟨a, c, e, hs, ho⟩ := h
  exact ⟨a, c, e, sl_same hs fun x hx => (g.keep _ (hS _ (ho x hx)).1).2, fun x hx => (hS _ (ho x hx)).2⟩

/-- Owners of what was there stay; new blocks may get some. -/
structure Owns.onto (own own' : Owns) (n n' : Nat) : Prop where
  old : ∀ k, k < n → own' k = own k
  lt : ∀ k, own' k ≠ none → k < n'
def Owns.new (own : Owns) (n n' : Nat) (t : Nat → Own) : Owns := fun k => if k < n then own k else if k < n' then some (t k) else none
theorem Owns.onto_new (own : Owns) {n n' : Nat} (h : n ≤ n') (t : Nat → Own) : own.onto (own.new n n' t) n n' := by
  refine ⟨fun k hk => by simp [Owns.new, hk], fun k hk => ?_⟩
  unfold Owns.new at hk
  by_cases h1 : k < n
  · omega
  · rw [if_neg h1] at hk
    by_cases h2 : k < n'
    · exact h2
    · rw [if_neg h2] at hk; exact absurd rfl hk
theorem Owns.new_at (own : Owns) {n n' k : Nat} (t : Nat → Own) (h1 : n ≤ k) (h2 : k < n') : own.new n n' t k = some (t k) := by
  unfold Owns.new
  rw [if_neg (by omega), if_pos h2]
theorem Owns.onto.refl {own : Owns} {n : Nat} (h : ∀ k, own k ≠ none → k < n) : own.onto own n n := ⟨fun _ _ => rfl, h⟩
theorem Owns.onto.trans {a b c : Owns} {n m l : Nat} (h : a.onto b n m) (k : b.onto c m l) (hnm : n ≤ m) : a.onto c n l := ⟨fun i hi => (k.old i (by omega)).trans (h.old i hi), k.lt⟩
theorem Owns.onto.grow {a b : Owns} {n m l : Nat} (h : a.onto b n m) (hl : m ≤ l) : a.onto b n l := ⟨h.old, fun k hk => Nat.lt_of_lt_of_le (h.lt k hk) hl⟩
theorem Owns.onto.some {a b : Owns} {n m k : Nat} {t : Own} (h : a.onto b n m) (hlt : ∀ k, a k ≠ none → k < n) (hk : a k = some t) : b k = some t := (h.old k (hlt k (by rw [hk]; simp))).trans hk

/-- From w to w', the owners own becoming own', nothing turned but blocks whose owner T names. -/
structure Turn (T : Option Own → Prop) (own own' : Owns) (w w' : World) : Prop where
  frame : FrameS (fun k => k < w.heap.size ∧ ¬ T (own k)) w w'
  ow : own.onto own' w.heap.size w'.heap.size
theorem Turn.trans {T : Option Own → Prop} {a b c : Owns} {u v w : World} (h : Turn T a b u v) (k : Turn T b c v w) : Turn T a c u w := by
  refine ⟨h.frame.trans (k.frame.sub ?_), h.ow.trans k.ow h.frame.size⟩
  intro i hi
  refine ⟨Nat.lt_of_lt_of_le hi.1 h.frame.size, ?_⟩
  rw [h.ow.old i hi.1]
  exact hi.2
theorem Turn.mono {T T' : Option Own → Prop} {a b : Owns} {u v : World} (h : Turn T a b u v) (hT : ∀ o, T o → T' o) : Turn T' a b u v := ⟨h.frame.sub fun _ hk => ⟨hk.1, fun t => hk.2 (hT _ t)⟩, h.ow⟩
theorem Turn.below {T : Option Own → Prop} {own : Owns} {w w' : World} (h : Below w.heap.size w w') (hlt : ∀ k, own k ≠ none → k < w.heap.size) : Turn T own own w w' :=
  ⟨(FrameS.ofBelow h (Nat.le_refl _)).sub fun _ hk => hk.1, (Owns.onto.refl hlt).grow h.size⟩
theorem Turn.made {T : Option Own → Prop} (own : Owns) {w w' : World} (h : Below w.heap.size w w') (t : Nat → Own) : Turn T own (own.new w.heap.size w'.heap.size t) w w' :=
  ⟨(FrameS.ofBelow h (Nat.le_refl _)).sub fun _ hk => hk.1, own.onto_new h.size t⟩
theorem Turn.set {T : Option Own → Prop} {own own' : Owns} {w w' : World} (h : Turn T own own' w w') {p : Addr} (hp : p.block < w.heap.size → T (own p.block)) (u : Value) : Turn T own own' w (w'.setCell p u) :=
  ⟨h.frame.setCell (fun hk => hk.2 (hp hk.1)) u, by have e : (w'.setCell p u).heap.size = w'.heap.size := by simp [World.setCell]
                                                    rw [e]; exact h.ow⟩
theorem Turn.grown {T : Option Own → Prop} {own own' : Owns} {w w' w2 : World} {row : Option Nat} (h : Turn T own own' w w') (g : w'.grownBy w2 row) (hr : ∀ k, row = some k → k < w.heap.size → T (own k)) : Turn T own own' w w2 :=
  ⟨h.frame.grown g fun k hk hS => hS.2 (hr k hk hS.1), h.ow.grow g.size⟩
/-- What T doesn't name may be relied on. -/
theorem Turn.keep {T : Option Own → Prop} {own own' : Owns} {w w' : World} (h : Turn T own own' w w') (hlt : ∀ k, own k ≠ none → k < w.heap.size) {k : Nat} {t : Own} (hk : own k = some t) (hT : ¬ T (some t)) : w'.heap[k]? = w.heap[k]? ∧ own' k = some t :=
  ⟨(h.frame.keep k ⟨hlt k (by rw [hk]; simp), by rw [hk]; exact hT⟩).2, h.ow.some hlt hk⟩
theorem SlO.turn {T : Option Own → Prop} {own own' : Owns} {w w' : World} {v : Value} {l : List UInt8} (h : SlO own w v l) (g : Turn T own own' w w') (hlt : ∀ k, own k ≠ none → k < w.heap.size) (hT : ¬ T (some .bytes)) : SlO own' w' v l :=
  h.keep g.frame fun _ hk => ⟨⟨hlt _ (by rw [hk]; simp), by rw [hk]; exact hT⟩, g.ow.some hlt hk⟩

/-! ### A change, a file -/
inductive All2 {α β : Type} (R : α → β → Prop) : List α → List β → Prop
  | nil : All2 R [] []
  | cons {a b l m} : R a b → All2 R l m → All2 R (a :: l) (b :: m)
section
variable {α β : Type} {R R' : α → β → Prop}
theorem All2.imp {l : List α} {m : List β} (h : All2 R l m) (hR : ∀ a b, R a b → R' a b) : All2 R' l m := by
  induction h with
  | nil => exact .nil
  | cons h _ ih => exact .cons (hR _ _ h) ih
theorem All2.length {l : List α} {m : List β} (h : All2 R l m) : l.length = m.length := by
  induction h with
  | nil => rfl
  | cons _ _ ih => simp [ih]
theorem All2.append {l : List α} {m : List β} (h : All2 R l m) {l' : List α} {m' : List β} (k : All2 R l' m') : All2 R (l ++ l') (m ++ m') := by
  induction h with
  | nil => exact k
  | cons h _ ih => exact .cons h ih
theorem All2.one {a : α} {b : β} (h : R a b) : All2 R [a] [b] := .cons h .nil
theorem All2.at {l : List α} {m : List β} (h : All2 R l m) : ∀ {i : Nat} (hi : i < l.length) (hj : i < m.length), R l[i] m[i] := by
  induction h with
  | nil => intro i hi; simp at hi
  | cons h _ ih =>
    intro i hi hj
    cases i with
    | zero => exact h
    | succ i => exact ih (by simpa using hi) (by simpa using hj)
end

/-- A change as it lies. -/
structure ChgA where
  at_ : Int
  cut : Int
  a : Option Addr
  n : Nat
  c : Nat
instance : Inhabited ChgA := ⟨⟨0, 0, none, 0, 0⟩⟩
def encC (x : ChgA) : List Value := [.int .i64 x.at_, .int .i64 x.cut, .slice x.a x.n x.c]
set_option maxRecDepth 100000 in
theorem tyC : RecTy ChgA encC 3 68 72 :=
  ⟨by decide, by decide, fun _ => rfl, fun x u hu => by simp [encC] at hu; rcases hu with rfl | rfl | rfl <;> rfl, Tryd.underlying68, ⟨_, Tryd.underlying72⟩, fun w => by kernel_rfl, by kernel_rfl, ⟨#[.int .i64 0, .int .i64 0, .slice none 0 0], 40, by kernel_rfl, rfl, by decide⟩⟩
structure ChgIs (own : Owns) (w : World) (x : ChgA) (c : Chg) : Prop where
  at_ : x.at_ = (c.at_ : Int)
  cut : x.cut = c.cut
  b : SlO own w (.slice x.a x.n x.c) c.b
structure FileAt (own : Owns) (w : World) (b : Nat) (f : FileP) : Prop where
  tag : own b = some (.file b)
  ex : ∃ v1 v2 v3 L, w.heap[b]? = some (.cells #[v1, v2, v3] 70 (0, 0)) ∧ SlO own w v1 f.now ∧ SlO own w v2 f.kept ∧ w.ownsRow 0 72 3 v3 L.length (flatR encC L) ∧ (∀ g, v3.ownBlock = some g → own g = some (.file b)) ∧ All2 (ChgIs own w) L f.since
theorem ChgIs.turn {T : Option Own → Prop} {own own' : Owns} {w w' : World} {x : ChgA} {c : Chg} (h : ChgIs own w x c) (g : Turn T own own' w w') (hlt : ∀ k, own k ≠ none → k < w.heap.size) (hT : ¬ T (some .bytes)) : ChgIs own' w' x c := ⟨h.at_, h.cut, h.b.turn g hlt hT⟩
theorem ownsRow_same {w w' : World} {e : TypeId} {sz n : Nat} {v : Value} {xs : List Value} (h : w.ownsRow 0 e sz v n xs) (hb : ∀ g, v.ownBlock = some g → w'.heap[g]? = w.heap[g]?) : w'.ownsRow 0 e sz v n xs := by
  refine ⟨h.1, h.2.imp id ?_⟩
  rintro ⟨g, cap, cur, rfl, h0, hh, r⟩
  exact ⟨g, cap, cur, rfl, h0, (hb g rfl).trans hh, r⟩
theorem FileAt.turn {T : Option Own → Prop} {own own' : Owns} {w w' : World} {b : Nat} {f : FileP} (h : FileAt own w b f) (g : Turn T own own' w w') (hlt : ∀ k, own k ≠ none → k < w.heap.size) (hT : ¬ T (some .bytes)) (hTb : ¬ T (some (.file b))) : FileAt own' w' b f := by
  obtain ⟨v1, v2, v3, L, h1, h2, h3, h4, h5, h6⟩ := h.ex
  refine ⟨(g.keep hlt h.tag hTb).2, v1, v2, v3, L, (g.keep hlt h.tag hTb).1.trans h1, h2.turn g hlt hT, h3.turn g hlt hT, ownsRow_same h4 fun k hk => (g.keep hlt (h5 k hk) hTb).1, fun k hk => (g.keep hlt (h5 k hk) hTb).2, h6.imp fun _ _ hc => hc.turn g hlt hT⟩
end Go.Proofs.YtnlkanhakmkejaaDoor
