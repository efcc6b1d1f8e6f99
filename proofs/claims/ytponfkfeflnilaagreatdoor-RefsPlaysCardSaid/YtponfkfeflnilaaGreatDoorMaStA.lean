/-
  What a store holds in memory: each block of it has an owner; what no call of ours may turn.
  A store in memory.
  The store's small functions, walked.
  files.right, strings.HasPrefix, at closures: the walks. (After XPathR.)
  strings.HasPrefix; (*Store).free: the walks.
-/
import Derived.Test.YtponfkfeflnilaaGreatDoorMaRec
import Derived.Test.YtponfkfeflnilaaGreatDoorMaStP
import Derived.Maps.AppendAt
import Derived.Laws.OwnMore
import Derived.Maps.OwnSet
import Derived.Maps.RangeWalk
import Derived.Sort.KeysCollected
import Derived.Outline
import Derived.Test.YtponfkfeflnilaaGreatDoorMaOne
namespace Go.Proofs.YtponfkfeflnilaaGreatDoor
open Go.RowKit Go.Mix Go.WideMaps

/-- What S names was there in w0 and is as it was. -/
structure FrameS (S : Nat → Prop) (w0 w : World) : Prop where
  os : w.os = w0.os
  tape : w.tape = w0.tape
  output : w.output = w0.output
  size : w0.heap.size ≤ w.heap.size
  keep : ∀ k, S k → k < w0.heap.size ∧ w.heap[k]? = w0.heap[k]?

theorem FrameS.refl {S : Nat → Prop} {w : World} (h : ∀ k, S k → k < w.heap.size) : FrameS S w w := ⟨rfl, rfl, rfl, Nat.le_refl _, fun k hk => ⟨h k hk, rfl⟩⟩
theorem FrameS.trans {S : Nat → Prop} {a b c : World} (h : FrameS S a b) (k : FrameS S b c) : FrameS S a c :=
  ⟨k.os.trans h.os, k.tape.trans h.tape, k.output.trans h.output, Nat.le_trans h.size k.size, fun i hi => ⟨(h.keep i hi).1, (k.keep i hi).2.trans (h.keep i hi).2⟩⟩
theorem FrameS.lt {S : Nat → Prop} {w0 w : World} (h : FrameS S w0 w) {k : Nat} (hk : S k) : k < w.heap.size := Nat.lt_of_lt_of_le (h.keep k hk).1 h.size
theorem FrameS.below {S : Nat → Prop} {w0 w w' : World} (h : FrameS S w0 w) (g : Below w.heap.size w w') : FrameS S w0 w' :=
  ⟨g.os.trans h.os, g.tape.trans h.tape, g.output.trans h.output, Nat.le_trans h.size g.size, fun i hi => ⟨(h.keep i hi).1, (g.block i (h.lt hi)).trans (h.keep i hi).2⟩⟩
theorem FrameS.grown {S : Nat → Prop} {w0 w w' : World} {row : Option Nat} (h : FrameS S w0 w) (g : w.grownBy w' row) (hr : ∀ k, row = some k → ¬ S k) : FrameS S w0 w' :=
  ⟨g.os.trans h.os, g.tape.trans h.tape, g.output.trans h.output, Nat.le_trans h.size g.size, fun i hi => ⟨(h.keep i hi).1, (g.block i (h.lt hi) (fun e => hr i e.symm hi)).trans (h.keep i hi).2⟩⟩
theorem FrameS.setCell {S : Nat → Prop} {w0 w : World} (h : FrameS S w0 w) {p : Addr} (hp : ¬ S p.block) (u : Value) : FrameS S w0 (w.setCell p u) :=
  ⟨h.os, h.tape, h.output, by simpa [World.setCell] using h.size, fun i hi => ⟨(h.keep i hi).1, (Below.heap_setCell _ _ _ _ (fun e => hp (e ▸ hi))).trans (h.keep i hi).2⟩⟩
theorem FrameS.sub {S T : Nat → Prop} {w0 w : World} (h : FrameS S w0 w) (hT : ∀ k, T k → S k) : FrameS T w0 w := ⟨h.os, h.tape, h.output, h.size, fun k hk => h.keep k (hT k hk)⟩
theorem FrameS.toBelow {S : Nat → Prop} {w0 w : World} (h : FrameS S w0 w) {B : Nat} (hB : ∀ k, k < B → S k) : Below B w0 w := ⟨h.os, h.tape, h.output, h.size, fun k hk => (h.keep k (hB k hk)).2⟩
theorem FrameS.ofBelow {B : Nat} {w0 w : World} (h : Below B w0 w) (hB : B ≤ w0.heap.size) : FrameS (· < B) w0 w := ⟨h.os, h.tape, h.output, h.size, fun k hk => ⟨Nat.lt_of_lt_of_le hk hB, h.block k hk⟩⟩
theorem FrameS.block {S : Nat → Prop} {w0 w : World} (h : FrameS S w0 w) {k : Nat} (hk : S k) {o : Obj} (ho : w0.heap[k]? = some o) : w.heap[k]? = some o := (h.keep k hk).2.trans ho

theorem sl_same {w w' : World} {a : Option Addr} {cap : Nat} {l : List UInt8} (h : Sl w a cap l) (hk : ∀ x, a = some x → w'.heap[x.block]? = w.heap[x.block]?) : Sl w' a cap l := by
  refine ⟨?_, h.le, h.max, h.non⟩
  rcases h.bs with h | ⟨b, off, rfl, hc⟩
  · exact .inl h
  · exact .inr ⟨b, off, rfl, fun j hj => by
      rw [World.cell?_of_block (a := ⟨b, off + j, none⟩) (hk ⟨b, off, none⟩ rfl)]
      exact hc j hj⟩

/-! ### Who owns a block -/
inductive Own | root | bytes | file (b : Nat)
deriving DecidableEq
abbrev Owns := Nat → Option Own
/-- Bytes of a store. -/
def SlO (own : Owns) (w : World) (v : Value) (l : List UInt8) : Prop := ∃ a c, v = .slice a l.length c ∧ Sl w a c l ∧ ∀ x, a = some x → own x.block = some .bytes
theorem SlO.nil (own : Owns) (w : World) : SlO own w (.slice none 0 0) [] := ⟨none, 0, rfl, ⟨.inl rfl, Nat.le_refl _, by decide, fun _ => rfl⟩, fun _ h => nomatch h⟩
theorem SlO.keep {own own' : Owns} {w w' : World} {v : Value} {l : List UInt8} {S : Nat → Prop} (h : SlO own w v l) (g : FrameS S w w') (hS : ∀ k, own k = some .bytes → S k ∧ own' k = some .bytes) : SlO own' w' v l := by
  obtain ⟨a, c, e, hs, ho⟩ := h
  exact ⟨a, c, e, sl_same hs fun x hx => (g.keep _ (hS _ (ho x hx)).1).2, fun x hx => (hS _ (ho x hx)).2⟩

/-- Owners of what was there stay; new blocks may get some. -/
structure Owns.onto (own own' : Owns) (n n' : Nat) : Prop where
  old : ∀ k, k < n → own' k = own k
  lt : ∀ k, own' k ≠ none → k < n'
def Owns.new (own : Owns) (n n' : Nat) (t : Nat → Own) : Owns := fun k => if k < n then own k else if k < n' then some (t k) else none
theorem Owns.onto_new (own : Owns) {n n' : Nat} (h : n ≤ n') (t : Nat → Own) : own.onto (own.new n n' t) n n' := by
  refine ⟨fun k hk => by simp [Owns.new, hk], fun k hk => ?_⟩
  unfold Owns.new at hk
  by_cases h1 : k < n
  · omega
  · rw [if_neg h1] at hk
    by_cases h2 : k < n'
    · exact h2
    · rw [if_neg h2] at hk; exact absurd rfl hk
theorem Owns.new_at (own : Owns) {n n' k : Nat} (t : Nat → Own) (h1 : n ≤ k) (h2 : k < n') : own.new n n' t k = some (t k) := by
  unfold Owns.new
  rw [if_neg (by omega), if_pos h2]
theorem Owns.onto.refl {own : Owns} {n : Nat} (h : ∀ k, own k ≠ none → k < n) : own.onto own n n := ⟨fun _ _ => rfl, h⟩
theorem Owns.onto.trans {a b c : Owns} {n m l : Nat} (h : a.onto b n m) (k : b.onto c m l) (hnm : n ≤ m) : a.onto c n l := ⟨fun i hi => (k.old i (by omega)).trans (h.old i hi), k.lt⟩
theorem Owns.onto.grow {a b : Owns} {n m l : Nat} (h : a.onto b n m) (hl : m ≤ l) : a.onto b n l := ⟨h.old, fun k hk => Nat.lt_of_lt_of_le (h.lt k hk) hl⟩
theorem Owns.onto.some {a b : Owns} {n m k : Nat} {t : Own} (h : a.onto b n m) (hlt : ∀ k, a k ≠ none → k < n) (hk : a k = some t) : b k = some t := (h.old k (hlt k (by rw [hk]; simp))).trans hk

/-- From w to w', the owners own becoming own', nothing turned but blocks whose owner T names. -/
structure Turn (T : Option Own → Prop) (own own' : Owns) (w w' : World) : Prop where
  frame : FrameS (fun k => k < w.heap.size ∧ ¬ T (own k)) w w'
  ow : own.onto own' w.heap.size w'.heap.size
theorem Turn.trans {T : Option Own → Prop} {a b c : Owns} {u v w : World} (h : Turn T a b u v) (k : Turn T b c v w) : Turn T a c u w := by
  refine ⟨h.frame.trans (k.frame.sub ?_), h.ow.trans k.ow h.frame.size⟩
  intro i hi
  refine ⟨Nat.lt_of_lt_of_le hi.1 h.frame.size, ?_⟩
  rw [h.ow.old i hi.1]
  exact hi.2
theorem Turn.mono {T T' : Option Own → Prop} {a b : Owns} {u v : World} (h : Turn T a b u v) (hT : ∀ o, T o → T' o) : Turn T' a b u v := ⟨h.frame.sub fun _ hk => ⟨hk.1, fun t => hk.2 (hT _ t)⟩, h.ow⟩
theorem Turn.below {T : Option Own → Prop} {own : Owns} {w w' : World} (h : Below w.heap.size w w') (hlt : ∀ k, own k ≠ none → k < w.heap.size) : Turn T own own w w' :=
  ⟨(FrameS.ofBelow h (Nat.le_refl _)).sub fun _ hk => hk.1, (Owns.onto.refl hlt).grow h.size⟩
theorem Turn.made {T : Option Own → Prop} (own : Owns) {w w' : World} (h : Below w.heap.size w w') (t : Nat → Own) : Turn T own (own.new w.heap.size w'.heap.size t) w w' :=
  ⟨(FrameS.ofBelow h (Nat.le_refl _)).sub fun _ hk => hk.1, own.onto_new h.size t⟩
theorem Turn.set {T : Option Own → Prop} {own own' : Owns} {w w' : World} (h : Turn T own own' w w') {p : Addr} (hp : p.block < w.heap.size → T (own p.block)) (u : Value) : Turn T own own' w (w'.setCell p u) :=
  ⟨h.frame.setCell (fun hk => hk.2 (hp hk.1)) u, by have e : (w'.setCell p u).heap.size = w'.heap.size := by simp [World.setCell]
                                                    rw [e]; exact h.ow⟩
theorem Turn.grown {T : Option Own → Prop} {own own' : Owns} {w w' w2 : World} {row : Option Nat} (h : Turn T own own' w w') (g : w'.grownBy w2 row) (hr : ∀ k, row = some k → k < w.heap.size → T (own k)) : Turn T own own' w w2 :=
  ⟨h.frame.grown g fun k hk hS => hS.2 (hr k hk hS.1), h.ow.grow g.size⟩
/-- What T doesn't name may be relied on. -/
theorem Turn.keep {T : Option Own → Prop} {own own' : Owns} {w w' : World} (h : Turn T own own' w w') (hlt : ∀ k, own k ≠ none → k < w.heap.size) {k : Nat} {t : Own} (hk : own k = some t) (hT : ¬ T (some t)) : w'.heap[k]? = w.heap[k]? ∧ own' k = some t :=
  ⟨(h.frame.keep k ⟨hlt k (by rw [hk]; simp), by rw [hk]; exact hT⟩).2, h.ow.some hlt hk⟩
theorem SlO.turn {T : Option Own → Prop} {own own' : Owns} {w w' : World} {v : Value} {l : List UInt8} (h : SlO own w v l) (g : Turn T own own' w w') (hlt : ∀ k, own k ≠ none → k < w.heap.size) (hT : ¬ T (some .bytes)) : SlO own' w' v l :=
  h.keep g.frame fun _ hk => ⟨⟨hlt _ (by rw [hk]; simp), by rw [hk]; exact hT⟩, g.ow.some hlt hk⟩

/-! ### A change, a file -/
inductive All2 {α β : Type} (R : α → β → Prop) : List α → List β → Prop
  | nil : All2 R [] []
  | cons {a b l m} : R a b → All2 R l m → All2 R (a :: l) (b :: m)
section
variable {α β : Type} {R R' : α → β → Prop}
theorem All2.imp {l : List α} {m : List β} (h : All2 R l m) (hR : ∀ a b, R a b → R' a b) : All2 R' l m := by
  induction h with
  | nil => exact .nil
  | cons h _ ih => exact .cons (hR _ _ h) ih
theorem All2.length {l : List α} {m : List β} (h : All2 R l m) : l.length = m.length := by
  induction h with
  | nil => rfl
  | cons _ _ ih => simp [ih]
theorem All2.append {l : List α} {m : List β} (h : All2 R l m) {l' : List α} {m' : List β} (k : All2 R l' m') : All2 R (l ++ l') (m ++ m') := by
  induction h with
  | nil => exact k
  | cons h _ ih => exact .cons h ih
theorem All2.one {a : α} {b : β} (h : R a b) : All2 R [a] [b] := .cons h .nil
theorem All2.at {l : List α} {m : List β} (h : All2 R l m) : ∀ {i : Nat} (hi : i < l.length) (hj : i < m.length), R l[i] m[i] := by
  induction h with
  | nil => intro i hi; simp at hi
  | cons h _ ih =>
    intro i hi hj
    cases i with
    | zero => exact h
    | succ i => exact ih (by simpa using hi) (by simpa using hj)
end

/-- A change as it lies. -/
structure ChgA where
  at_ : Int
  cut : Int
  a : Option Addr
  n : Nat
  c : Nat
instance : Inhabited ChgA := ⟨⟨0, 0, none, 0, 0⟩⟩
def encC (x : ChgA) : List Value := [.int .i64 x.at_, .int .i64 x.cut, .slice x.a x.n x.c]
set_option maxRecDepth 100000 in
theorem tyC : RecTy ChgA encC 3 130 134 :=
  ⟨by decide, by decide, fun _ => rfl, fun x u hu => by simp [encC] at hu; rcases hu with rfl | rfl | rfl <;> rfl, Tryz.underlying130, ⟨_, Tryz.underlying134⟩, fun w => by kernel_rfl, by kernel_rfl, ⟨#[.int .i64 0, .int .i64 0, .slice none 0 0], 40, by kernel_rfl, rfl, by decide⟩⟩
structure ChgIs (own : Owns) (w : World) (x : ChgA) (c : Chg) : Prop where
  at_ : x.at_ = (c.at_ : Int)
  cut : x.cut = c.cut
  b : SlO own w (.slice x.a x.n x.c) c.b
structure FileAt (own : Owns) (w : World) (b : Nat) (f : FileP) : Prop where
  tag : own b = some (.file b)
  ex : ∃ v1 v2 v3 L, w.heap[b]? = some (.cells #[v1, v2, v3] 132 (0, 0)) ∧ SlO own w v1 f.now ∧ SlO own w v2 f.kept ∧ w.ownsRow 0 134 3 v3 L.length (flatR encC L) ∧ (∀ g, v3.ownBlock = some g → own g = some (.file b)) ∧ All2 (ChgIs own w) L f.since
theorem ChgIs.turn {T : Option Own → Prop} {own own' : Owns} {w w' : World} {x : ChgA} {c : Chg} (h : ChgIs own w x c) (g : Turn T own own' w w') (hlt : ∀ k, own k ≠ none → k < w.heap.size) (hT : ¬ T (some .bytes)) : ChgIs own' w' x c := ⟨h.at_, h.cut, h.b.turn g hlt hT⟩
theorem ownsRow_same {w w' : World} {e : TypeId} {sz n : Nat} {v : Value} {xs : List Value} (h : w.ownsRow 0 e sz v n xs) (hb : ∀ g, v.ownBlock = some g → w'.heap[g]? = w.heap[g]?) : w'.ownsRow 0 e sz v n xs := by
  refine ⟨h.1, h.2.imp id ?_⟩
  rintro ⟨g, cap, cur, rfl, h0, hh, r⟩
  exact ⟨g, cap, cur, rfl, h0, (hb g rfl).trans hh, r⟩
theorem FileAt.turn {T : Option Own → Prop} {own own' : Owns} {w w' : World} {b : Nat} {f : FileP} (h : FileAt own w b f) (g : Turn T own own' w w') (hlt : ∀ k, own k ≠ none → k < w.heap.size) (hT : ¬ T (some .bytes)) (hTb : ¬ T (some (.file b))) : FileAt own' w' b f := by
  obtain ⟨v1, v2, v3, L, h1, h2, h3, h4, h5, h6⟩ := h.ex
  refine ⟨(g.keep hlt h.tag hTb).2, v1, v2, v3, L, (g.keep hlt h.tag hTb).1.trans h1, h2.turn g hlt hT, h3.turn g hlt hT, ownsRow_same h4 fun k hk => (g.keep hlt (h5 k hk) hTb).1, fun k hk => (g.keep hlt (h5 k hk) hTb).2, h6.imp fun _ _ hc => hc.turn g hlt hT⟩
end Go.Proofs.YtponfkfeflnilaaGreatDoor
namespace Go.Proofs.YtponfkfeflnilaaGreatDoor
open Go.RowKit Go.Mix Go.WideMaps Go.Maps

/-- How a file's place reads in the map. -/
def ptrR : Value → Option (DataW Unit × List MemPlace)
  | .pointer none => some (.nil, [])
  | .pointer (some ⟨b, 0, none⟩) => some (.lit (.int .i64 (b : Int)), [])
  | _ => none
theorem ptrR_some (b : Nat) : ptrR (.pointer (some ⟨b, 0, none⟩)) = some (.lit (.int .i64 (b : Int)), []) := rfl
theorem ptrR_inv {v : Value} {b : Nat} {ps : List MemPlace} (h : ptrR v = some (.lit (.int .i64 (b : Int)), ps)) : v = .pointer (some ⟨b, 0, none⟩) := by
  unfold ptrR at h
  split at h
  · simp at h
  · simp at h; rw [Int.ofNat.inj h.1]
  · cases h
theorem ptrR_nil {v : Value} {ps : List MemPlace} (h : ptrR v = some (.nil, ps)) : v = .pointer none := by
  unfold ptrR at h
  split at h
  · rfl
  · simp at h
  · cases h
theorem keyed : Keyed Tryz.prog 9 := string_keyed Tryz.underlying9
theorem key_of (x : List UInt8) (h : x.length ≤ 1000000) : keyOf Tryz.prog 9 (.string (strOf x)) = some (.string x) := keyOf_string_mk Tryz.underlying9 (by rw [strOf_size]; unfold maxLen; omega)
theorem zeroP (w : World) : (zeroValue 127).run Tryz.prog w = .ok (.pointer none) w := by kernel_rfl

/-- Block M is the map from the paths of l to their files' blocks. -/
structure MapAt (w : World) (M : Nat) (G : Bytes → Nat) (l : Files) : Prop where
  ex : ∃ D : DataW Unit, w.ownsMap Tryz.prog 9 ptrR M (Maps.size D) D ∧ IsMap D ∧ ∀ x z, D.atKey (.string x) z = match getF l x with | some _ => .lit (.int .i64 (G x : Int)) | none => z
def placeV (G : Bytes → Nat) (l : Files) (x : Bytes) : Value := match getF l x with | some _ => .pointer (some ⟨G x, 0, none⟩) | none => .pointer none
theorem placeV_some {G : Bytes → Nat} {l : Files} {x : Bytes} {f : FileP} (h : getF l x = some f) : placeV G l x = .pointer (some ⟨G x, 0, none⟩) := by unfold placeV; rw [h]
theorem placeV_none {G : Bytes → Nat} {l : Files} {x : Bytes} (h : getF l x = none) : placeV G l x = .pointer none := by unfold placeV; rw [h]

theorem owns_tight {w : World} {M n : Nat} {D : DataW Unit} (h : w.ownsMap Tryz.prog 9 ptrR M n D) : w.ownsMap Tryz.prog 9 ptrR M (Maps.size D) D := by
  obtain ⟨es, clock, hb, F, hs, rfl⟩ := h
  exact ⟨es, clock, hb, F, by simp [Maps.size, length_sorted], rfl⟩
theorem has_files {D : DataW Unit} {G : Bytes → Nat} {l : Files} (h : ∀ x z, D.atKey (.string x) z = match getF l x with | some _ => .lit (.int .i64 (G x : Int)) | none => z) (x : Bytes) : Maps.has D (.string x) = (getF l x).isSome := by
  cases hx : getF l x with
  | none => exact has_false_of_atKey fun z => by rw [h x z, hx]
  | some f => exact has_true_of_atKey fun z => by rw [h x z, hx]

section
variable {w w' : World} {M : Nat} {G : Bytes → Nat} {l : Files}

theorem MapAt.lt (h : MapAt w M G l) : M < w.heap.size := by obtain ⟨D, h, _⟩ := h.ex; exact h.lt
theorem MapAt.same (h : MapAt w M G l) (hb : w'.heap[M]? = w.heap[M]?) : MapAt w' M G l := by
  obtain ⟨D, ⟨es, clock, h1, r⟩, h2⟩ := h.ex
  exact ⟨D, ⟨es, clock, hb.trans h1, r⟩, h2⟩
theorem MapAt.look_ok (h : MapAt w M G l) (x : Bytes) (hx : x.length ≤ 1000000) :
    (Instr.lookup 126 (.map (some M)) (.string (strOf x)) true).run Tryz.prog w = .ok (.tuple #[placeV G l x, .bool (getF l x).isSome]) w := by
  obtain ⟨D, ho, _, hat⟩ := h.ex
  obtain ⟨v, ps, hrun, hv⟩ := ho.look_ok keyed Tryz.underlying126 (zeroP w) (zd := .nil) (zp := []) rfl (key_of x hx)
  rw [hrun, has_files hat]
  rw [hat x] at hv
  unfold placeV
  cases hx : getF l x with
  | none => rw [hx] at hv; rw [ptrR_nil hv]
  | some f => rw [hx] at hv; rw [ptrR_inv hv]
theorem MapAt.look (h : MapAt w M G l) (x : Bytes) (hx : x.length ≤ 1000000) :
    (Instr.lookup 126 (.map (some M)) (.string (strOf x)) false).run Tryz.prog w = .ok (placeV G l x) w := by
  obtain ⟨D, ho, _, hat⟩ := h.ex
  obtain ⟨v, ps, hrun, hv⟩ := ho.lookup keyed Tryz.underlying126 (zeroP w) (zd := .nil) (zp := []) rfl (key_of x hx)
  rw [hrun]
  rw [hat x] at hv
  unfold placeV
  cases hx : getF l x with
  | none => rw [hx] at hv; rw [ptrR_nil hv]
  | some f => rw [hx] at hv; rw [ptrR_inv hv]
theorem MapAt.keys (h : MapAt w M G l) (hs : Sorted l) : ∃ D : DataW Unit, w.ownsMap Tryz.prog 9 ptrR M (Maps.size D) D ∧ (keysF l).Perm (strKeys D) ∧ Maps.size D = l.length := by
  obtain ⟨D, ho, hm, hat⟩ := h.ex
  obtain ⟨es, hD, hpw, _⟩ := ho.entries keyed
  obtain ⟨es', hD', hko⟩ := ho.keysOf
  obtain rfl : es = es' := by rw [hD] at hD'; simpa using hD'
  subst hD
  have hp : (keysF l).Perm (strKeys (.map es)) := perm_strKeys hpw (fun p hp => by obtain ⟨v, hv⟩ := hko p hp; obtain ⟨x, _, hx, _⟩ := Maps.keyOf_str Tryz.underlying9 hv; exact ⟨x, hx⟩)
    (List.pairwise_map.2 (hs.imp fun hlt e => by rw [e] at hlt; exact lt_irr _ hlt))
    (fun x => by
      rw [has_files hat, Option.isSome_iff_ne_none, Ne, getF_none]
      unfold keysF
      rw [List.mem_map]
      constructor
      · rintro ⟨p, hp, rfl⟩ hn; exact hn p hp rfl
      · intro hn
        refine Classical.byContradiction fun hc => hn fun p hp e => hc ⟨p, hp, e⟩)
  refine ⟨_, ho, hp, ?_⟩
  have := hp.length_eq
  unfold keysF at this
  rw [List.length_map] at this
  rw [this]
  show es.length = (es.map _).length
  rw [List.length_map]
theorem MapAt.size (h : MapAt w M G l) (hs : Sorted l) : ∀ ty, (Builtin.len_ #[126] ty #[.map (some M)]).run Tryz.prog w = .ok (.int .i64 (l.length : Int)) w := fun ty => by
  obtain ⟨D, ho, _, hn⟩ := h.keys hs
  rw [← hn]
  exact ho.len Tryz.underlying126 ty
def updG (G : Bytes → Nat) (x : Bytes) (b : Nat) : Bytes → Nat := fun y => if y = x then b else G y
theorem turned_grown {b : Nat} (h : w.mapTurned w' b) : w.grownBy w' (some b) := by
  obtain ⟨es, clock, es', clock', hb, rfl⟩ := h
  exact ⟨rfl, rfl, rfl, by simp [ChangeMaps.setBlock], fun i _ hi => ChangeMaps.heap_setBlock_other hb _ (fun e => hi (by rw [e]))⟩
theorem MapAt.put (h : MapAt w M G l) (hs : Sorted l) (hl : l.length ≤ 1000000) (x : Bytes) (hx : x.length ≤ 1000000) (f : FileP) (b : Nat) :
    ∃ w', (Instr.mapUpdate 126 (.map (some M)) (.string (strOf x)) (.pointer (some ⟨b, 0, none⟩))).run Tryz.prog w = .ok () w' ∧ MapAt w' M (updG G x b) (putF l x f) ∧ w.grownBy w' (some M) ∧ w'.heap.size = w.heap.size := by
  obtain ⟨D0, ho0, _, hn⟩ := h.keys hs
  obtain ⟨D, ho, hm, hat⟩ := h.ex
  have hD : Maps.size D = Maps.size D0 := by
    obtain ⟨es, c, h1, _, _, rfl⟩ := ho
    obtain ⟨es', c', h1', _, _, rfl⟩ := ho0
    rw [h1] at h1'
    injection h1' with e
    injection e with e1 e2
    subst e1; rfl
  obtain ⟨w', hrun, h1, h2⟩ := ho.store keyed Tryz.underlying126 (by unfold maxLen; omega) (key_of x hx) (ptrR_some b)
  have hsz : w'.heap.size = w.heap.size := by
    obtain ⟨es, clock, es', clock', hb, rfl⟩ := h2
    simp [ChangeMaps.setBlock]
  refine ⟨w', hrun, ⟨_, owns_tight h1, hm.put _ _, fun y z => ?_⟩, turned_grown h2, hsz⟩
  rw [getF_put]
  by_cases hy : y = x
  · subst hy
    rw [atKey_put_same hm (show WideAt.IsKeyLit (.string y) from trivial), if_pos rfl]
    simp [updG]
  · rw [atKey_put_other (fun e => hy (by injection e)), hat, if_neg hy]
    unfold updG
    rw [if_neg hy]
theorem MapAt.del (h : MapAt w M G l) (x : Bytes) (hx : x.length ≤ 1000000) (ty : TypeId) :
    ∃ w', (Builtin.delete_ #[126, 9] ty #[.map (some M), .string (strOf x)]).run Tryz.prog w = .ok (.tuple #[]) w' ∧ MapAt w' M G (delF l x) ∧ w.grownBy w' (some M) ∧ w'.heap.size = w.heap.size := by
  obtain ⟨D, ho, hm, hat⟩ := h.ex
  obtain ⟨w', hrun, h1, h2⟩ := ho.drop keyed Tryz.underlying126 (key_of x hx) ty
  have hsz : w'.heap.size = w.heap.size := by
    obtain ⟨es, clock, es', clock', hb, rfl⟩ := h2
    simp [ChangeMaps.setBlock]
  refine ⟨w', hrun, ⟨_, owns_tight h1, hm.del _, fun y z => ?_⟩, turned_grown h2, hsz⟩
  rw [getF_del]
  by_cases hy : y = x
  · subst hy
    rw [atKey_del_same, if_pos rfl]
  · rw [atKey_del_other (fun e => hy (by injection e)), hat, if_neg hy]
theorem MapAt.made (w : World) (G : Bytes → Nat) : MapAt (w.alloc (.map #[] 0)) w.heap.size G [] :=
  ⟨.map [], World.ownsMap_made _ _ _ _, isMap_empty, fun x z => by simp [getF]; rfl⟩
theorem MapAt.alike (h : MapAt w M G l) {G' : Bytes → Nat} {l' : Files} (hl : ∀ x, (getF l' x).isSome = (getF l x).isSome) (hG : ∀ x, (getF l x).isSome = true → G' x = G x) : MapAt w M G' l' := by
  obtain ⟨D, ho, hm, hat⟩ := h.ex
  refine ⟨D, ho, hm, fun x z => ?_⟩
  rw [hat x z]
  have h1 := hl x
  have h2 := hG x
  cases hx : getF l x <;> cases hx' : getF l' x <;> simp_all
end

/-- The store's own cells. -/
def storeC (M : Nat) (S : StP) : Array Value := #[.int .i64 S.quota, .int .i64 S.used, .map (some M), .bool S.armed, .bool S.down, .int .i64 S.left]
structure StoreIn (own : Owns) (w : World) (p M : Nat) (G : Bytes → Nat) (S : StP) : Prop where
  lt : ∀ k, own k ≠ none → k < w.heap.size
  root : own p = some .root
  rootM : own M = some .root
  blk : w.heap[p]? = some (.cells (storeC M S) 129 (0, 0))
  map : MapAt w M G S.files
  file : ∀ x f, getF S.files x = some f → FileAt own w (G x) f
  inj : ∀ x y, (getF S.files x).isSome = true → (getF S.files y).isSome = true → G x = G y → x = y
def StoreAt (own : Owns) (w : World) (p : Nat) (S : StP) : Prop := ∃ M G, StoreIn own w p M G S

section
variable {own own' : Owns} {w w' : World} {p M : Nat} {G : Bytes → Nat} {S : StP}
theorem StoreIn.turn {T : Option Own → Prop} (h : StoreIn own w p M G S) (g : Turn T own own' w w') (h1 : ¬ T (some .bytes)) (h2 : ¬ T (some .root)) (h3 : ∀ x f, getF S.files x = some f → ¬ T (some (.file (G x)))) : StoreIn own' w' p M G S :=
  ⟨g.ow.lt, (g.keep h.lt h.root h2).2, (g.keep h.lt h.rootM h2).2, (g.keep h.lt h.root h2).1.trans h.blk, h.map.same (g.keep h.lt h.rootM h2).1, fun x f hf => (h.file x f hf).turn g h.lt h1 (h3 x f hf), h.inj⟩
theorem StoreIn.below (h : StoreIn own w p M G S) (g : Below w.heap.size w w') : StoreIn own w' p M G S :=
  h.turn (T := fun _ => False) (Turn.below g h.lt) id id fun _ _ _ => id
theorem StoreAt.below (h : StoreAt own w p S) (g : Below w.heap.size w w') : StoreAt own w' p S := by
  obtain ⟨M, G, h⟩ := h
  exact ⟨M, G, h.below g⟩
theorem StoreAt.lt (h : StoreAt own w p S) : ∀ k, own k ≠ none → k < w.heap.size := by obtain ⟨M, G, h⟩ := h; exact h.lt
/-- Kept, where what it owns is kept. -/
theorem StoreAt.keep (h : StoreAt own w p S) (g : FrameS (fun k => own k ≠ none) w w') : StoreAt own w' p S := by
  obtain ⟨M, G, h⟩ := h
  refine ⟨M, G, h.turn (T := fun o => o = none) ⟨⟨g.os, g.tape, g.output, g.size, fun k hk => g.keep k hk.2⟩, (Owns.onto.refl h.lt).grow g.size⟩ (by simp) (by simp) fun _ _ _ => by simp⟩
/-- A file has turned. -/
theorem StoreIn.filed (h : StoreIn own w p M G S) {x : Bytes} (hx : (getF S.files x).isSome = true) (g : Turn (fun o => o = some (.file (G x))) own own' w w') {f : FileP} (hf : FileAt own' w' (G x) f) :
    StoreIn own' w' p M G { S with files := putF S.files x f } := by
  have hr : ¬ (some Own.root = some (Own.file (G x))) := by simp
  have hk : ∀ y, (getF (putF S.files x f) y).isSome = (getF S.files y).isSome := fun y => by
    rw [getF_put]
    split
    · rename_i e; rw [e, hx]; rfl
    · rfl
  refine ⟨g.ow.lt, (g.keep h.lt h.root hr).2, (g.keep h.lt h.rootM hr).2, (g.keep h.lt h.root hr).1.trans h.blk, (h.map.same (g.keep h.lt h.rootM hr).1).alike hk (fun _ _ => rfl), fun y f' hf' => ?_, fun y z hy hz => h.inj y z (by rw [← hk]; exact hy) (by rw [← hk]; exact hz)⟩
  simp only at hf'
  rw [getF_put] at hf'
  by_cases hyx : y = x
  · rw [if_pos hyx] at hf'
    injection hf' with e
    subst hyx e
    exact hf
  · rw [if_neg hyx] at hf'
    refine (h.file y f' hf').turn g h.lt (by simp) fun e => ?_
    injection e with e
    injection e with e
    exact hyx (h.inj y x (by rw [hf']; rfl) hx e)
/-- The store's own cells have turned. -/
theorem StoreIn.rooted (h : StoreIn own w p M G S) {S' : StP} (hf : S'.files = S.files) (g : Turn (fun o => o = some .root) own own' w w') (hb : w'.heap[p]? = some (.cells (storeC M S') 129 (0, 0))) (hM : w'.heap[M]? = w.heap[M]?) : StoreIn own' w' p M G S' :=
  ⟨g.ow.lt, g.ow.some h.lt h.root, g.ow.some h.lt h.rootM, hb, by rw [hf]; exact h.map.same hM, fun x f hx => (h.file x f (by rw [hf] at hx; exact hx)).turn g h.lt (by simp) (by simp), by rw [hf]; exact h.inj⟩
theorem StoreIn.ne (h : StoreIn own w p M G S) : M ≠ p := fun e => by
  obtain ⟨D, ⟨es, c, hb, _⟩, _⟩ := h.map.ex
  rw [e, h.blk] at hb
  cases hb
/-- The map has turned. -/
theorem StoreIn.mapped (h : StoreIn own w p M G S) {G' : Bytes → Nat} {l : Files} (hm : MapAt w' M G' l) (g : w.grownBy w' (some M)) (hsz : w'.heap.size = w.heap.size)
    (hf : ∀ x f, getF l x = some f → FileAt own w (G' x) f) (hi : ∀ x y, (getF l x).isSome = true → (getF l y).isSome = true → G' x = G' y → x = y) :
    StoreIn own w' p M G' { S with files := l } ∧ Turn (fun o => o = some .root) own own w w' := by
  have ht : Turn (fun o => o = some .root) own own w w' := (Turn.below (T := fun o => o = some .root) (Below.refl _ w) h.lt).grown g fun k hk _ => by injection hk with hk; rw [← hk, h.rootM]
  refine ⟨⟨by rw [hsz]; exact h.lt, h.root, h.rootM, ?_, hm, fun x f hx => (hf x f hx).turn ht h.lt (by simp) (by simp), hi⟩, ht⟩
  rw [g.block p (h.lt p (by rw [h.root]; simp)) (fun e => h.ne (by injection e with e; exact e.symm))]
  exact h.blk
end

/-- A cell of a block that is known whole, and that it may be written. -/
theorem cell_blk {w : World} {b : Nat} {C : Array Value} {t : TypeId} (h : w.heap[b]? = some (.cells C t (0, 0))) (k : Nat) (v : Value) (hk : C[k]? = some v) : w.cell? ⟨b, k, none⟩ = some v := by simp [World.cell?, h, hk]
theorem free_blk {w : World} {b : Nat} {C : Array Value} {t : TypeId} (h : w.heap[b]? = some (.cells C t (0, 0))) (k : Nat) : w.frozen? ⟨b, k, none⟩ = false := by simp [World.frozen?, h]
theorem StoreIn.cells {own : Owns} {w : World} {p M : Nat} {G : Bytes → Nat} {S : StP} (h : StoreIn own w p M G S) :
    w.cell? ⟨p, 0, none⟩ = some (.int .i64 S.quota) ∧ w.cell? ⟨p, 1, none⟩ = some (.int .i64 S.used) ∧ w.cell? ⟨p, 2, none⟩ = some (.map (some M)) ∧ w.cell? ⟨p, 3, none⟩ = some (.bool S.armed) ∧ w.cell? ⟨p, 4, none⟩ = some (.bool S.down) ∧ w.cell? ⟨p, 5, none⟩ = some (.int .i64 S.left) :=
  ⟨cell_blk h.blk 0 _ rfl, cell_blk h.blk 1 _ rfl, cell_blk h.blk 2 _ rfl, cell_blk h.blk 3 _ rfl, cell_blk h.blk 4 _ rfl, cell_blk h.blk 5 _ rfl⟩
end Go.Proofs.YtponfkfeflnilaaGreatDoor
namespace Go.Proofs.YtponfkfeflnilaaGreatDoor
open Go.RowKit Go.Mix Go.WideMaps Go.Maps

section
variable {own own' : Owns} {w w' : World} {p M : Nat} {G : Bytes → Nat} {S : StP}
/-- 'max(x, y)' as one number. -/
theorem max_run (x y : Int) (q : Int) (h : q = max x y) : ∀ (ts : Array TypeId) (t : TypeId) (w : World), (Builtin.max_ ts t #[.int .i64 x, .int .i64 y]).run Tryz.prog w = .ok (.int .i64 q) w := fun ts t w => by
  rw [run_max_int2, h]
  congr 2
  split <;> omega
theorem min_runI (x y : Int) (q : Int) (h : q = min x y) : ∀ (ts : Array TypeId) (t : TypeId) (w : World), (Builtin.min_ ts t #[.int .i64 x, .int .i64 y]).run Tryz.prog w = .ok (.int .i64 q) w := fun ts t w => by
  rw [run_min_int2, h]
  congr 2
  split <;> omega
abbrev ptr (p : Nat) : Value := .pointer (some ⟨p, 0, none⟩)

set_option maxRecDepth 100000 in
theorem off_any (h : StoreIn own w p M G S) : Calls Tryz.prog 84 #[ptr p] w fun e w' => e = .returned (.bool S.down) ∧ w = w' := by
  obtain ⟨-, -, -, -, c4, -⟩ := h.cells
  clear h
  generalize S.down = d at *
  go_enter Tryz.func84, Tryz.ntmps84
  go_wp2_with fail
  go_ret
  exact ⟨rfl, rfl⟩
set_option maxRecDepth 100000 in
theorem off_nil (w : World) : Calls Tryz.prog 84 #[.pointer none] w fun e w' => e = .returned (.bool true) ∧ w = w' := by
  go_enter Tryz.func84, Tryz.ntmps84
  go_wp2_with fail
  go_ret
  exact ⟨rfl, rfl⟩

theorem StoreIn.free (h : StoreIn own w p M G S) (k : Nat) : w.frozen? ⟨p, k, none⟩ = false := free_blk h.blk k
/-- One of the store's own numbers is written. -/
theorem StoreIn.setRoot (h : StoreIn own w p M G S) {k : Nat} {v : Value} {S' : StP} (hf : S'.files = S.files) (hC : (storeC M S).setIfInBounds k v = storeC M S') : StoreIn own (w.setCell ⟨p, k, none⟩ v) p M G S' ∧ Turn (fun o => o = some .root) own own w (w.setCell ⟨p, k, none⟩ v) := by
  have ht : Turn (fun o => o = some .root) own own w (w.setCell ⟨p, k, none⟩ v) := (Turn.below (Below.refl _ w) h.lt).set (fun _ => h.root) v
  refine ⟨h.rooted hf ht ?_ (Below.heap_setCell _ _ _ _ h.ne), ht⟩
  rw [heap_setCell_same _ _ _ _ _ _ h.blk, hC]

set_option maxRecDepth 100000 in
theorem done_any (h : StoreIn own w p M G S) (hl : S.armed = true → -1000 ≤ S.left ∧ S.left ≤ 9223372036854775807) : Calls Tryz.prog 89 #[ptr p] w fun e w' => e = .returned (.int .i64 0) ∧ StoreIn own w' p M G (doneS S) ∧ Turn (fun o => o = some .root) own own w w' := by
  obtain ⟨-, -, -, c3, c4, c5⟩ := h.cells
  have f4 := h.free 4
  have f5 := h.free 5
  have HH := Lib.hid h
  clear h
  cases ha : S.armed
  · rw [ha] at c3
    have HA := Lib.hid ha
    clear ha hl
    go_enter Tryz.func89, Tryz.ntmps89
    go_wp2_with fail
    go_ret
    refine ⟨rfl, ?_, Turn.below (Below.refl _ _) HH.out.lt⟩
    unfold doneS
    rw [HA.out]
    exact HH.out
  · rw [ha] at c3
    have hl' := hl ha
    have HA := Lib.hid ha
    clear ha hl
    obtain ⟨n, hn⟩ : ∃ n, n = S.left := ⟨_, rfl⟩
    rw [← hn] at c5 hl'
    have HN := Lib.hid hn
    clear hn
    go_enter Tryz.func89, Tryz.ntmps89
    go_wp2_with fail
    go_ret
    obtain ⟨h1, t1⟩ := HH.out.setRoot (k := 5) (v := .int .i64 (n - 1)) (S' := { S with left := n - 1 }) rfl rfl
    obtain ⟨h2, t2⟩ := h1.setRoot (k := 4) (v := .bool (decide (n - 1 ≤ 0))) (S' := { S with left := n - 1, down := decide (n - 1 ≤ 0) }) rfl rfl
    refine ⟨rfl, ?_, t1.trans t2⟩
    unfold doneS
    rw [if_pos HA.out, ← HN.out]
    exact h2

set_option maxRecDepth 100000 in
theorem arm_any (h : StoreIn own w p M G S) (n : Int) : Calls Tryz.prog 37 #[ptr p, .int .i64 n] w fun e w' => e = .returned (.tuple #[]) ∧ StoreIn own w' p M G (armS S n) ∧ Turn (fun o => o = some .root) own own w w' := by
  obtain ⟨-, -, -, c3, c4, c5⟩ := h.cells
  have f3 := h.free 3
  have f4 := h.free 4
  have f5 := h.free 5
  have HH := Lib.hid h
  clear h
  cases hd : S.down
  · rw [hd] at c4
    have HD := Lib.hid hd
    clear hd
    obtain ⟨m, hm⟩ : ∃ m, m = max n 0 := ⟨_, rfl⟩
    have MX := max_run n 0 m hm
    have HM := Lib.hid hm
    clear hm
    go_enter Tryz.func37, Tryz.ntmps37
    go_wp2_with fail
    refine bodyPost_end (results_none rfl _ _ _) rfl ?_
    obtain ⟨h1, t1⟩ := HH.out.setRoot (k := 3) (v := .bool true) (S' := { S with armed := true }) rfl rfl
    obtain ⟨h2, t2⟩ := h1.setRoot (k := 5) (v := .int .i64 (m)) (S' := { S with armed := true, left := m }) rfl rfl
    obtain ⟨h3, t3⟩ := h2.setRoot (k := 4) (v := .bool (decide (n ≤ 0))) (S' := { S with armed := true, left := m, down := decide (n ≤ 0) }) rfl rfl
    refine ⟨rfl, ?_, (t1.trans t2).trans t3⟩
    unfold armS
    rw [if_neg (by rw [HD.out]; simp), ← HM.out]
    exact h3
  · rw [hd] at c4
    have HD := Lib.hid hd
    clear hd
    go_enter Tryz.func37, Tryz.ntmps37
    go_wp2_with fail
    refine bodyPost_end (results_none rfl _ _ _) rfl ?_
    refine ⟨rfl, ?_, Turn.below (Below.refl _ _) HH.out.lt⟩
    unfold armS
    rw [if_pos HD.out]
    exact HH.out
set_option maxRecDepth 100000 in
theorem arm_nil (n : Int) (w : World) : Calls Tryz.prog 37 #[.pointer none, .int .i64 n] w fun e w' => e = .returned (.tuple #[]) ∧ w = w' := by
  go_enter Tryz.func37, Tryz.ntmps37
  go_wp2_with fail
  refine bodyPost_end (results_none rfl _ _ _) rfl ?_
  exact ⟨rfl, rfl⟩

set_option maxRecDepth 100000 in
theorem new_any (q : Int) (w : World) : Calls Tryz.prog 33 #[.int .i64 q] w fun e w' => ∃ p own, e = .returned (ptr p) ∧ StoreAt own w' p (newS q) ∧ (∀ k, own k ≠ none → w.heap.size ≤ k) ∧ Below w.heap.size w w' := by
  have hmm := @run_makeMap Tryz.prog
  go_enter Tryz.func33, Tryz.ntmps33
  go_wp2_with fail
  go_ret
  obtain ⟨w1, h1⟩ : ∃ w1, w1 = w.alloc (.map #[] 0) := ⟨_, rfl⟩
  have s1 : w1.heap.size = w.heap.size + 1 := by rw [h1]; simp
  have m1 : MapAt w1 w.heap.size (fun _ => 0) [] := by rw [h1]; exact MapAt.made w _
  have g1 : Below w.heap.size w w1 := by rw [h1]; exact (Below.refl _ _).alloc (Nat.le_refl _) _
  rw [← h1]
  have g2 : Below w1.heap.size w1 (w1.alloc (.cells (storeC w.heap.size (newS q)) 129)) := (Below.refl _ _).alloc (Nat.le_refl _) _
  refine ⟨w.heap.size + 1, Owns.new (fun _ => none) w.heap.size (w.heap.size + 2) (fun _ => .root), rfl, ⟨w.heap.size, fun _ => 0, ?_, Owns.new_at (fun _ => none) (n := w.heap.size) (n' := w.heap.size + 2) (k := w.heap.size + 1) (fun _ => .root) (by omega) (by omega), Owns.new_at (fun _ => none) (n := w.heap.size) (n' := w.heap.size + 2) (k := w.heap.size) (fun _ => .root) (by omega) (by omega), ?_, m1.same (g2.block _ (by omega)), fun x f hx => by simp [newS, getF] at hx, fun x y hx => by simp [newS, getF] at hx⟩, fun k hk => ?_, g1.trans (g2.mono (by omega))⟩
  · intro k hk
    have := (Owns.onto_new (fun _ => none : Owns) (n := w.heap.size) (n' := w.heap.size + 2) (by omega) (fun _ => .root)).lt k hk
    simp [s1]; omega
  · have := heap_alloc_last w1 (.cells (storeC w.heap.size (newS q)) 129 (0, 0)) (w.heap.size + 1) s1.symm
    exact this
  · unfold Owns.new at hk
    by_cases h : k < w.heap.size
    · rw [if_pos h] at hk; exact absurd rfl hk
    · omega
end
end Go.Proofs.YtponfkfeflnilaaGreatDoor
namespace Go.Proofs.YtponfkfeflnilaaGreatDoor
open Go.RowKit Go.Mix Go.WideMaps

theorem eq_text (s : List UInt8) (t : List UInt8) : ((strOf s).toList == t) = decide (s = t) := by rw [strOf_list, Bool.eq_iff_iff, beq_iff_eq, decide_eq_true_eq]
theorem empty_text (s : List UInt8) : ((strOf s).toList.isEmpty) = decide (s = []) := by rw [strOf_list]; cases s <;> rfl

set_option maxRecDepth 100000 in
set_option maxHeartbeats 2000000 in
theorem bad_any (s : List UInt8) (w : World) : Calls Tryz.prog 115 #[.string (strOf s)] w fun e w' => e = .returned (.bool (badF s)) ∧ w = w' := by
  have E0 := empty_text s
  have E1 := eq_text s [46]
  have E2 := eq_text s [46, 46]
  have hB : badF s = (decide (s = []) || decide (s = [46]) || decide (s = [46, 46])) := rfl
  generalize badF s = B at *
  generalize strOf s = S at *
  generalize decide (s = []) = b0 at *
  generalize decide (s = [46]) = b1 at *
  generalize decide (s = [46, 46]) = b2 at *
  subst hB
  cases b0
  · cases b1
    · go_enter Tryz.func115, Tryz.ntmps115
      go_wp2_with fail
      go_ret
      exact ⟨rfl, rfl⟩
    · go_enter Tryz.func115, Tryz.ntmps115
      go_wp2_with fail
      go_ret
      exact ⟨rfl, rfl⟩
  · go_enter Tryz.func115, Tryz.ntmps115
    go_wp2_with fail
    go_ret
    exact ⟨rfl, rfl⟩

abbrev badV : Value := .func (.func 115) #[] #[]
set_option maxRecDepth 100000 in
set_option maxHeartbeats 2000000 in
theorem idxBad_any {w : World} {l : List (List UInt8)} {a : Option Addr} {n cap : Nat} (hg : RsAt encS 1 w a cap l) (hn : n = l.length) (hl : n ≤ 1000000) :
    Calls Tryz.prog 104 #[.slice a n cap, badV] w fun e w' => ∃ m : Int, e = .returned (.int .i64 m) ∧ decide (0 ≤ m) = l.any badF ∧ w = w' := by
  have HG := Lib.hid (And.intro hg hn)
  clear hg hn
  go_enter Tryz.func104, Tryz.ntmps104
  go_wp2_with fail
  go_loopw [8] (fun s8 wr => ∃ i : Nat, s8 = .int .i64 (i : Int) ∧ i ≤ n ∧ (l.take i).any badF = false ∧ w = wr) (fun s8 _ => n - (intOf s8).toNat)
  case atStart => exact ⟨0, rfl, Nat.zero_le _, by simp, rfl⟩
  case round =>
    obtain ⟨i, rfl, hi, hno, rfl⟩ := hrel
    have HNO := Lib.hid hno
    clear hno
    by_cases hin : i < n
    · have t1 : decide ((i : Int) < (n : Int)) = true := decide_eq_true (by omega)
      have t1' : decide (i < n) = true := decide_eq_true hin
      have hil : i < l.length := by rw [← HG.out.2]; exact hin
      obtain ⟨b, q, IX, -, L⟩ := HG.out.1.at1 tyS (i : Int) i rfl hil
      rw [← HG.out.2] at IX
      have L0 := L w (Below.refl _ _)
      have hs : (l.take (i + 1)).any badF = ((l.take i).any badF || badF l[i]!) := by rw [List.take_succ_eq_append_getElem hil, List.any_append, getElem!_pos l i hil]; simp
      obtain ⟨x, hx⟩ : ∃ x, x = l[i]! := ⟨_, rfl⟩
      rw [← hx] at L0 hs
      obtain ⟨B, hB⟩ : ∃ B, B = badF x := ⟨_, rfl⟩
      have CB := bad_any x w
      rw [← hB] at CB hs
      have HS := Lib.hid (And.intro hs (And.intro hx hB))
      unfold strV at L0
      generalize strOf x = X at *
      clear L hs hx hB hil
      cases B
      · go_wp2_with (first | (refine wpList_load_at rfl _ _ rfl _ _ rfl L0 ?_) | (refine Calls.mono CB ?_; rintro e5 w5 ⟨rfl, rfl⟩))
        go_roundw
        case rel => exact ⟨i + 1, by go_num, by omega, by rw [HS.out.1, HNO.out]; rfl, by first | rfl | trivial⟩
        case measure => simp [intOf]; omega
      · go_wp2_with (first | (refine wpList_load_at rfl _ _ rfl _ _ rfl L0 ?_) | (refine Calls.mono CB ?_; rintro e5 w5 ⟨rfl, rfl⟩))
        go_ret
        refine ⟨i, rfl, ?_, rfl⟩
        rw [decide_eq_true (by omega)]
        have hil : i < l.length := by rw [← HG.out.2]; exact hin
        exact (List.any_eq_true.2 ⟨x, by rw [HS.out.2.1, getElem!_pos l i hil]; exact List.getElem_mem hil, HS.out.2.2.symm⟩).symm
    · obtain rfl : i = n := by omega
      have t1 : decide ((i : Int) < (i : Int)) = false := decide_eq_false (by omega)
      have t1' : decide (i < i) = false := decide_eq_false (by omega)
      go_wp2_with fail
      go_ret
      refine ⟨-1, rfl, ?_, rfl⟩
      have := HNO.out
      rw [List.take_of_length_le (by rw [← HG.out.2]; exact Nat.le_refl _)] at this
      rw [this]; rfl
set_option maxRecDepth 100000 in
set_option maxHeartbeats 2000000 in
theorem hasBad_any {w : World} {l : List (List UInt8)} {a : Option Addr} {n cap : Nat} (hg : RsAt encS 1 w a cap l) (hn : n = l.length) (hl : n ≤ 1000000) :
    Calls Tryz.prog 114 #[.slice a n cap, badV] w fun e w' => e = .returned (.bool (l.any badF)) ∧ w = w' := by
  have C := idxBad_any hg hn hl
  clear hg hn hl
  generalize l.any badF = B at *
  go_enter Tryz.func114, Tryz.ntmps114
  go_wp2_with fail
  refine Calls.mono C ?_
  rintro e w5 ⟨m, rfl, hm, rfl⟩
  clear C
  go_wp2_with fail
  go_ret
  exact ⟨by rw [← hm]; rfl, rfl⟩

theorem partsF_eq : ∀ l, partsF l = splitC 47 l
  | [] => rfl
  | x :: l => by
    unfold partsF splitC
    rw [partsF_eq l]
    by_cases h : x = 47
    · rw [if_pos h, if_pos h]
    · rw [if_neg h, if_neg h]
      split <;> split <;> simp_all
theorem index0 (l : List UInt8) : decide (0 ≤ Lib.indexByte l 0) = l.contains 0 := by
  have hge := Lib.indexByte_ge l 0
  by_cases h : 0 ≤ Lib.indexByte l 0
  · obtain ⟨o, ho⟩ := Int.eq_ofNat_of_zero_le h
    have h1 := (Lib.indexByte_some ho).1
    rw [decide_eq_true h]
    symm
    rw [List.contains_iff_mem]
    exact List.mem_of_getElem? h1
  · have h1 : Lib.indexByte l 0 = -1 := by omega
    rw [decide_eq_false h]
    symm
    rw [← Bool.not_eq_true, List.contains_iff_mem]
    intro hm
    obtain ⟨k, hk⟩ := List.getElem?_of_mem hm
    exact Lib.indexByte_none h1 k hk

set_option maxRecDepth 100000 in
set_option maxHeartbeats 2000000 in
theorem right_any (s : List UInt8) (hl : s.length ≤ 100000) (w : World) : Calls Tryz.prog 85 #[.string (strOf s)] w fun e w' => e = .returned (.bool (rightF s)) ∧ Below w.heap.size w w' := by
  have C := fun W => Tryz.strings_IndexByte (strOf s) 0 W
  have hix := index0 s
  have CS := fun W => split_any s 47 (by omega) W
  change ∀ W, Calls _ _ _ _ (fun e w' => e = .returned (.int .i64 (Lib.indexByte s 0)) ∧ w' = W) at C
  generalize Lib.indexByte s 0 = ix at *
  have hsz : (strOf s).size = s.length := strOf_size s
  have hpl := splitC_len 47 s
  have HB := Lib.hid (Below.refl w.heap.size w)
  have hN : rightF s = (decide (s.length ≤ 255) && !s.contains 0 && !(splitC 47 s).any badF) := by unfold rightF; rw [partsF_eq]
  generalize rightF s = N at *
  obtain ⟨P, hP⟩ : ∃ P, P = splitC 47 s := ⟨_, rfl⟩
  rw [← hP] at CS hpl hN
  clear hP
  generalize strOf s = S at *
  generalize s.contains 0 = L at *
  obtain ⟨n, hn⟩ : ∃ n, n = P.length := ⟨_, rfl⟩
  rw [← hn] at CS
  obtain ⟨B, hB⟩ : ∃ B, B = P.any badF := ⟨_, rfl⟩
  rw [← hB] at hN
  have HN := Lib.hid (And.intro hn (And.intro hpl hB))
  clear hpl hn hB
  by_cases h1 : s.length ≤ 255
  case neg =>
    obtain rfl : N = false := by rw [hN, decide_eq_false h1]; rfl
    have h1' : decide ((255 : Int) < (s.length : Int)) = true := decide_eq_true (by omega)
    have h1'' : decide (255 < s.length) = true := decide_eq_true (by omega)
    clear hN C CS hl h1
    go_enter Tryz.func85, Tryz.ntmps85
    go_wp2_with fail
    go_ret
    exact ⟨rfl, HB.out⟩
  have hn6 : n ≤ 1000 := by have := HN.out; omega
  rw [decide_eq_true h1, Bool.true_and] at hN
  have h1' : decide ((255 : Int) < (s.length : Int)) = false := decide_eq_false (by omega)
  have h1'' : decide (255 < s.length) = false := decide_eq_false (by omega)
  cases L
  · rw [Bool.not_false, Bool.true_and] at hN
    subst hN
    clear h1 hl
    go_enter Tryz.func85, Tryz.ntmps85
    go_wp2_with fail
    refine (C _).mono ?_
    rintro e w3 ⟨rfl, rfl⟩
    clear C
    go_wp2_with fail
    refine (CS _).mono ?_
    rintro e w4 ⟨rfl, hw4⟩
    have hb4 : Grow w3 w4 := by rw [hw4]; exact (Below.refl _ _).alloc (Nat.le_refl _) _
    have hblk : w4.heap[w3.heap.size]? = some (.cells (P.map strV).toArray 9 (0, 0)) := by rw [hw4]; exact heap_alloc_last _ _ _ rfl
    have CB := hasBad_any (texts_block hblk (by have := HN.out; omega)) rfl (by have := HN.out; omega)
    rw [← HN.out.1, ← HN.out.2.2] at CB
    have HW4 := Lib.hid (hb4)
    clear CS hw4 hb4 hblk
    go_wp2_with fail
    refine CB.mono ?_
    rintro e w5 ⟨rfl, rfl⟩
    clear CB
    go_wp2_with fail
    go_ret
    exact ⟨rfl, HW4.out⟩
  · rw [Bool.not_true, Bool.false_and] at hN
    subst hN
    clear CS h1 hl
    go_enter Tryz.func85, Tryz.ntmps85
    go_wp2_with fail
    refine (C _).mono ?_
    rintro e w3 ⟨rfl, rfl⟩
    clear C
    go_wp2_with fail
    go_ret
    exact ⟨rfl, HB.out⟩
end Go.Proofs.YtponfkfeflnilaaGreatDoor
namespace Go.Proofs.YtponfkfeflnilaaGreatDoor
open Go.RowKit Go.Mix Go.WideMaps Go.Maps

theorem pre_eq (s p : Bytes) : p.isPrefixOf s = (decide (p.length ≤ s.length) && decide (s.take p.length = p)) := by
  rw [Bool.eq_iff_iff, Bool.and_eq_true, decide_eq_true_eq, decide_eq_true_eq, List.isPrefixOf_iff_prefix, List.prefix_iff_eq_take]
  constructor
  · intro h
    exact ⟨by have := congrArg List.length h; rw [List.length_take] at this; omega, h.symm⟩
  · intro h; exact h.2.symm
set_option maxRecDepth 100000 in
set_option maxHeartbeats 2000000 in
theorem pre_lite (s p : Bytes) (W : World) : Calls Tryz.prog 91 #[.string (strOf s), .string (strOf p)] W fun e w' => e = .returned (.bool (p.isPrefixOf s)) ∧ W = w' := by
  rw [pre_eq]
  have hs := strOf_size s
  have hp := strOf_size p
  by_cases h : p.length ≤ s.length
  · have SL := fun W => str_to Tryz.underlying9 s h W
    have E := strOf_eq (s.take p.length) p
    have E' : ((strOf (s.take p.length)).toList == (strOf p).toList) = decide (s.take p.length = p) := by rw [strOf_list p]; exact E
    rw [decide_eq_true h, Bool.true_and]
    generalize decide (s.take p.length = p) = B at *
    generalize strOf (s.take p.length) = T at *
    have t1 : decide (((strOf p).size : Int) ≤ ((strOf s).size : Int)) = true := decide_eq_true (by omega)
    have t1' : decide ((strOf p).size ≤ (strOf s).size) = true := decide_eq_true (by omega)
    rw [← hp] at SL
    generalize strOf s = X at *
    generalize strOf p = Y at *
    clear E hs hp h
    go_enter Tryz.func91, Tryz.ntmps91
    go_wp2_with fail
    go_ret
    exact ⟨rfl, rfl⟩
  · rw [decide_eq_false h, Bool.false_and]
    have t1 : decide (((strOf p).size : Int) ≤ ((strOf s).size : Int)) = false := decide_eq_false (by omega)
    have t1' : decide ((strOf p).size ≤ (strOf s).size) = false := decide_eq_false (by omega)
    generalize strOf s = X at *
    generalize strOf p = Y at *
    clear hs hp h
    go_enter Tryz.func91, Tryz.ntmps91
    go_wp2_with fail
    go_ret
    exact ⟨rfl, rfl⟩
set_option maxRecDepth 100000 in
theorem pre_any (s p : Bytes) (W : World) : Calls Tryz.prog 59 #[.string (strOf s), .string (strOf p)] W fun e w' => e = .returned (.bool (p.isPrefixOf s)) ∧ W = w' := by
  have C := pre_lite s p W
  generalize p.isPrefixOf s = B at *
  generalize strOf s = X at *
  generalize strOf p = Y at *
  go_enter Tryz.func59, Tryz.ntmps59
  go_wp2_with fail
  refine C.mono ?_
  rintro e w' ⟨rfl, rfl⟩
  clear C
  go_wp2_with fail
  go_ret
  exact ⟨rfl, rfl⟩

/-- A key's round: nothing is left to come; or some path comes. -/
theorem next_key {w : World} {ops : Array Oper} {rest : List Oper} {o : Oper} {a : Act} {Q : Exit → Act → World → Prop} (hg : o.guard = none) (it : Operand) (hop : o.op = Op.next it false) (b r n : Nat) (D : DataW Unit) (left : Lit → Bool) (cnt : Nat)
    (hit : a.eval it = .pointer (some ⟨r, 0, none⟩)) (h : w.ranges Tryz.prog 9 ptrR b r n D left cnt)
    (hDone : (∀ kl, left kl = false) → wpList Tryz.prog ops Q rest (a.put o.dst (.tuple #[.bool false])) w)
    (hMore : ∀ (x : Bytes) (v : Value) (w' : World) (cnt' : Nat), left (.string x) = true → Maps.has D (.string x) = true → w'.ranges Tryz.prog 9 ptrR b r n D (fun z => left z && !z.sameKey (.string x)) cnt' → cnt' < cnt →
      w.grownBy w' (some r) → (Instr.entry (.pointer (some ⟨r, 0, none⟩))).run Tryz.prog w' = .ok (.tuple #[.string (strOf x), v]) w' → wpList Tryz.prog ops Q rest (a.put o.dst (.tuple #[.bool true, .string (strOf x), v])) w') :
    wpList Tryz.prog ops Q (o :: rest) a w :=
  wpList_next_ranges w hg it hop 9 keyed ptrR (fun x : Bytes => .string (strOf x)) (fun v : Value => v)
    (fun key kl hkey => by obtain ⟨x, rfl, _, _⟩ := Maps.keyOf_str Tryz.underlying9 hkey; exact ⟨x, rfl⟩) (fun v _ _ => ⟨v, rfl⟩) b r n D left cnt hit h (fun _ hl => hDone hl)
    (fun x c kl y w' cnt' hkey hlk _ hat hrg hlt hgr _ hen => by
      obtain ⟨x', ex, rfl, _⟩ := Maps.keyOf_str Tryz.underlying9 hkey
      have e : x = x' := strOf_inj (by injection ex)
      subst e
      exact hMore x c w' cnt' hlk (has_true_of_atKey hat) hrg hlt hgr hen)

set_option maxRecDepth 100000 in
set_option maxHeartbeats 4000000 in
theorem free_any {own : Owns} {w : World} {p M : Nat} {G : Bytes → Nat} {S : StP} (h : StoreIn own w p M G S) (hk : ∀ q ∈ S.files, q.1.length ≤ 255) (path but : Bytes) (hpath : path.length ≤ 100000) :
    Calls Tryz.prog 86 #[ptr p, .string (strOf path), .string (strOf but)] w fun e w' => e = .returned (.bool (freeF S.files path but)) ∧ Below w.heap.size w w' := by
  obtain ⟨-, -, c2, -⟩ := h.cells
  obtain ⟨D, hown, hm, hat⟩ := h.map.ex
  have HAT := Lib.hid (And.intro (has_files hat) hk)
  have A1 := fun W => str_add path [47] (by omega) (by decide) W
  have e47 : strOf [47] = ⟨#[47]⟩ := rfl
  rw [e47] at A1
  have HP := Lib.hid hpath
  clear h hm hat hk hpath
  generalize hn : Maps.size D = n at hown
  clear hn
  go_enter Tryz.func86, Tryz.ntmps86
  go_wp2_with (first
    | (at_range; refine wpList_range_own _ rfl _ 126 rfl 9 127 keyed Tryz.underlying126 ptrR M n D rfl hown ?_; intro w0 hrg0 hg0 hs0)
    | go_in)
  go_frame
  have HG0 := Lib.hid (And.intro hg0 hs0)
  clear hg0 hs0 c2
  go_loopw [7] (fun _ wr => ∃ (left : Lit → Bool) (cnt : Nat), wr.ranges Tryz.prog 9 ptrR M w.heap.size n D left cnt ∧ w.grownBy wr none ∧ (∀ x, left (.string x) = false → Maps.has D (.string x) = true → (decide (x ≠ but) && (underF path x || underF x path)) = false))
    (fun _ wr => wr.rangeLeft M w.heap.size)
  case atStart => exact ⟨_, _, hrg0, HG0.out.1, fun x h1 h2 => by rw [h2] at h1; cases h1⟩
  case round =>
    clear hrg0 HG0 hown
    obtain ⟨left, cnt, hrg, hgw, hno⟩ := hrel
    have HR := Lib.hid (And.intro hgw hno)
    clear hgw hno
    go_wp2_with (first
      | (at_next; refine next_key rfl _ rfl M w.heap.size n D left cnt rfl hrg ?_ ?_)
      | go_in)
    · intro hl0
      have HL := Lib.hid hl0
      clear hl0
      go_wp2_with fail
      go_ret
      refine ⟨?_, ⟨HR.out.1.os, HR.out.1.tape, HR.out.1.output, HR.out.1.size, fun k hk => HR.out.1.block k hk (by simp)⟩⟩
      refine ret_bool ?_
      unfold freeF
      symm
      rw [Bool.not_eq_true']
      rw [List.any_eq_false]
      intro q hq
      have hh : Maps.has D (.string q.1) = true := by
        rw [HAT.out.1, Option.isSome_iff_ne_none, Ne, getF_none]
        exact fun hn => hn q hq rfl
      rw [HR.out.2 q.1 (HL.out _) hh]
      simp
    · intro x v w1 cnt1 hlx hhas hrg1 hlt hg1 hen
      have hxl : x.length ≤ 255 := by
        have h1 := HAT.out.1 x
        rw [hhas] at h1
        obtain ⟨f, hf⟩ := Option.isSome_iff_exists.1 h1.symm
        exact HAT.out.2 _ (getF_mem hf)
      have hgw1 : w.grownBy w1 none := HR.out.1.andThen hg1 (fun j hj => by cases hj; exact Or.inl (Nat.le_refl _))
      have hstep : (decide (x ≠ but) && (underF path x || underF x path)) = false → ∀ y, (left (.string y) && !(Lit.string y).sameKey (.string x)) = false → Maps.has D (.string y) = true → (decide (y ≠ but) && (underF path y || underF y path)) = false := fun h0 y h1 h2 => by
        by_cases hy : y = x
        · rw [hy]; exact h0
        · refine HR.out.2 y ?_ h2
          rw [sameKey_ne (fun e => hy (by injection e))] at h1
          simpa using h1
      have hin : ∃ q ∈ S.files, q.1 = x := by
        have h1 := HAT.out.1 x
        rw [hhas] at h1
        obtain ⟨f, hf⟩ := Option.isSome_iff_exists.1 h1.symm
        exact ⟨_, getF_mem hf, rfl⟩
      have hyes : (decide (x ≠ but) && (underF path x || underF x path)) = true → freeF S.files path but = false := fun h0 => by
        unfold freeF
        rw [Bool.not_eq_false']
        obtain ⟨q, hq, rfl⟩ := hin
        exact List.any_eq_true.2 ⟨q, hq, h0⟩
      have C1 := fun W => pre_any x (path ++ [47]) W
      have C2 := fun W => pre_any path (x ++ [47]) W
      have A2 := fun W => str_add x [47] (by omega) (by decide) W
      rw [e47] at A2
      have E := strOf_eq x but
      have E' : ((strOf x).toList == (strOf but).toList) = decide (x = but) := by rw [strOf_list but]; exact E
      have E2 : decide (x ≠ but) = !decide (x = but) := by simp
      have HS := Lib.hid (And.intro hgw1 (And.intro hstep (And.intro hyes (And.intro hrg1 (And.intro hlt hrg)))))
      change ∀ W, Calls _ _ _ W (fun e w' => e = .returned (.bool (underF path x)) ∧ W = w') at C1
      change ∀ W, Calls _ _ _ W (fun e w' => e = .returned (.bool (underF x path)) ∧ W = w') at C2
      obtain ⟨b1, hb1⟩ : ∃ b, b = underF path x := ⟨_, rfl⟩
      obtain ⟨b2, hb2⟩ : ∃ b, b = underF x path := ⟨_, rfl⟩
      obtain ⟨b0, hb0⟩ : ∃ b, b = decide (x = but) := ⟨_, rfl⟩
      rw [← hb1] at C1
      rw [← hb2] at C2
      rw [← hb0] at E' E2
      have HB := Lib.hid (And.intro hb1 (And.intro hb2 E2))
      clear hgw1 hstep hyes hrg1 hlt hg1 hrg hb1 hb2 hb0 E E2 hin hxl hhas hlx
      generalize strOf (path ++ [47]) = T1 at *
      generalize strOf (x ++ [47]) = T2 at *
      generalize strOf x = T5 at *
      cases b0
      · cases b1
        · cases b2
          · go_wp2_with (first | (go_at_call 59; first | (refine (C1 _).mono ?_; rintro e w' ⟨rfl, rfl⟩) | (refine (C2 _).mono ?_; rintro e w' ⟨rfl, rfl⟩)))
            go_roundw
            case rel => exact ⟨_, cnt1, HS.out.2.2.2.1, HS.out.1, HS.out.2.1 (by rw [← HB.out.1, ← HB.out.2.1]; simp)⟩
            case measure => rw [HS.out.2.2.2.1.left_eq, HS.out.2.2.2.2.2.left_eq]; exact HS.out.2.2.2.2.1
          · go_wp2_with (first | (go_at_call 59; first | (refine (C1 _).mono ?_; rintro e w' ⟨rfl, rfl⟩) | (refine (C2 _).mono ?_; rintro e w' ⟨rfl, rfl⟩)))
            go_ret
            refine ⟨ret_bool (HS.out.2.2.1 (by rw [← HB.out.1, ← HB.out.2.1, HB.out.2.2]; rfl)).symm, ⟨HS.out.1.os, HS.out.1.tape, HS.out.1.output, HS.out.1.size, fun k hk => HS.out.1.block k hk (by simp)⟩⟩
        · go_wp2_with (first | (go_at_call 59; first | (refine (C1 _).mono ?_; rintro e w' ⟨rfl, rfl⟩) | (refine (C2 _).mono ?_; rintro e w' ⟨rfl, rfl⟩)))
          go_ret
          refine ⟨ret_bool (HS.out.2.2.1 (by rw [← HB.out.1, ← HB.out.2.1, HB.out.2.2]; rfl)).symm, ⟨HS.out.1.os, HS.out.1.tape, HS.out.1.output, HS.out.1.size, fun k hk => HS.out.1.block k hk (by simp)⟩⟩
      · go_wp2_with fail
        go_roundw
        case rel => exact ⟨_, cnt1, HS.out.2.2.2.1, HS.out.1, HS.out.2.1 (by rw [HB.out.2.2]; rfl)⟩
        case measure => rw [HS.out.2.2.2.1.left_eq, HS.out.2.2.2.2.2.left_eq]; exact HS.out.2.2.2.2.1
end Go.Proofs.YtponfkfeflnilaaGreatDoor
