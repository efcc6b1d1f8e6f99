/-
  A store in memory.
-/
import Derived.Test.YtnlkanhakmkejaaDoorFrm
import Derived.Test.YtnlkanhakmkejaaDoorStr
import Derived.Maps.OwnSet
import Derived.Maps.RangeWalk
import Derived.Sort.KeysCollected
namespace Go.Proofs.YtnlkanhakmkejaaDoor
open Go.RowKit Go.Mix Go.WideMaps Go.Maps

/-- How a file's place reads in the map. -/
def ptrR : Value → Option (DataW Unit × List MemPlace)
  | .pointer none => some (.nil, [])
  | .pointer (some ⟨b, 0, none⟩) => some (.lit (.int .i64 (b : Int)), [])
  | _ => none
theorem ptrR_some (b : Nat) : ptrR (.pointer (some ⟨b, 0, none⟩)) = some (.lit (.int .i64 (b : Int)), []) := rfl
theorem ptrR_inv {v : Value} {b : Nat} {ps : List MemPlace} (h : ptrR v = some (.lit (.int .i64 (b : Int)), ps)) : v = .pointer (some ⟨b, 0, none⟩) := by
  unfold ptrR at h
  split at h
  · simp at h
  · simp at h; rw [Int.ofNat.inj h.1]
  · cases h
theorem ptrR_nil {v : Value} {ps : List MemPlace} (h : ptrR v = some (.nil, ps)) : v = .pointer none := by
  unfold ptrR at h
  split at h
  · rfl
  · simp at h
  · cases h
theorem keyed : Keyed Tryd.prog 9 := string_keyed Tryd.underlying9
theorem key_of (x : List UInt8) (h : x.length ≤ 1000000) : keyOf Tryd.prog 9 (.string (strOf x)) = some (.string x) := keyOf_string_mk Tryd.underlying9 (by rw [strOf_size]; unfold maxLen; omega)
theorem zeroP (w : World) : (zeroValue 63).run Tryd.prog w = .ok (.pointer none) w := by kernel_rfl

/-- Block M is the map from the paths of l to their files' blocks. -/
structure MapAt (w : World) (M : Nat) (G : Bytes → Nat) (l : Files) : Prop where
  ex : ∃ D : DataW Unit, w.ownsMap Tryd.prog 9 ptrR M (Maps.size D) D ∧ IsMap D ∧ ∀ x z, D.atKey (.string x) z = match getF l x with | some _ => .lit (.int .i64 (G x : Int)) | none => z
def placeV (G : Bytes → Nat) (l : Files) (x : Bytes) : Value := match getF l x with | some _ => .pointer (some ⟨G x, 0, none⟩) | none => .pointer none
theorem placeV_some {G : Bytes → Nat} {l : Files} {x : Bytes} {f : FileP} (h : getF l x = some f) : placeV G l x = .pointer (some ⟨G x, 0, none⟩) := by unfold placeV; rw [h]
theorem placeV_none {G : Bytes → Nat} {l : Files} {x : Bytes} (h : getF l x = none) : placeV G l x = .pointer none := by unfold placeV; rw [h]

theorem owns_tight {w : World} {M n : Nat} {D : DataW Unit} (h : w.ownsMap Tryd.prog 9 ptrR M n D) : w.ownsMap Tryd.prog 9 ptrR M (Maps.size D) D := by
  obtain ⟨es, clock, hb, F, hs, rfl⟩ := h
  exact ⟨es, clock, hb, F, by simp [Maps.size, length_sorted], rfl⟩
theorem has_files {D : DataW Unit} {G : Bytes → Nat} {l : Files} (h : ∀ x z, D.atKey (.string x) z = match getF l x with | some _ => .lit (.int .i64 (G x : Int)) | none => z) (x : Bytes) : Maps.has D (.string x) = (getF l x).isSome := by
  cases hx : getF l x with
  | none => exact has_false_of_atKey fun z => by rw [h x z, hx]
  | some f => exact has_true_of_atKey fun z => by rw [h x z, hx]

section
variable {w w' : World} {M : Nat} {G : Bytes → Nat} {l : Files}

theorem MapAt.lt (h : MapAt w M G l) : M < w.heap.size := by obtain ⟨D, h, _⟩ := h.ex; exact h.lt
theorem MapAt.same (h : MapAt w M G l) (hb : w'.heap[M]? = w.heap[M]?) : MapAt w' M G l := by
  obtain ⟨D, ⟨es, clock, h1, r⟩, h2⟩ := h.ex
  exact ⟨D, ⟨es, clock, hb.trans h1, r⟩, h2⟩
theorem MapAt.look_ok (h : MapAt w M G l) (x : Bytes) (hx : x.length ≤ 1000000) :
    (Instr.lookup 42 (.map (some M)) (.string (strOf x)) true).run Tryd.prog w = .ok (.tuple #[placeV G l x, .bool (getF l x).isSome]) w := by
  obtain ⟨D, ho, _, hat⟩ := h.ex
  obtain ⟨v, ps, hrun, hv⟩ := ho.look_ok keyed Tryd.underlying42 (zeroP w) (zd := .nil) (zp := []) rfl (key_of x hx)
  rw [hrun, has_files hat]
  rw [hat x] at hv
  unfold placeV
  cases hx : getF l x with
  | none => rw [hx] at hv; rw [ptrR_nil hv]
  | some f => rw [hx] at hv; rw [ptrR_inv hv]
theorem MapAt.look (h : MapAt w M G l) (x : Bytes) (hx : x.length ≤ 1000000) :
    (Instr.lookup 42 (.map (some M)) (.string (strOf x)) false).run Tryd.prog w = .ok (placeV G l x) w := by
  obtain ⟨D, ho, _, hat⟩ := h.ex
  obtain ⟨v, ps, hrun, hv⟩ := ho.lookup keyed Tryd.underlying42 (zeroP w) (zd := .nil) (zp := []) rfl (key_of x hx)
  rw [hrun]
  rw [hat x] at hv
  unfold placeV
  cases hx : getF l x with
  | none => rw [hx] at hv; rw [ptrR_nil hv]
  | some f => rw [hx] at hv; rw [ptrR_inv hv]
theorem MapAt.keys (h : MapAt w M G l) (hs : Sorted l) : ∃ D : DataW Unit, w.ownsMap Tryd.prog 9 ptrR M (Maps.size D) D ∧ (keysF l).Perm (strKeys D) ∧ Maps.size D = l.length := by
  obtain ⟨D, ho, hm, hat⟩ := h.ex
  obtain ⟨es, hD, hpw, _⟩ := ho.entries keyed
  obtain ⟨es', hD', hko⟩ := ho.keysOf
  obtain rfl : es = es' := by rw [hD] at hD'; simpa using hD'
  subst hD
  have hp : (keysF l).Perm (strKeys (.map es)) := perm_strKeys hpw (fun p hp => by obtain ⟨v, hv⟩ := hko p hp; obtain ⟨x, _, hx, _⟩ := Maps.keyOf_str Tryd.underlying9 hv; exact ⟨x, hx⟩)
    (List.pairwise_map.2 (hs.imp fun hlt e => by rw [e] at hlt; exact lt_irr _ hlt))
    (fun x => by
      rw [has_files hat, Option.isSome_iff_ne_none, Ne, getF_none]
      unfold keysF
      rw [List.mem_map]
      constructor
      · rintro ⟨p, hp, rfl⟩ hn; exact hn p hp rfl
      · intro hn
        refine Classical.byContradiction fun hc => hn fun p hp e => hc ⟨p, hp, e⟩)
  refine ⟨_, ho, hp, ?_⟩
  have := hp.length_eq
  unfold keysF at this
  rw [List.length_map] at this
  rw [this]
  show es.length = (es.map _).length
  rw [List.length_map]
theorem MapAt.size (h : MapAt w M G l) (hs : Sorted l) : ∀ ty, (Builtin.len_ #[42] ty #[.map (some M)]).run Tryd.prog w = .ok (.int .i64 (l.length : Int)) w := fun ty => by
  obtain ⟨D, ho, _, hn⟩ := h.keys hs
  rw [← hn]
  exact ho.len Tryd.underlying42 ty
def updG (G : Bytes → Nat) (x : Bytes) (b : Nat) : Bytes → Nat := fun y => if y = x then b else G y
theorem turned_grown {b : Nat} (h : w.mapTurned w' b) : w.grownBy w' (some b) := by
  obtain ⟨es, clock, es', clock', hb, rfl⟩ := h
  exact ⟨rfl, rfl, rfl, by simp [ChangeMaps.setBlock], fun i _ hi => ChangeMaps.heap_setBlock_other hb _ (fun e => hi (by rw [e]))⟩
theorem MapAt.put (h : MapAt w M G l) (hs : Sorted l) (hl : l.length ≤ 1000000) (x : Bytes) (hx : x.length ≤ 1000000) (f : FileP) (b : Nat) :
    ∃ w', (Instr.mapUpdate 42 (.map (some M)) (.string (strOf x)) (.pointer (some ⟨b, 0, none⟩))).run Tryd.prog w = .ok () w' ∧ MapAt w' M (updG G x b) (putF l x f) ∧ w.grownBy w' (some M) ∧ w'.heap.size = w.heap.size := by
  obtain ⟨D0, ho0, _, hn⟩ := h.keys hs
  obtain ⟨D, ho, hm, hat⟩ := h.ex
  have hD : Maps.size D = Maps.size D0 := by
    obtain ⟨es, c, h1, _, _, rfl⟩ := ho
    obtain ⟨es', c', h1', _, _, rfl⟩ := ho0
    rw [h1] at h1'
    injection h1' with e
    injection e with e1 e2
    subst e1; rfl
  obtain ⟨w', hrun, h1, h2⟩ := ho.store keyed Tryd.underlying42 (by unfold maxLen; omega) (key_of x hx) (ptrR_some b)
  have hsz : w'.heap.size = w.heap.size := by
    obtain ⟨es, clock, es', clock', hb, rfl⟩ := h2
    simp [ChangeMaps.setBlock]
  refine ⟨w', hrun, ⟨_, owns_tight h1, hm.put _ _, fun y z => ?_⟩, turned_grown h2, hsz⟩
  rw [getF_put]
  by_cases hy : y = x
  · subst hy
    rw [atKey_put_same hm (show WideAt.IsKeyLit (.string y) from trivial), if_pos rfl]
    simp [updG]
  · rw [atKey_put_other (fun e => hy (by injection e)), hat, if_neg hy]
    unfold updG
    rw [if_neg hy]
theorem MapAt.del (h : MapAt w M G l) (x : Bytes) (hx : x.length ≤ 1000000) (ty : TypeId) :
    ∃ w', (Builtin.delete_ #[42, 9] ty #[.map (some M), .string (strOf x)]).run Tryd.prog w = .ok (.tuple #[]) w' ∧ MapAt w' M G (delF l x) ∧ w.grownBy w' (some M) ∧ w'.heap.size = w.heap.size := by
  obtain ⟨D, ho, hm, hat⟩ := h.ex
  obtain ⟨w', hrun, h1, h2⟩ := ho.drop keyed Tryd.underlying42 (key_of x hx) ty
  have hsz : w'.heap.size = w.heap.size := by
    obtain ⟨es, clock, es', clock', hb, rfl⟩ := h2
    simp [ChangeMaps.setBlock]
  refine ⟨w', hrun, ⟨_, owns_tight h1, hm.del _, fun y z => ?_⟩, turned_grown h2, hsz⟩
  rw [getF_del]
  by_cases hy : y = x
  · subst hy
    rw [atKey_del_same, if_pos rfl]
  · rw [atKey_del_other (fun e => hy (by injection e)), hat, if_neg hy]
theorem MapAt.made (w : World) (G : Bytes → Nat) : MapAt (w.alloc (.map #[] 0)) w.heap.size G [] :=
  ⟨.map [], World.ownsMap_made _ _ _ _, isMap_empty, fun x z => by simp [getF]; rfl⟩
theorem MapAt.alike (h : MapAt w M G l) {G' : Bytes → Nat} {l' : Files} (hl : ∀ x, (getF l' x).isSome = (getF l x).isSome) (hG : ∀ x, (getF l x).isSome = true → G' x = G x) : MapAt w M G' l' := by
  obtain ⟨D, ho, hm, hat⟩ := h.ex
  refine ⟨D, ho, hm, fun x z => ?_⟩
  rw [hat x z]
  have h1 := hl x
  have h2 := hG x
  cases hx : getF l x <;> cases hx' : getF l' x <;> simp_all
end

/-- The store's own cells. -/
def storeC (M : Nat) (S : StP) : Array Value := #[.int .i64 S.quota, .int .i64 S.used, .map (some M), .bool S.armed, .bool S.down, .int .i64 S.left]
structure StoreIn (own : Owns) (w : World) (p M : Nat) (G : Bytes → Nat) (S : StP) : Prop where
  lt : ∀ k, own k ≠ none → k < w.heap.size
  root : own p = some .root
  rootM : own M = some .root
  blk : w.heap[p]? = some (.cells (storeC M S) 44 (0, 0))
  map : MapAt w M G S.files
  file : ∀ x f, getF S.files x = some f → FileAt own w (G x) f
  inj : ∀ x y, (getF S.files x).isSome = true → (getF S.files y).isSome = true → G x = G y → x = y
def StoreAt (own : Owns) (w : World) (p : Nat) (S : StP) : Prop := ∃ M G, StoreIn own w p M G S

section
variable {own own' : Owns} {w w' : World} {p M : Nat} {G : Bytes → Nat} {S : StP}
theorem StoreIn.turn {T : Option Own → Prop} (h : StoreIn own w p M G S) (g : Turn T own own' w w') (h1 : ¬ T (some .bytes)) (h2 : ¬ T (some .root)) (h3 : ∀ x f, getF S.files x = some f → ¬ T (some (.file (G x)))) : StoreIn own' w' p M G S :=
  ⟨g.ow.lt, (g.keep h.lt h.root h2).2, (g.keep h.lt h.rootM h2).2, (g.keep h.lt h.root h2).1.trans h.blk, h.map.same (g.keep h.lt h.rootM h2).1, fun x f hf => (h.file x f hf).turn g h.lt h1 (h3 x f hf), h.inj⟩
theorem StoreIn.below (h : StoreIn own w p M G S) (g : Below w.heap.size w w') : StoreIn own w' p M G S :=
  h.turn (T := fun _ => False) (Turn.below g h.lt) id id fun _ _ _ => id
theorem StoreAt.below (h : StoreAt own w p S) (g : Below w.heap.size w w') : StoreAt own w' p S := by
  obtain ⟨M, G, h⟩ := h
  exact ⟨M, G, h.below g⟩
theorem StoreAt.lt (h : StoreAt own w p S) : ∀ k, own k ≠ none → k < w.heap.size := by obtain ⟨M, G, h⟩ := h; exact h.lt
/-- Kept, where what it owns is kept. -/
theorem StoreAt.keep (h : StoreAt own w p S) (g : FrameS (fun k => own k ≠ none) w w') : StoreAt own w' p S := by
  obtain ⟨M, G, h⟩ := h
  refine ⟨M, G, h.turn (T := fun o => o = none) ⟨⟨g.os, g.tape, g.output, g.size, fun k hk => g.keep k hk.2⟩, (Owns.onto.refl h.lt).grow g.size⟩ (by simp) (by simp) fun _ _ _ => by simp⟩
/-- A file has turned. -/
theorem StoreIn.filed (h : StoreIn own w p M G S) {x : Bytes} (hx : (getF S.files x).isSome = true) (g : Turn (fun o => o = some (.file (G x))) own own' w w') {f : FileP} (hf : FileAt own' w' (G x) f) :
    StoreIn own' w' p M G { S with files := putF S.files x f } := by
  have hr : ¬ (some Own.root = some (Own.file (G x))) := by simp
  have hk : ∀ y, (getF (putF S.files x f) y).isSome = (getF S.files y).isSome := fun y => by
    rw [getF_put]
    split
    · rename_i e; rw [e, hx]; rfl
    · rfl
  refine ⟨g.ow.lt, (g.keep h.lt h.root hr).2, (g.keep h.lt h.rootM hr).2, (g.keep h.lt h.root hr).1.trans h.blk, (h.map.same (g.keep h.lt h.rootM hr).1).alike hk (fun _ _ => rfl), fun y f' hf' => ?_, fun y z hy hz => h.inj y z (by rw [← hk]; exact hy) (by rw [← hk]; exact hz)⟩
  simp only at hf'
  rw [getF_put] at hf'
  by_cases hyx : y = x
  · rw [if_pos hyx] at hf'
    injection hf' with e
    subst hyx e
    exact hf
  · rw [if_neg hyx] at hf'
    refine (h.file y f' hf').turn g h.lt (by simp) fun e => ?_
    injection e with e
    injection e with e
    exact hyx (h.inj y x (by rw [hf']; rfl) hx e)
/-- The store's own cells have turned. -/
theorem StoreIn.rooted (h : StoreIn own w p M G S) {S' : StP} (hf : S'.files = S.files) (g : Turn (fun o => o = some .root) own own' w w') (hb : w'.heap[p]? = some (.cells (storeC M S') 44 (0, 0))) (hM : w'.heap[M]? = w.heap[M]?) : StoreIn own' w' p M G S' :=
  ⟨g.ow.lt, g.ow.some h.lt h.root, g.ow.some h.lt h.rootM, hb, by rw [hf]; exact h.map.same hM, fun x f hx => (h.file x f (by rw [hf] at hx; exact hx)).turn g h.lt (by simp) (by simp), by rw [hf]; exact h.inj⟩
theorem StoreIn.ne (h : StoreIn own w p M G S) : M ≠ p := fun e => by
  obtain ⟨D, ⟨es, c, hb, _⟩, _⟩ := h.map.ex
  rw [e, h.blk] at hb
  cases hb
/-- The map has turned. -/
theorem StoreIn.mapped (h : StoreIn own w p M G S) {G' : Bytes → Nat} {l : Files} (hm : MapAt w' M G' l) (g : w.grownBy w' (some M)) (hsz : w'.heap.size = w.heap.size)
    (hf : ∀ x f, getF l x = some f → FileAt own w (G' x) f) (hi : ∀ x y, (getF l x).isSome = true → (getF l y).isSome = true → G' x = G' y → x = y) :
    StoreIn own w' p M G' { S with files := l } ∧ Turn (fun o => o = some .root) own own w w' := by
  have ht : Turn (fun o => o = some .root) own own w w' := (Turn.below (T := fun o => o = some .root) (Below.refl _ w) h.lt).grown g fun k hk _ => by injection hk with hk; rw [← hk, h.rootM]
  refine ⟨⟨by rw [hsz]; exact h.lt, h.root, h.rootM, ?_, hm, fun x f hx => (hf x f hx).turn ht h.lt (by simp) (by simp), hi⟩, ht⟩
  rw [g.block p (h.lt p (by rw [h.root]; simp)) (fun e => h.ne (by injection e with e; exact e.symm))]
  exact h.blk
end

/-- A cell of a block that is known whole, and that it may be written. -/
theorem cell_blk {w : World} {b : Nat} {C : Array Value} {t : TypeId} (h : w.heap[b]? = some (.cells C t (0, 0))) (k : Nat) (v : Value) (hk : C[k]? = some v) : w.cell? ⟨b, k, none⟩ = some v := by simp [World.cell?, h, hk]
theorem free_blk {w : World} {b : Nat} {C : Array Value} {t : TypeId} (h : w.heap[b]? = some (.cells C t (0, 0))) (k : Nat) : w.frozen? ⟨b, k, none⟩ = false := by simp [World.frozen?, h]
theorem StoreIn.cells {own : Owns} {w : World} {p M : Nat} {G : Bytes → Nat} {S : StP} (h : StoreIn own w p M G S) :
    w.cell? ⟨p, 0, none⟩ = some (.int .i64 S.quota) ∧ w.cell? ⟨p, 1, none⟩ = some (.int .i64 S.used) ∧ w.cell? ⟨p, 2, none⟩ = some (.map (some M)) ∧ w.cell? ⟨p, 3, none⟩ = some (.bool S.armed) ∧ w.cell? ⟨p, 4, none⟩ = some (.bool S.down) ∧ w.cell? ⟨p, 5, none⟩ = some (.int .i64 S.left) :=
  ⟨cell_blk h.blk 0 _ rfl, cell_blk h.blk 1 _ rfl, cell_blk h.blk 2 _ rfl, cell_blk h.blk 3 _ rfl, cell_blk h.blk 4 _ rfl, cell_blk h.blk 5 _ rfl⟩
end Go.Proofs.YtnlkanhakmkejaaDoor
