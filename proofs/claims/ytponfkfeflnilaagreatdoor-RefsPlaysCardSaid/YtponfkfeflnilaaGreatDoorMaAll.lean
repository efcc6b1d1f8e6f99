/-
  Refs in order of their names: plain; a map from names to ids.
  slices.Grow, slices.Concat of two, of refs; refs.at, refs.file: the walks.
  refs.at, refs.file, refs.list: the walks.
  refs' place: packed, loose: the walks.
  refs' place: all; refs.List: the walks.
-/
import Derived.Test.YtponfkfeflnilaaGreatDoorMaPkA
import Derived.Test.YtponfkfeflnilaaGreatDoorMaStP
import Derived.Test.YtponfkfeflnilaaGreatDoorMaStA
import Derived.Sort.Walk0
import Derived.Sort.OwnSorted
import Derived.Test.YtponfkfeflnilaaGreatDoorMaPkB
import Derived.Test.YtponfkfeflnilaaGreatDoorMaRec
import Derived.Lib.AppendZeros
import Derived.Lib.LazyBuf
import Derived.Maps.OwnSet
import Derived.Test.YtponfkfeflnilaaGreatDoorMaSha
import Derived.Test.YtponfkfeflnilaaGreatDoorMaStC
import Derived.Test.YtponfkfeflnilaaGreatDoorMaOne
namespace Go.Proofs.YtponfkfeflnilaaGreatDoor
open Go.RowKit Go.Mix Go.WideMaps Go.Maps

abbrev Refs := List RefP
def getP : Refs → Bytes → Option Id20
  | [], _ => none
  | p :: r, x => if p.name = x then some p.id else getP r x
def delP (l : Refs) (x : Bytes) : Refs := l.filter fun p => decide (p.name ≠ x)
def insP (x : Bytes) (f : Id20) : Refs → Refs
  | [] => [⟨x, f⟩]
  | p :: r => if p.name < x then p :: insP x f r else ⟨x, f⟩ :: p :: r
def putP (l : Refs) (x : Bytes) (f : Id20) : Refs := insP x f (delP l x)
def SortedP (l : Refs) : Prop := l.Pairwise fun p q => p.name < q.name
def keysP (l : Refs) : List Bytes := l.map RefP.name

theorem getP_none {l : Refs} {x : Bytes} : getP l x = none ↔ ∀ p ∈ l, p.name ≠ x := by
  induction l with
  | nil => simp [getP]
  | cons p r ih =>
    unfold getP
    by_cases h : p.name = x
    · simp [h]
    · rw [if_neg h, ih]; simp [h]
theorem getP_mem {l : Refs} {x : Bytes} {f : Id20} (h : getP l x = some f) : (⟨x, f⟩ : RefP) ∈ l := by
  induction l with
  | nil => simp [getP] at h
  | cons p r ih =>
    unfold getP at h
    by_cases hp : p.name = x
    · rw [if_pos hp] at h
      injection h with h
      subst h hp
      simp
    · rw [if_neg hp] at h
      exact List.mem_cons_of_mem _ (ih h)
theorem getP_of_mem {l : Refs} (hs : SortedP l) {p : RefP} (h : p ∈ l) : getP l p.name = some p.id := by
  induction l with
  | nil => simp at h
  | cons q r ih =>
    obtain ⟨h1, h2⟩ := List.pairwise_cons.1 hs
    unfold getP
    rcases List.mem_cons.1 h with rfl | hm
    · rw [if_pos rfl]
    · have : q.name ≠ p.name := fun e => by
        have := h1 p hm
        rw [e] at this
        exact lt_irr _ this
      rw [if_neg this]
      exact ih h2 hm
theorem getP_del (l : Refs) (x y : Bytes) : getP (delP l x) y = if y = x then none else getP l y := by
  induction l with
  | nil => simp [delP, getP]
  | cons p r ih =>
    unfold delP at ih ⊢
    by_cases hp : p.name = x
    · rw [List.filter_cons_of_neg (by simp [hp]), ih]
      by_cases hy : y = x
      · rw [if_pos hy, if_pos hy]
      · rw [if_neg hy, if_neg hy]
        rw [getP, if_neg (fun e => hy (e.symm.trans hp))]
    · rw [List.filter_cons_of_pos (by simp [hp]), getP, ih]
      by_cases hy : y = x
      · rw [if_pos hy, if_pos hy, if_neg (fun e => hp (e.trans hy))]
      · rw [if_neg hy, if_neg hy, getP]
theorem getP_ins {l : Refs} {x : Bytes} (f : Id20) (hx : getP l x = none) (y : Bytes) : getP (insP x f l) y = if y = x then some f else getP l y := by
  induction l with
  | nil => simp only [insP, getP, eq_comm (a := x)]
  | cons p r ih =>
    have hp : p.name ≠ x := getP_none.1 hx p (by simp)
    have hr : getP r x = none := getP_none.2 fun q hq => getP_none.1 hx q (by simp [hq])
    unfold insP
    by_cases h : p.name < x
    · rw [if_pos h, getP, ih hr]
      by_cases hy : y = x
      · rw [if_pos hy, if_neg (fun e => hp (e.trans hy)), if_pos hy]
      · rw [if_neg hy, if_neg hy, getP]
    · rw [if_neg h]
      simp only [getP, eq_comm (a := x)]
theorem getP_put (l : Refs) (x : Bytes) (f : Id20) (y : Bytes) : getP (putP l x f) y = if y = x then some f else getP l y := by
  unfold putP
  rw [getP_ins f (by rw [getP_del, if_pos rfl]), getP_del]
  split <;> rfl
theorem sorted_delP {l : Refs} (h : SortedP l) (x : Bytes) : SortedP (delP l x) := List.Pairwise.filter _ h
theorem mem_insP {x : Bytes} {f : Id20} {l : Refs} {q : RefP} : q ∈ insP x f l ↔ q = (⟨x, f⟩ : RefP) ∨ q ∈ l := by
  induction l with
  | nil => simp [insP]
  | cons p r ih =>
    unfold insP
    split
    · simp only [List.mem_cons, ih]
      constructor
      · rintro (h | h | h) <;> simp [h]
      · rintro (h | h | h) <;> simp [h]
    · simp
theorem sorted_insP {l : Refs} (h : SortedP l) {x : Bytes} (f : Id20) (hx : getP l x = none) : SortedP (insP x f l) := by
  induction l with
  | nil => simp [insP, SortedP]
  | cons p r ih =>
    obtain ⟨h1, h2⟩ := List.pairwise_cons.1 h
    have hp : p.name ≠ x := getP_none.1 hx p (by simp)
    have hr : getP r x = none := getP_none.2 fun q hq => getP_none.1 hx q (by simp [hq])
    unfold insP
    by_cases hlt : p.name < x
    · rw [if_pos hlt]
      refine List.pairwise_cons.2 ⟨fun q hq => ?_, ih h2 hr⟩
      rcases mem_insP.1 hq with rfl | hq
      · exact hlt
      · exact h1 q hq
    · rw [if_neg hlt]
      have hx' : x < p.name := lt_of_not hlt hp
      refine List.pairwise_cons.2 ⟨fun q hq => ?_, h⟩
      rcases List.mem_cons.1 hq with rfl | hq
      · exact hx'
      · exact lt_tr hx' (h1 q hq)
theorem sorted_putP {l : Refs} (h : SortedP l) (x : Bytes) (f : Id20) : SortedP (putP l x f) := sorted_insP (sorted_delP h x) f (by rw [getP_del, if_pos rfl])
/-- Two lists in order that tell the same are one. -/
theorem files_extP : ∀ {a b : Refs}, SortedP a → SortedP b → (∀ x, getP a x = getP b x) → a = b
  | [], [], _, _, _ => rfl
  | [], q :: b, _, _, h => by have := h q.name; simp [getP] at this
  | p :: a, [], _, _, h => by have := h p.name; simp [getP] at this
  | p :: a, q :: b, ha, hb, h => by
    obtain ⟨a1, a2⟩ := List.pairwise_cons.1 ha
    obtain ⟨b1, b2⟩ := List.pairwise_cons.1 hb
    have e1 : p.name = q.name := by
      by_cases e : p.name = q.name
      · exact e
      · exfalso
        have hp := h p.name
        rw [getP_of_mem ha (by simp : p ∈ p :: a)] at hp
        have hp2 := getP_mem hp.symm
        have hq := h q.name
        rw [getP_of_mem hb (by simp : q ∈ q :: b)] at hq
        have hq2 := getP_mem hq
        rcases List.mem_cons.1 hp2 with h1 | h1
        · exact e (by rw [← h1])
        · rcases List.mem_cons.1 hq2 with h2 | h2
          · exact e (by rw [← h2])
          · exact lt_irr _ (lt_tr (b1 _ h1) (a1 _ h2))
    have e2 : p.id = q.id := by
      have := h p.name
      rw [getP_of_mem ha (by simp : p ∈ p :: a), e1, getP_of_mem hb (by simp : q ∈ q :: b)] at this
      injection this
    have e3 : a = b := files_extP a2 b2 fun x => by
      by_cases hx : p.name = x
      · have n1 : getP a x = none := getP_none.2 fun r hr e => by have := a1 r hr; rw [e, hx] at this; exact lt_irr _ this
        have n2 : getP b x = none := getP_none.2 fun r hr e => by have := b1 r hr; rw [e, ← hx, e1] at this; exact lt_irr _ this
        rw [n1, n2]
      · have := h x
        rw [getP, getP, if_neg hx, if_neg (fun e => hx (e1.trans e))] at this
        exact this
    rw [show p = q by cases p; cases q; simp only at e1 e2; rw [e1, e2], e3]
theorem putP_same {l : Refs} (h : SortedP l) {x : Bytes} {f : Id20} (hf : getP l x = some f) : putP l x f = l :=
  files_extP (sorted_putP h x f) h fun y => by
    rw [getP_put]
    split
    · rename_i e; rw [e, hf]
    · rfl
theorem putP_put {l : Refs} (h : SortedP l) (x : Bytes) (f g : Id20) : putP (putP l x f) x g = putP l x g :=
  files_extP (sorted_putP (sorted_putP h x f) x g) (sorted_putP h x g) fun y => by
    rw [getP_put, getP_put, getP_put]
    split <;> rfl
theorem length_insP (x : Bytes) (f : Id20) (l : Refs) : (insP x f l).length = l.length + 1 := by
  induction l with
  | nil => rfl
  | cons p r ih => unfold insP; split <;> simp [ih]
theorem delP_none {l : Refs} {x : Bytes} (h : getP l x = none) : delP l x = l := by
  unfold delP
  exact List.filter_eq_self.2 fun p hp => by simpa using getP_none.1 h p hp
theorem length_delP {l : Refs} (h : SortedP l) {x : Bytes} (hx : getP l x ≠ none) : (delP l x).length + 1 = l.length := by
  induction l with
  | nil => simp [getP] at hx
  | cons p r ih =>
    obtain ⟨h1, h2⟩ := List.pairwise_cons.1 h
    by_cases hp : p.name = x
    · have hr : getP r x = none := getP_none.2 fun q hq e => by have := h1 q hq; rw [hp, e] at this; exact lt_irr _ this
      have hd := delP_none hr
      unfold delP at hd ⊢
      rw [List.filter_cons_of_neg (by simp [hp]), hd]; rfl
    · rw [getP, if_neg hp] at hx
      have := ih h2 hx
      unfold delP at this ⊢
      rw [List.filter_cons_of_pos (by simp [hp])]
      simp only [List.length_cons]
      omega
theorem length_putP {l : Refs} (h : SortedP l) (x : Bytes) (f : Id20) : (putP l x f).length = if getP l x = none then l.length + 1 else l.length := by
  unfold putP
  rw [length_insP]
  split
  · rename_i hx; rw [delP_none hx]
  · rename_i hx; exact length_delP h hx
theorem length_del_leP (l : Refs) (x : Bytes) : (delP l x).length ≤ l.length := List.length_filter_le _ _


/-- Many, one behind the other. -/
def putsP (l : Refs) (m : List RefP) : Refs := m.foldl (fun l r => putP l r.name r.id) l
theorem sorted_putsP (m : List RefP) : ∀ {l : Refs}, SortedP l → SortedP (putsP l m) := by
  induction m with
  | nil => intro l h; exact h
  | cons r m ih => intro l h; exact ih (sorted_putP h r.name r.id)
theorem putsP_snoc (l : Refs) (m : List RefP) (r : RefP) : putsP l (m ++ [r]) = putP (putsP l m) r.name r.id := by unfold putsP; rw [List.foldl_append]; rfl
theorem length_putsP (m : List RefP) : ∀ {l : Refs}, SortedP l → (putsP l m).length ≤ l.length + m.length := by
  induction m with
  | nil => intro l _; exact Nat.le_refl _
  | cons r m ih =>
    intro l h
    have h1 := ih (sorted_putP h r.name r.id)
    have h2 := length_putP h r.name r.id
    have h3 : (putP l r.name r.id).length ≤ l.length + 1 := by rw [h2]; split <;> omega
    show (putsP (putP l r.name r.id) m).length ≤ _
    simp only [List.length_cons]
    omega
theorem mem_putP {l : Refs} {x : Bytes} {f : Id20} {q : RefP} (h : q ∈ putP l x f) : q = ⟨x, f⟩ ∨ q ∈ l := by
  unfold putP at h
  rcases mem_insP.1 h with h | h
  · exact .inl h
  · exact .inr (List.mem_filter.1 h).1
theorem mem_putsP (m : List RefP) : ∀ {l : Refs} {q : RefP}, q ∈ putsP l m → q ∈ l ∨ q ∈ m := by
  induction m with
  | nil => intro l q h; exact .inl h
  | cons r m ih =>
    intro l q h
    rcases ih h with h | h
    · rcases mem_putP h with rfl | h
      · exact .inr (by simp)
      · exact .inl h
    · exact .inr (by simp [h])
theorem insP_last {l : Refs} {x : Bytes} {f : Id20} (h : ∀ q ∈ l, q.name < x) : insP x f l = l ++ [⟨x, f⟩] := by
  induction l with
  | nil => rfl
  | cons p r ih =>
    unfold insP
    rw [if_pos (h p (by simp)), ih fun q hq => h q (by simp [hq])]
    rfl
/-- What rises is itself. -/
theorem putsP_sorted : ∀ (m l : Refs), SortedP (l ++ m) → putsP l m = l ++ m
  | [], l, _ => by simp [putsP]
  | r :: m, l, h => by
    have h1 : ∀ q ∈ l, q.name < r.name := fun q hq => (List.pairwise_append.1 h).2.2 q hq r (by simp)
    have h2 : getP l r.name = none := getP_none.2 fun q hq e => by have := h1 q hq; rw [e] at this; exact lt_irr _ this
    have h3 : putP l r.name r.id = l ++ [r] := by unfold putP; rw [delP_none h2, insP_last h1]
    show putsP (putP l r.name r.id) m = _
    rw [h3, putsP_sorted m (l ++ [r]) (by simpa using h)]
    simp
theorem ord_sorted {l : List RefP} (h : OrdP l) : SortedP l := by
  unfold SortedP
  rw [List.pairwise_iff_getElem]
  have step : ∀ i, (hi : i + 1 < l.length) → (l[i]'(by omega)).name < l[i + 1].name := fun i hi => by
    have h1 := h (i + 1) hi
    unfold stepN at h1
    rw [getElem!_pos l (i + 1) hi, Nat.add_sub_cancel, getElem!_pos l i (by omega), bytesLess_eq] at h1
    simp at h1
    exact h1.2
  intro i j hi hj hij
  obtain ⟨d, rfl⟩ : ∃ d, j = i + 1 + d := ⟨j - (i + 1), by omega⟩
  clear hij
  induction d with
  | zero => exact step i hj
  | succ d ih => exact lt_tr (ih (by omega)) (step (i + 1 + d) hj)
theorem sorted_ord {l : List RefP} (h : SortedP l) (hr : ∀ r ∈ l, rightN r.name = true) : OrdP l := fun i hi => by
  unfold stepN
  rw [getElem!_pos l i hi, hr _ (List.getElem_mem hi), Bool.true_and]
  by_cases h0 : 0 < i
  · rw [decide_eq_true h0, getElem!_pos l (i - 1) (by omega), bytesLess_eq]
    simp
    exact (List.pairwise_iff_getElem.1 h) (i - 1) i (by omega) hi (by omega)
  · rw [decide_eq_false h0]; rfl

/-! ### The map -/
def cellD : Value → DataW Unit
  | .int .u8 n => .lit (.int .u8 n)
  | _ => .nil
def idR : Value → Option (DataW Unit × List MemPlace)
  | .agg cs => some (.agg (cs.toList.map cellD), [])
  | _ => none
def idD (x : Id20) : DataW Unit := .agg ((idc x).map cellD)
theorem idR_some (x : Id20) : idR (.agg (idA x)) = some (idD x, []) := by simp [idR, idD, idA]
theorem cells_inv : ∀ (l : List UInt8) (cs : List Value), cs.map cellD = (bcells l).map cellD → cs = bcells l
  | [], cs, h => by simp [bcells] at h; simp [bcells, h]
  | b :: l, [], h => by simp [bcells] at h
  | b :: l, c :: cs, h => by
    simp only [bcells, List.map_cons, List.cons.injEq] at h ⊢
    refine ⟨?_, cells_inv l cs h.2⟩
    have h1 := h.1
    unfold cellD at h1
    split at h1
    · simp at h1; rw [h1]
    · simp at h1
theorem idR_inv {v : Value} {x : Id20} {ps : List MemPlace} (h : idR v = some (idD x, ps)) : v = .agg (idA x) := by
  unfold idR at h
  split at h
  · next cs =>
    simp only [idD, Option.some.injEq, Prod.mk.injEq, DataW.agg.injEq] at h
    have := cells_inv x.1 cs.toList h.1
    have e : cs = (bcells x.1).toArray := by rw [← this]
    rw [e]; rfl
  · cases h
theorem zeroId (w : World) : (zeroValue 42).run Tryz.prog w = .ok (.agg (idA id0)) w := by kernel_rfl

structure IdMap (w : World) (M : Nat) (l : Refs) : Prop where
  ex : ∃ D : DataW Unit, w.ownsMap Tryz.prog 9 idR M (Maps.size D) D ∧ IsMap D ∧ ∀ x z, D.atKey (.string x) z = match getP l x with | some f => idD f | none => z
section
variable {w w' : World} {M : Nat} {l : Refs}
theorem IdMap.lt (h : IdMap w M l) : M < w.heap.size := by obtain ⟨D, h, _⟩ := h.ex; exact h.lt
theorem IdMap.same (h : IdMap w M l) (hb : w'.heap[M]? = w.heap[M]?) : IdMap w' M l := by
  obtain ⟨D, ⟨es, clock, h1, r⟩, h2⟩ := h.ex
  exact ⟨D, ⟨es, clock, hb.trans h1, r⟩, h2⟩
theorem IdMap.below (h : IdMap w M l) (g : Below w.heap.size w w') : IdMap w' M l := h.same (g.block M h.lt)
theorem IdMap.look (h : IdMap w M l) (x : Bytes) (hx : x.length ≤ 1000000) :
    (Instr.lookup 108 (.map (some M)) (.string (strOf x)) false).run Tryz.prog w = .ok (.agg (idA ((getP l x).getD id0))) w := by
  obtain ⟨D, ho, _, hat⟩ := h.ex
  obtain ⟨v, ps, hrun, hv⟩ := ho.lookup keyed Tryz.underlying108 (zeroId w) (idR_some id0) (key_of x hx)
  rw [hrun]
  rw [hat x] at hv
  cases hx : getP l x with
  | none => rw [hx] at hv; rw [idR_inv hv]; rfl
  | some f => rw [hx] at hv; rw [idR_inv hv]; rfl
theorem has_ids {D : DataW Unit} {l : Refs} (h : ∀ x z, D.atKey (.string x) z = match getP l x with | some f => idD f | none => z) (x : Bytes) : Maps.has D (.string x) = (getP l x).isSome := by
  cases hx : getP l x with
  | none => exact has_false_of_atKey fun z => by rw [h x z, hx]
  | some f => exact has_true_of_atKey fun z => by rw [h x z, hx]
theorem owns_tightI {n : Nat} {D : DataW Unit} (h : w.ownsMap Tryz.prog 9 idR M n D) : w.ownsMap Tryz.prog 9 idR M (Maps.size D) D := by
  obtain ⟨es, clock, hb, F, hs, rfl⟩ := h
  exact ⟨es, clock, hb, F, by simp [Maps.size, length_sorted], rfl⟩
theorem IdMap.look_ok (h : IdMap w M l) (x : Bytes) (hx : x.length ≤ 1000000) :
    (Instr.lookup 108 (.map (some M)) (.string (strOf x)) true).run Tryz.prog w = .ok (.tuple #[.agg (idA ((getP l x).getD id0)), .bool (getP l x).isSome]) w := by
  obtain ⟨D, ho, _, hat⟩ := h.ex
  obtain ⟨v, ps, hrun, hv⟩ := ho.look_ok keyed Tryz.underlying108 (zeroId w) (idR_some id0) (key_of x hx)
  rw [hrun, has_ids hat]
  rw [hat x] at hv
  cases hx : getP l x with
  | none => rw [hx] at hv; rw [idR_inv hv]; rfl
  | some f => rw [hx] at hv; rw [idR_inv hv]; rfl
theorem IdMap.keys (h : IdMap w M l) (hs : SortedP l) : ∃ D : DataW Unit, w.ownsMap Tryz.prog 9 idR M (Maps.size D) D ∧ (keysP l).Perm (strKeys D) ∧ Maps.size D = l.length := by
  obtain ⟨D, ho, hm, hat⟩ := h.ex
  obtain ⟨es, hD, hpw, _⟩ := ho.entries keyed
  obtain ⟨es', hD', hko⟩ := ho.keysOf
  obtain rfl : es = es' := by rw [hD] at hD'; simpa using hD'
  subst hD
  have hp : (keysP l).Perm (strKeys (.map es)) := perm_strKeys hpw (fun p hp => by obtain ⟨v, hv⟩ := hko p hp; obtain ⟨x, _, hx, _⟩ := Maps.keyOf_str Tryz.underlying9 hv; exact ⟨x, hx⟩)
    (List.pairwise_map.2 (hs.imp fun hlt e => by rw [e] at hlt; exact lt_irr _ hlt))
    (fun x => by
      rw [has_ids hat, Option.isSome_iff_ne_none, Ne, getP_none]
      unfold keysP
      rw [List.mem_map]
      constructor
      · rintro ⟨p, hp, rfl⟩ hn; exact hn p hp rfl
      · intro hn
        refine Classical.byContradiction fun hc => hn fun p hp e => hc ⟨p, hp, e⟩)
  refine ⟨_, ho, hp, ?_⟩
  have := hp.length_eq
  unfold keysP at this
  rw [List.length_map] at this
  rw [this]
  show es.length = (es.map _).length
  rw [List.length_map]
theorem IdMap.size (h : IdMap w M l) (hs : SortedP l) : ∀ ty, (Builtin.len_ #[108] ty #[.map (some M)]).run Tryz.prog w = .ok (.int .i64 (l.length : Int)) w := fun ty => by
  obtain ⟨D, ho, _, hn⟩ := h.keys hs
  rw [← hn]
  exact ho.len Tryz.underlying108 ty
theorem turned_grownI {b : Nat} (h : w.mapTurned w' b) : w.grownBy w' (some b) := by
  obtain ⟨es, clock, es', clock', hb, rfl⟩ := h
  exact ⟨rfl, rfl, rfl, by simp [ChangeMaps.setBlock], fun i _ hi => ChangeMaps.heap_setBlock_other hb _ (fun e => hi (by rw [e]))⟩
theorem IdMap.put (h : IdMap w M l) (hs : SortedP l) (hl : l.length ≤ 1000000) (x : Bytes) (hx : x.length ≤ 1000000) (f : Id20) :
    ∃ w', (Instr.mapUpdate 108 (.map (some M)) (.string (strOf x)) (.agg (idA f))).run Tryz.prog w = .ok () w' ∧ IdMap w' M (putP l x f) ∧ w.grownBy w' (some M) ∧ w'.heap.size = w.heap.size := by
  obtain ⟨D0, ho0, _, hn⟩ := h.keys hs
  obtain ⟨D, ho, hm, hat⟩ := h.ex
  have hD : Maps.size D = Maps.size D0 := by
    obtain ⟨es, c, h1, _, _, rfl⟩ := ho
    obtain ⟨es', c', h1', _, _, rfl⟩ := ho0
    rw [h1] at h1'
    injection h1' with e
    injection e with e1 e2
    subst e1; rfl
  obtain ⟨w', hrun, h1, h2⟩ := ho.store keyed Tryz.underlying108 (by unfold maxLen; omega) (key_of x hx) (idR_some f)
  have hsz : w'.heap.size = w.heap.size := by
    obtain ⟨es, clock, es', clock', hb, rfl⟩ := h2
    simp [ChangeMaps.setBlock]
  refine ⟨w', hrun, ⟨_, owns_tightI h1, hm.put _ _, fun y z => ?_⟩, turned_grownI h2, hsz⟩
  rw [getP_put]
  by_cases hy : y = x
  · subst hy
    rw [atKey_put_same hm (show WideAt.IsKeyLit (.string y) from trivial), if_pos rfl]
  · rw [atKey_put_other (fun e => hy (by injection e)), hat, if_neg hy]
theorem IdMap.made (w : World) : IdMap (w.alloc (.map #[] 0)) w.heap.size [] :=
  ⟨.map [], World.ownsMap_made _ _ _ _, isMap_empty, fun _ _ => rfl⟩
end
theorem keys_sortedP {l : Refs} (hs : SortedP l) {D : DataW Unit} {ss : List Bytes} (hp : ss.Perm (strKeys D)) (hk : (keysP l).Perm (strKeys D)) : ss.mergeSort (fun x y => decide (x ≤ y)) = keysP l := by
  rw [mergeSort_of_perm (hp.trans hk.symm)]
  refine List.mergeSort_of_pairwise ?_
  unfold keysP
  refine List.pairwise_map.2 (hs.imp fun h => ?_)
  exact decide_eq_true (List.le_of_lt h)
end Go.Proofs.YtponfkfeflnilaaGreatDoor
namespace Go.Proofs.YtponfkfeflnilaaGreatDoor
open Go.RowKit Go.Mix Go.WideMaps Go.Maps

theorem sizeOf_ref (w : World) : (sizeOf 88).run Tryz.prog w = .ok 21 w := tyP.se w
set_option maxRecDepth 100000 in
set_option maxHeartbeats 2000000 in
theorem growP_any (w : World) (n : Nat) (hn : n ≤ 100000) : Calls Tryz.prog 116 #[.slice none 0 0, .int .i64 (n : Int)] w fun e w' => ∃ v, e = .returned v ∧ OwnR encP 21 88 w w' v [] := by
  by_cases h0 : n = 0
  · subst h0
    have HB := Lib.hid (Below.refl w.heap.size w)
    go_enter Tryz.func116, Tryz.ntmps116
    go_wp2_with fail
    go_ret
    exact ⟨_, rfl, OwnR.nil HB.out⟩
  · obtain ⟨z, by_, hi0, hzs, hby⟩ := tyP.hi
    obtain ⟨i, hi, hz0, hz1, hz2⟩ := info_parts hi0
    have hge := grownCap_ge w n 0 88
    have hle := grownCap_le_maxLen w n 0 88 (by unfold maxLen; omega)
    have hnb : n * by_ ≤ 100000 * 100 := Nat.mul_le_mul hn hby
    have AP := fun ty => Lib.run_append_nil_zeros (P := Tryz.prog) w 26 3 ty 88 i (.agg z) .i64 .i64 Tryz.underlying26 Tryz.underlying3 hi hz0 n (by omega) (by rw [hz1]; decide) (by omega) (by rw [hz2]; omega)
    obtain ⟨cp, hcp⟩ : ∃ cp, cp = grownCap w n 0 88 := ⟨_, rfl⟩
    obtain ⟨C, hC⟩ : ∃ C, C = (Builtin.zeroCells (Value.agg z).cells n ++ Builtin.zeroCells (Value.agg z).cells (cp - n)) := ⟨_, rfl⟩
    rw [← hcp] at AP hge hle
    have hCs : C.size = cp * 21 := by rw [hC]; simp [Builtin.zeroCells, Value.cells, hzs]; omega
    rw [← hC] at AP
    unfold maxLen at hle
    have HH := Lib.hid (And.intro hCs (And.intro hge hle))
    have hpos : (0 : Int) < (n : Int) := by omega
    have hg : Below w.heap.size w (w.drew.alloc (.cells C 88)) := ((Below.refl _ _).drew).alloc (by simp) _
    have hb : (w.drew.alloc (.cells C 88)).heap[w.heap.size]? = some (.cells C 88 (0, 0)) := heap_alloc_last w.drew _ _ rfl
    have HW := Lib.hid (And.intro hg hb)
    have SL : ∀ W : World, (Instr.slice 26 (.slice (some ⟨w.heap.size, 0, none⟩) n cp) none (some (.int .i64 ((0 : Nat) : Int))) none).run Tryz.prog W = .ok (.slice (some ⟨w.heap.size, 0, none⟩) 0 cp) W := fun W => run_slice_to 26 Tryz.underlying26 (some ⟨w.heap.size, 0, none⟩) n cp 0 (by omega) (fun h => nomatch h) sizeOf_ref W
    have SL2 : ∀ W : World, (Instr.slice 26 (.slice none 0 0) none (some (.int .i64 ((0 : Nat) : Int))) none).run Tryz.prog W = .ok (.slice none 0 0) W := fun W => run_slice_to 26 Tryz.underlying26 none 0 0 0 (by omega) (fun _ => rfl) sizeOf_ref W
    clear hi0 hi hz0 hz1 hz2 hcp hC hCs hge hle hg hb h0 hzs hby hnb
    go_enter Tryz.func116, Tryz.ntmps116
    go_wp2_with (first | (at_builtin; refine Lib.wpList_append_run _ rfl _ _ _ _ rfl _ _ rfl rfl _ _ (AP _) ?_))
    go_ret
    exact ⟨_, rfl, ⟨⟨rfl, .inr ⟨w.heap.size, cp, C, rfl, Nat.le_refl _, HW.out.2, Nat.zero_le _, by unfold maxLen; exact HH.out.2.2, HH.out.1, by simp [flatR]⟩⟩, HW.out.1⟩⟩
/-- Two slices of bytes in a row. -/
theorem row2P {w : World} {g : Nat} {v1 v2 : Value} {t : TypeId} {fr : Nat × Nat} (h : w.heap[g]? = some (.cells #[v1, v2] t fr)) : w.cell? ⟨g, 0, none⟩ = some v1 ∧ w.cell? ⟨g, 1, none⟩ = some v2 := ⟨by simp [World.cell?, h], by simp [World.cell?, h]⟩
theorem idx2P (g k : Nat) (hk : k < 2) (K : Int) (hK : K = (k : Int)) (w : World) : (Instr.indexAt 158 (.slice (some ⟨g, 0, none⟩) 2 2) (.int .i64 K)).run Tryz.prog w = .ok (.pointer (some ⟨g, k, none⟩)) w := by
  subst hK
  have he : Tryz.prog.elem 158 = 26 := by simp [Program.elem, Tryz.underlying158]
  rw [run_indexAt_slice w 158 _ 2 2 .i64 k (by rw [he]; exact Tryz.underlying158), if_pos ⟨by omega, by omega⟩, he, show (sizeOf 26).run Tryz.prog w = .ok 1 w by kernel_rfl]
  simp [Result.andThen, Addr.add_lit]
set_option maxRecDepth 100000 in
set_option maxHeartbeats 4000000 in
theorem concatP_any {w : World} {g : Nat} {a1 a2 : Option Addr} {c1 c2 n1 n2 : Nat} {l1 l2 : List RefP} (hg : w.heap[g]? = some (.cells #[.slice a1 n1 c1, .slice a2 n2 c2] 26 (0, 0))) (h1 : RsAt encP 21 w a1 c1 l1) (h2 : RsAt encP 21 w a2 c2 l2) (hn1 : n1 = l1.length) (hn2 : n2 = l2.length) (hl1 : n1 ≤ 1000) (hl2 : n2 ≤ 1000) :
    Calls Tryz.prog 90 #[.slice (some ⟨g, 0, none⟩) 2 2] w fun e w' => ∃ v, e = .returned v ∧ OwnR encP 21 88 w w' v (l1 ++ l2) := by
  obtain ⟨k0, k1⟩ := row2P hg
  have I0 := fun W => idx2P g 0 (by decide) 0 rfl W
  have I1 := fun W => idx2P g 1 (by decide) 1 rfl W
  have HB := Lib.hid (And.intro h1 (And.intro h2 (And.intro hn1 hn2)))
  have HK := Lib.hid (And.intro k0 k1)
  clear hg h1 h2 hn1 hn2
  go_enter Tryz.func90, Tryz.ntmps90
  go_wp2_with fail
  go_loop [3, 11] (fun s3 s11 => ∃ k : Nat, k ≤ 2 ∧ s11 = .int .i64 (k : Int) ∧ s3 = .int .i64 (if k = 0 then 0 else if k = 1 then (n1 : Int) else (n1 : Int) + (n2 : Int))) (fun _ s11 => 2 - (intOf s11).toNat)
  case atStart => exact ⟨0, by omega, rfl, rfl⟩
  case round =>
    obtain ⟨k, hk, rfl, rfl⟩ := hrel
    obtain rfl | rfl | rfl : k = 0 ∨ k = 1 ∨ k = 2 := by omega
    · go_wp2_with fail
      go_round
      case rel => exact ⟨1, by omega, rfl, by simp⟩
      case measure => simp [intOf]
    · go_wp2_with fail
      go_round
      case rel => exact ⟨2, by omega, rfl, by simp⟩
      case measure => simp [intOf]
    · have CG := fun W => growP_any W (n1 + n2) (by omega)
      rw [Int.natCast_add] at CG
      clear k0 k1
      go_wp2_with fail
      refine (CG _).mono ?_
      clear CG
      rintro e w1 ⟨v1, rfl, hb1⟩
      have HB1 := Lib.hid hb1
      have k0 := (hb1.frame.cell (p := ⟨g, 0, none⟩) (lt_of_cell HK.out.1)).trans HK.out.1
      have k1 := (hb1.frame.cell (p := ⟨g, 1, none⟩) (lt_of_cell HK.out.2)).trans HK.out.2
      clear hb1 k0 k1
      go_wp2_with fail
      go_loopw [6, 27] (fun s6 s27 wr => ∃ k : Nat, k ≤ 2 ∧ s27 = .int .i64 (k : Int) ∧ OwnR encP 21 88 w wr s6 (if k = 0 then [] else if k = 1 then l1 else l1 ++ l2)) (fun _ s27 _ => 2 - (intOf s27).toNat)
      case atStart => exact ⟨0, by omega, rfl, HB1.out⟩
      case round =>
        obtain ⟨k, hk, rfl, hb⟩ := hrel
        have k0 := (hb.frame.cell (p := ⟨g, 0, none⟩) (lt_of_cell HK.out.1)).trans HK.out.1
        have k1 := (hb.frame.cell (p := ⟨g, 1, none⟩) (lt_of_cell HK.out.2)).trans HK.out.2
        have g1 := hb.frame
        have HG := Lib.hid g1
        clear g1
        obtain rfl | rfl | rfl : k = 0 ∨ k = 1 ∨ k = 2 := by omega
        · have e1 := HB.out.2.2.1
          subst e1
          have hb0 : OwnR encP 21 88 w wr _ [] := hb
          have HB0 := Lib.hid (And.intro hb0 (show ([] : List RefP).length + l1.length ≤ 1000000000 by simp; omega))
          clear hb hb0
          go_wp2_with (first | (at_builtin; go_loud (refine wpList_append_r tyP rfl _ _ rfl _ [] rfl HB0.out.1 _ _ c1 l1 rfl rfl (HB.out.1.below HG.out) HB0.out.2 ?_); intro v w2 hb2 hg2 hz2))
          go_roundw
          case rel => exact ⟨1, by omega, rfl, by simpa using hb2⟩
          case measure => simp [intOf]
        · have e2 := HB.out.2.2.2
          subst e2
          simp only [Nat.one_ne_zero, if_false, if_true] at hb
          have hl1' : l1.length ≤ 1000 := by rw [← HB.out.2.2.1]; exact hl1
          go_wp2_with (first | (at_builtin; refine wpList_append_r tyP rfl _ _ rfl _ l1 rfl hb _ _ c2 l2 rfl rfl (HB.out.2.1.below HG.out) (by omega) ?_; intro v w2 hb2 hg2 hz2))
          go_roundw
          case rel => exact ⟨2, by omega, rfl, by simpa using hb2⟩
          case measure => simp [intOf]
        · have HB2 := Lib.hid hb
          clear hb k0 k1
          go_wp2_with fail
          go_ret
          exact ⟨_, rfl, by simpa using HB2.out⟩
end Go.Proofs.YtponfkfeflnilaaGreatDoor
namespace Go.Proofs.YtponfkfeflnilaaGreatDoor
open Go.RowKit Go.Mix Go.WideMaps Go.Maps

/-- A front as it stands ahead of paths. -/
def frontL (front : Bytes) : Bytes := if front = [] then [] else front ++ [47]
def placeA (p : Nat) (f : Bytes) : Array Value := #[ptr p, .string (strOf f)]
set_option maxRecDepth 100000 in
theorem placesL : ∃ fs, Tryz.prog.underlying 106 = some (.struct fs) ∧ fs.toList.mapM (fun f => (Tryz.prog.info? f.type).map fun i => (f.offset, i.size)) = some [(0, 1), (1, 1)] := ⟨_, Tryz.underlying106, by kernel_rfl⟩
theorem fillL (a b : Value) (ha : a.cells.toList = [a]) (hb : b.cells.toList = [b]) (ha2 : a.cells.size = 1) (hb2 : b.cells.size = 1) : Instr.fill (([(0, 1), (1, 1)] : List (Nat × Nat)).toArray[·]?) #[.pointer none, .string ByteArray.empty] [(0, a), (1, b)] = some #[a, b] := by
  rw [fill_cons (o := 0) (n := 1) rfl ha2 (by simp), fill_cons (o := 1) (n := 1) rfl hb2 (by simp [ha]), fill_nil]
  simp [ha, hb]
theorem buildL (p : Nat) (s : ByteArray) (w : World) : (Instr.build 106 #[(0, ptr p), (1, .string s)]).run Tryz.prog w = .ok (.agg #[ptr p, .string s]) w := by
  obtain ⟨fs, h1, h2⟩ := placesL
  exact built_at (Z := [.pointer none, .string ByteArray.empty]) (by kernel_rfl) h1 h2 (fillL (ptr p) (.string s) rfl rfl rfl rfl) w

set_option maxRecDepth 100000 in
set_option maxHeartbeats 2000000 in
theorem at_any (p : Nat) (front : Bytes) (hf : front.length ≤ 100000) (w : World) : Calls Tryz.prog 57 #[ptr p, .string (strOf front)] w fun e w' => e = .returned (.agg (placeA p (frontL front))) ∧ Below w.heap.size w w' := by
  have z : ∀ w, (zeroValue 106).run Tryz.prog w = .ok (.agg #[.pointer none, .string ByteArray.empty]) w := fun w => by kernel_rfl
  have A1 := fun W => str_add front [47] (by omega) (by decide) W
  rw [show strOf [47] = ⟨#[47]⟩ from rfl] at A1
  have B := fun W : World => buildL p (strOf (frontL front)) W
  have hE : (strOf front).toList.isEmpty = decide (front = []) := empty_text front
  have hzb : (w.alloc (.cells #[.pointer none, .string ByteArray.empty] 106)).heap[w.heap.size]? = some (.cells #[.pointer none, .string ByteArray.empty] 106 (0, 0)) := heap_alloc_last _ _ _ rfl
  have zi : (Tryz.prog.info? 106).map (·.size) = some (placeA p (frontL front)).size := by kernel_rfl
  have gA : Below w.heap.size w ((w.alloc (.cells #[.pointer none, .string ByteArray.empty] 106)).setRow w.heap.size (placeA p (frontL front))) := below_setRow ((Below.refl _ _).alloc (Nat.le_refl _) _) (Nat.le_refl _) _
  have hr := setRow_heap _ _ _ (placeA p (frontL front)) _ _ hzb
  have zs : (#[.pointer none, .string ByteArray.empty] : Array Value).size = (placeA p (frontL front)).size := rfl
  have z1 : (placeA p (frontL front)).all (·.oneCell') = true := all_oneCell_toArray (cs := [ptr p, .string (strOf (frontL front))]) (fun u hu => by
    rcases List.mem_cons.1 hu with rfl | hu
    · rfl
    · rw [List.mem_singleton] at hu; subst hu; rfl)
  have HA := Lib.hid (And.intro gA hr)
  have HF : Hid ((front = [] → strOf (frontL front) = strOf front) ∧ (front ≠ [] → strOf (frontL front) = strOf (front ++ [47]))) := Lib.hid ⟨fun h => by unfold frontL; rw [if_pos h, h], fun h => by unfold frontL; rw [if_neg h]⟩
  clear gA hr hf
  change ∀ W, (Instr.build 106 #[(0, ptr p), (1, .string (strOf (frontL front)))]).run Tryz.prog W = .ok (.agg (placeA p (frontL front))) W at B
  by_cases h0 : front = []
  · rw [decide_eq_true h0] at hE
    rw [HF.out.1 h0] at B
    generalize strOf front = F at *
    clear h0 A1
    go_enter Tryz.func57, Tryz.ntmps57
    go_wp2_with (first | (refine wpList_build_at rfl _ _ rfl [(0, ptr p), (1, .string F)] _ rfl (B _) ?_) | (refine wpList_store_row rfl 106 _ _ rfl w.heap.size (placeA p (frontL front)) rfl rfl 106 _ hzb zi zs z1 ?_))
    refine bodyPost_ret (results_cell_row rfl _ _ w.heap.size 106 (placeA p (frontL front)) (0, 0) _ rfl HA.out.2 Tryz.underlying106 rfl zi) rfl ?_
    exact ⟨rfl, HA.out.1⟩
  · rw [decide_eq_false h0] at hE
    rw [HF.out.2 h0] at B
    generalize strOf (front ++ [47]) = F2 at *
    generalize strOf front = F at *
    clear h0
    go_enter Tryz.func57, Tryz.ntmps57
    go_wp2_with (first | (refine wpList_build_at rfl _ _ rfl [(0, ptr p), (1, .string F2)] _ rfl (B _) ?_) | (refine wpList_store_row rfl 106 _ _ rfl w.heap.size (placeA p (frontL front)) rfl rfl 106 _ hzb zi zs z1 ?_))
    refine bodyPost_ret (results_cell_row rfl _ _ w.heap.size 106 (placeA p (frontL front)) (0, 0) _ rfl HA.out.2 Tryz.underlying106 rfl zi) rfl ?_
    exact ⟨rfl, HA.out.1⟩

/-! ### A ref's file -/
noncomputable def fileK (b : Bytes) : Option Id20 := if ([10] : Bytes).isSuffixOf b then unhex (b.take (b.length - 1)) else none
noncomputable def fileE (b : Bytes) : Int := if (fileK b).isSome then 0 else 4

set_option maxRecDepth 100000 in
set_option maxHeartbeats 2000000 in
theorem file_any {w : World} {b : Bytes} {a : Option Addr} {cap : Nat} (hg : Sl w a cap b) (hl : b.length ≤ 1000000) : Calls Tryz.prog 70 #[.slice a b.length cap] w fun e w' => e = .returned (.tuple #[.agg (idA ((fileK b).getD id0)), .int .i64 (fileE b)]) ∧ Below w.heap.size w w' := by
  obtain ⟨Z, hZ⟩ : ∃ Z, Z = idA id0 := ⟨_, rfl⟩
  have z : ∀ w, (zeroValue 42).run Tryz.prog w = .ok (.agg Z) w := fun w => by rw [hZ]; kernel_rfl
  have b0 : ∀ w, (Instr.build 42 #[]).run Tryz.prog w = .ok (.agg Z) w := fun w => by rw [hZ]; kernel_rfl
  have HZ := Lib.hid hZ
  have ST := hg.str
  change (convert 24 9 (.slice a b.length cap)).run Tryz.prog w = .ok (.string (strOf b)) w at ST
  have ST' : ∀ y : Later w, (convert 24 9 (.slice a b.length cap)).run Tryz.prog y.1 = .ok (.string (strOf b)) y.1 := fun y => (hg.below y.2).str
  have C1 : ∀ W, Calls Tryz.prog 69 #[.string (strOf b), .string ⟨#[10]⟩] W fun e w' => e = .returned (.tuple #[.string (strOf (Lib.trimSuffix b [10])), .bool (([10] : Bytes).isSuffixOf b)]) ∧ w' = W := fun W => Tryz.strings_CutSuffix (strOf b) ⟨#[10]⟩ W (by rw [strOf_size]; omega)
  obtain ⟨n, hn⟩ : ∃ n, n = b.length := ⟨_, rfl⟩
  rw [← hn] at ST ST' ⊢
  obtain ⟨K, hK⟩ : ∃ K, K = fileK b := ⟨_, rfl⟩
  obtain ⟨ok, hok⟩ : ∃ ok, ok = ([10] : Bytes).isSuffixOf b := ⟨_, rfl⟩
  obtain ⟨h, hh⟩ : ∃ h, h = Lib.trimSuffix b [10] := ⟨_, rfl⟩
  rw [← hok, ← hh] at C1
  have hKe : K = if ok then unhex h else none := by
    rw [hK, hh, hok]; unfold fileK Lib.trimSuffix Lib.hasSuffix
    split
    · rfl
    · rfl
  have hfe : fileE b = if K.isSome then 0 else 4 := by unfold fileE; rw [← hK]
  obtain ⟨E, hE⟩ : ∃ E : Int, E = if K.isSome then 0 else 4 := ⟨_, rfl⟩
  rw [← hE] at hfe
  rw [← hK, hfe]
  have HE := Lib.hid hE
  clear hE
  obtain ⟨VK, hVK⟩ : ∃ V, V = idA (K.getD id0) := ⟨_, rfl⟩
  rw [← hVK]
  have HVK := Lib.hid hVK
  clear hVK
  have C2 := fun W => shaParse_any (strOf h) W
  change ∀ W, Calls _ _ _ W (fun e w' => e = .returned (.tuple #[.agg (idA (shaX h)), .int .i64 (shaE h)]) ∧ Below W.heap.size W w') at C2
  have HK := Lib.hid hKe
  have hz1 : (w.alloc (.cells Z 42)).heap[w.heap.size]? = some (.cells Z 42 (0, 0)) := heap_alloc_last _ _ _ rfl
  have hb1 : Below w.heap.size w (w.alloc (.cells Z 42)) := (Below.refl _ _).alloc (Nat.le_refl _) _
  have ST1 := ST' ⟨_, hb1⟩
  change (convert 24 9 (.slice a n cap)).run Tryz.prog (w.alloc (.cells Z 42)) = .ok (.string (strOf b)) (w.alloc (.cells Z 42)) at ST1
  clear hn hK hok hh hKe hfe hZ hg ST ST'
  obtain ⟨B, hB⟩ : ∃ B, B = strOf b := ⟨_, rfl⟩
  obtain ⟨H, hH⟩ : ∃ H, H = strOf h := ⟨_, rfl⟩
  rw [← hB] at ST1 C1
  rw [← hH] at C1 C2
  have HB := Lib.hid (And.intro hz1 hb1)
  clear hB hH hz1 hb1
  go_enter Tryz.func70, Tryz.ntmps70
  go_upto_region 1 with (fail)
  obtain ⟨R, hR⟩ : ∃ R, R = w.heap.size := ⟨_, rfl⟩
  have hz1 := HB.out.1
  rw [← hR] at hz1 ⊢
  have hRw : w.heap.size ≤ R := Nat.le_of_eq hR.symm
  have HB1 := Lib.hid HB.out.2
  clear hR HB
  generalize w.alloc (.cells Z 42) = w1 at *
  go_wp2_with fail
  refine (C1 _).mono ?_
  rintro e w2 ⟨rfl, rfl⟩
  clear C1 ST1
  have zi : ∀ x : Id20, (Tryz.prog.info? 42).map (·.size) = some (idA x).size := fun x => by rw [idA_size]; kernel_rfl
  cases ok
  case false =>
    have hK0 : K = none := HK.out
    have hr := setRow_heap _ _ _ Z _ _ hz1
    have gA : Below w.heap.size w (w2.setRow R Z) := below_setRow HB1.out hRw _
    have HG := Lib.hid (And.intro hr gA)
    have ziZ : (Tryz.prog.info? 42).map (·.size) = some Z.size := by rw [HZ.out]; exact zi _
    have z1 : Z.all (·.oneCell') = true := by rw [HZ.out]; exact idA_one id0
    clear hr gA C2
    go_wp2_with (first | (refine wpList_build_at rfl _ _ rfl [] _ rfl (b0 _) ?_) | (refine wpList_store_row rfl 42 _ _ rfl R Z rfl rfl 42 Z hz1 ziZ rfl z1 ?_))
    refine bodyPost_ret (results_cell_tmp rfl _ _ R 42 Z (0, 0) _ rfl HG.out.1 Tryz.underlying42 rfl ziZ) rfl ?_
    refine ⟨?_, HG.out.2⟩
    rw [HE.out, HVK.out, hK0]
    show Ending.returned (.tuple #[.agg Z, .int .i64 4]) = _
    rw [HZ.out]; rfl
  · go_wp2_with fail
    refine (C2 _).mono ?_
    rintro e w3 ⟨rfl, hw3⟩
    clear C2
    have hz3 := blockR_below hz1 hw3
    have hb3 := HB1.out.trans (hw3.mono HB1.out.size)
    have hK0 : K = unhex h := HK.out
    obtain ⟨x, ex, hxe⟩ : ∃ x ex, x = shaX h ∧ ex = shaE h := ⟨_, _, rfl, rfl⟩
    rw [← hxe.1, ← hxe.2]
    have hr := setRow_heap _ _ _ (idA x) _ _ hz3
    have gA : Below w.heap.size w (w3.setRow R (idA x)) := below_setRow hb3 hRw _
    have zs : Z.size = (idA x).size := by rw [HZ.out, idA_size, idA_size]
    have zx := zi x
    have z1 := idA_one x
    have HG := Lib.hid (And.intro hr (And.intro gA (And.intro hxe hK0)))
    clear hr gA hxe hK0 hb3 hw3 hz1
    go_wp2_with (first | (refine wpList_store_row rfl 42 _ _ rfl R (idA x) rfl rfl 42 Z hz3 zx zs z1 ?_))
    refine bodyPost_ret (results_cell_tmp rfl _ _ R 42 (idA x) (0, 0) _ rfl HG.out.1 Tryz.underlying42 rfl zx) rfl ?_
    refine ⟨?_, HG.out.2.1⟩
    rw [HE.out, HVK.out, HG.out.2.2.2]
    show Ending.returned (.tuple #[.agg (idA x), .int .i64 ex]) = _
    rw [HG.out.2.2.1.1, HG.out.2.2.1.2]
    unfold shaX shaE
    rfl

/-! ### All, in order -/
set_option maxRecDepth 100000 in
set_option maxHeartbeats 4000000 in
theorem lst_any {w : World} {M : Nat} {l : Refs} (h : IdMap w M l) (hs : SortedP l) (hl : l.length ≤ 100000) (hx : ∀ r ∈ l, r.name.length ≤ 100000) :
    Calls Tryz.prog 67 #[.map (some M)] w fun e w' => ∃ v, e = .returned v ∧ OwnR encP 21 88 w w' v l := by
  obtain ⟨D, hown, hkp, hsz⟩ := h.keys hs
  have CK := callsIn_wide.1 (Tryz.keysOfI (some M) w)
  have CS := callsIn_wide.1 (Tryz.sortedOfI M _ D idR w hown (by rw [hsz]; unfold maxLen; omega) (by rw [hsz]; omega))
  have HH := Lib.hid (And.intro h (And.intro hkp (And.intro hs (And.intro hl hx))))
  clear h hown hkp hsz hl hx hs
  go_enter Tryz.func67, Tryz.ntmps67
  go_wp2_with fail
  refine CK.mono ?_
  clear CK
  rintro e w2 ⟨rfl, rfl⟩
  go_wp2_with fail
  refine CS.mono ?_
  clear CS
  rintro e w3 ⟨v, ss, rfl, hperm, hrow, -, hb⟩
  have hks := keys_sortedP HH.out.2.2.1 hperm HH.out.2.1
  have hlen : ss.length = (keysP l).length := by rw [← hks, List.length_mergeSort]
  rw [hks, hlen] at hrow
  have g3 : Below w.heap.size w w3 := ((Below.refl _ _).alloc (Nat.le_refl _) _).trans (hb.mono (by simp))
  obtain ⟨w2, hw2⟩ : ∃ w2, w2 = w.alloc (.cells #[.map (some M)] 108) := ⟨_, rfl⟩
  have hown : OwnR encS 1 9 w2 w3 v (keysP l) := by rw [hw2]; exact ⟨by rw [flat_texts]; exact hrow, hb⟩
  obtain ⟨av, cv, rfl, hrs, -⟩ := hown.rs1 tyS
  have hkl : (keysP l).length = l.length := by unfold keysP; rw [List.length_map]
  obtain ⟨n, hn⟩ : ∃ n, n = (keysP l).length := ⟨_, rfl⟩
  have hn1 : n ≤ 100000 := by have := HH.out.2.2.2.1; omega
  rw [← hn]
  have H3 := Lib.hid (And.intro hrs (And.intro g3 (And.intro hn (hn.trans hkl))))
  clear hks hlen hrow hb g3 hown hrs hn hkl hw2 w2 hperm
  go_wp2_with fail
  go_loopw [3, 10] (fun s3 s10 wr => ∃ i : Nat, s10 = .int .i64 (i : Int) ∧ i ≤ n ∧ OwnR encP 21 88 w3 wr s3 (l.take i)) (fun _ s10 _ => n - (intOf s10).toNat)
  case atStart => exact ⟨0, rfl, Nat.zero_le _, OwnR.nil (Below.refl _ _)⟩
  case round =>
    obtain ⟨i, rfl, hi, hrow⟩ := hrel
    have hbr := hrow.frame
    by_cases hin : i < n
    · have t1 : decide ((i : Int) < (n : Int)) = true := decide_eq_true (by omega)
      have t1' : decide (i < n) = true := decide_eq_true hin
      have hik : i < (keysP l).length := by rw [← H3.out.2.2.1]; exact hin
      have hil : i < l.length := by rw [← H3.out.2.2.2]; exact hin
      obtain ⟨b, q, IX, -, L⟩ := (H3.out.1.below hbr).at1 tyS (i : Int) i rfl hik
      rw [← H3.out.2.2.1] at IX
      have L0 := L wr (Below.refl _ _)
      have hki : (keysP l)[i]! = l[i]!.name := by
        rw [getElem!_pos _ i hik, getElem!_pos l i hil]; simp [keysP]
      rw [hki] at L0
      have hpm : l[i]! ∈ l := by rw [getElem!_pos l i hil]; exact List.getElem_mem hil
      have LK := (HH.out.1.below (H3.out.2.1.trans (hbr.mono H3.out.2.1.size))).look l[i]!.name (by have := HH.out.2.2.2.2 _ hpm; omega)
      rw [getP_of_mem HH.out.2.2.1 hpm] at LK
      change _ = Result.ok (Value.agg (idA l[i]!.id)) wr at LK
      have HS := Lib.hid (take_succP hil)
      have hll : (l.take i).length ≤ 100000 := by rw [List.length_take]; omega
      obtain ⟨p, hp⟩ : ∃ p, p = l[i]! := ⟨_, rfl⟩
      rw [← hp] at L0 LK
      have HP := Lib.hid hp
      have B := fun W : World => buildP p.name p.id W
      have B1 := tyP.slice1 p wr
      have hrow9 := hrow.later ((Below.refl _ _).alloc (Nat.le_refl _) (.cells (recA encP p) 88))
      have hp9 := RsAt.one (enc := encP) (L := 21) wr 88 p
      have HRP := Lib.hid (And.intro hrow9 (And.intro hp9 hll))
      change ∀ W, (Instr.build 88 #[(0, .string (strOf p.name)), (1, .agg (idA p.id))]).run Tryz.prog W = .ok (.agg (recA encP p)) W at B
      unfold strV at L0
      generalize strOf p.name = NS at *
      generalize idA p.id = VI at *
      generalize l.take i = xs at *
      clear hrow9 hp9 hrow hbr hll hp hki hpm L hik hil
      go_wp2_with (first | (refine wpList_load_at rfl _ _ rfl _ _ rfl L0 ?_) | (refine wpList_build_at rfl _ _ rfl [(0, .string NS), (1, .agg VI)] _ rfl (B _) ?_) | (refine wpList_buildSlice_at rfl _ _ _ rfl [(0, .agg (recA encP p))] _ rfl B1 ?_) | (refine wpList_append_r tyP rfl (.tmp 14) (.tmp 20) rfl _ xs rfl HRP.out.1 (some ⟨wr.heap.size, 0, none⟩) 1 1 [p] rfl rfl HRP.out.2.1 (by have := HRP.out.2.2; simp; omega) ?_; intro v11 w11 hrow11 hgr11 hgn11; have H11 := Lib.hid hrow11; clear hrow11 hgr11 hgn11 B B1 LK))
      go_roundw
      case rel => exact ⟨i + 1, by go_num, by omega, by rw [HS.out, ← HP.out]; exact H11.out⟩
      case measure => simp [intOf]; omega
    · obtain rfl : i = n := by omega
      have t1 : decide ((i : Int) < (i : Int)) = false := decide_eq_false (by omega)
      have t1' : decide (i < i) = false := decide_eq_false (by omega)
      have e : l.take i = l := List.take_of_length_le (by rw [H3.out.2.2.2]; exact Nat.le_refl _)
      rw [e] at hrow
      have HRES := Lib.hid (hrow.rebase H3.out.2.1)
      clear hrow hbr e
      go_wp2_with fail
      go_ret
      exact ⟨_, rfl, HRES.out⟩
end Go.Proofs.YtponfkfeflnilaaGreatDoor
namespace Go.Proofs.YtponfkfeflnilaaGreatDoor
open Go.RowKit Go.Mix Go.WideMaps Go.Maps

/-- What a file holds; of none: nothing. -/
def nowO (l : Files) (x : Bytes) : Bytes := ((getF l x).map FileP.now).getD []
theorem ReadIs.now {l : Files} {path : Bytes} {w w' : World} {e : Ending} (h : ReadIs l path w e w') : ∃ a c x, e = .returned (.tuple #[.slice a (nowO l path).length c, .int .i64 x]) ∧ Sl w' a c (nowO l path) ∧ (x = if (getF l path).isSome then 0 else 6) ∧ Below w.heap.size w w' := by
  obtain ⟨h1, h2, hb⟩ := h
  unfold nowO
  cases hx : getF l path with
  | none => exact ⟨none, 0, 6, h2 hx, ⟨.inl rfl, Nat.le_refl _, by decide, fun _ => rfl⟩, rfl, hb⟩
  | some f =>
    obtain ⟨v, e1, b⟩ := h1 f hx
    obtain ⟨a, c, rfl, hs⟩ := b.1.sl
    exact ⟨a, c, 0, e1, hs, rfl, hb⟩
theorem OkS.now_len {Z : Nat} {S : StP} (h : OkS Z S) (x : Bytes) : (nowO S.files x).length ≤ Z := by
  unfold nowO
  cases hx : getF S.files x with
  | none => exact Nat.zero_le _
  | some f => exact (h.ok _ (getF_mem hx)).2.2.1

/-! ### Plain -/
def allSome {α β : Type} (f : α → Option β) : List α → Option (List β)
  | [] => some []
  | x :: l => match f x, allSome f l with
    | some y, some ys => some (y :: ys)
    | _, _ => none
theorem allSome_snoc {α β : Type} (f : α → Option β) (x : α) : ∀ l : List α, allSome f (l ++ [x]) = match allSome f l, f x with | some ys, some y => some (ys ++ [y]) | _, _ => none
  | [] => by
    show (match f x, allSome f [] with | some y, some ys => some (y :: ys) | _, _ => none) = _
    simp only [allSome]
    cases f x <;> rfl
  | z :: l => by
    show (match f z, allSome f (l ++ [x]) with | some y, some ys => some (y :: ys) | _, _ => none) = _
    rw [allSome_snoc f x l]
    simp only [allSome]
    cases f z <;> cases allSome f l <;> cases f x <;> rfl
theorem allSome_none {α β : Type} {f : α → Option β} {x : α} : ∀ {l : List α}, x ∈ l → f x = none → allSome f l = none
  | [], h, _ => by simp at h
  | z :: l, h, hx => by
    simp only [allSome]
    rcases List.mem_cons.1 h with rfl | h
    · rw [hx]
    · rw [allSome_none h hx]
      cases f z <;> rfl
theorem allSome_len {α β : Type} {f : α → Option β} : ∀ {l : List α} {ys : List β}, allSome f l = some ys → ys.length = l.length
  | [], ys, h => by simp only [allSome, Option.some.injEq] at h; subst h; rfl
  | z :: l, ys, h => by
    simp only [allSome] at h
    cases hz : f z with
    | none => rw [hz] at h; cases h
    | some y =>
      cases hl : allSome f l with
      | none => rw [hz, hl] at h; cases h
      | some zs =>
        rw [hz, hl] at h
        simp only [Option.some.injEq] at h
        subst h
        simp [allSome_len hl]
theorem allSome_mem {α β : Type} {f : α → Option β} : ∀ {l : List α} {ys : List β}, allSome f l = some ys → ∀ y ∈ ys, ∃ x ∈ l, f x = some y
  | [], ys, h, y, hy => by simp only [allSome, Option.some.injEq] at h; subst h; simp at hy
  | z :: l, ys, h, y, hy => by
    simp only [allSome] at h
    cases hz : f z with
    | none => rw [hz] at h; cases h
    | some v =>
      cases hl : allSome f l with
      | none => rw [hz, hl] at h; cases h
      | some zs =>
        rw [hz, hl] at h
        simp only [Option.some.injEq] at h
        subst h
        rcases List.mem_cons.1 hy with rfl | hy
        · exact ⟨z, by simp, hz⟩
        · obtain ⟨x, hx, hf⟩ := allSome_mem hl y hy
          exact ⟨x, by simp [hx], hf⟩
def packedT : Bytes := [112, 97, 99, 107, 101, 100, 45, 114, 101, 102, 115]
noncomputable def packK (l : Files) (f : Bytes) : Option (List RefP) := parsePk (nowO l (f ++ packedT))
noncomputable def looseOne (l : Files) (f p : Bytes) : Option RefP := match fileK (nowO l p) with
  | some x => if rightN (p.drop f.length) then some ⟨p.drop f.length, x⟩ else none
  | none => none
noncomputable def looseK (S : StP) (f : Bytes) : Option (List RefP) := allSome (looseOne S.files f) (listS S (f ++ refsT))
noncomputable def allK (S : StP) (f : Bytes) : Option Refs := match packK S.files f, looseK S f with
  | some a, some b => some (putsP [] (a ++ b))
  | _, _ => none
/-- What is asked of a store in which refs are looked for. -/
structure RefsIn (Z : Nat) (S : StP) (f : Bytes) : Prop where
  ok : OkS Z S
  big : Z ≤ 1000000
  front : f.length ≤ 1000
  pack : (nowO S.files (f ++ packedT)).length ≤ 30000
  few : (listS S (f ++ refsT)).length ≤ 200
/-- A list of refs, or none. -/
def RsPost (w : World) (o : Option (List RefP)) (e : Ending) (w' : World) : Prop :=
  (∃ l, o = some l ∧ ∃ v, e = .returned (.tuple #[v, .int .i64 0]) ∧ OwnR encP 21 88 w w' v l) ∨ (o = none ∧ e = .returned (.tuple #[.slice none 0 0, .int .i64 4]) ∧ Below w.heap.size w w')
theorem placeBox {w : World} (p : Nat) (f : Bytes) : (w.alloc (.cells (placeA p f) 106)).cell? ⟨w.heap.size, 0, none⟩ = some (ptr p) ∧ (w.alloc (.cells (placeA p f) 106)).cell? ⟨w.heap.size, 1, none⟩ = some (.string (strOf f)) := by
  have h : (w.alloc (.cells (placeA p f) 106)).heap[w.heap.size]? = some (.cells (placeA p f) 106 (0, 0)) := heap_alloc_last _ _ _ rfl
  exact ⟨by rw [cell_of_row _ _ _ _ _ _ h]; rfl, by rw [cell_of_row _ _ _ _ _ _ h]; rfl⟩

set_option maxRecDepth 100000 in
set_option maxHeartbeats 2000000 in
theorem packed_any {own : Owns} {w : World} {p Z : Nat} {S : StP} {f : Bytes} (h : StoreAt own w p S) (hr : RefsIn Z S f) (hm : MaxIs w) :
    Calls Tryz.prog 63 #[.agg (placeA p f)] w (RsPost w (packK S.files f)) := by
  obtain ⟨c0, c1⟩ := placeBox (w := w) p f
  have gA : Below w.heap.size w (w.alloc (.cells (placeA p f) 106)) := (Below.refl _ _).alloc (Nat.le_refl _) _
  have A1 := fun W => str_add f packedT (by have := hr.front; omega) (by decide) W
  rw [show strOf packedT = ⟨#[112, 97, 99, 107, 101, 100, 45, 114, 101, 102, 115]⟩ from rfl] at A1
  have CR := read_at (h.below gA) hr.ok (by have := hr.big; omega) (f ++ packedT) (by have := hr.front; rw [List.length_append]; show f.length + 11 ≤ _; omega)
  obtain ⟨B, hB⟩ : ∃ B, B = nowO S.files (f ++ packedT) := ⟨_, rfl⟩
  have hBl : B.length ≤ 30000 := by rw [hB]; exact hr.pack
  have HB := Lib.hid (And.intro hB (And.intro hm hr.ok))
  obtain ⟨P1, hP1⟩ : ∃ P, P = strOf (f ++ packedT) := ⟨_, rfl⟩
  rw [← hP1] at A1 CR
  have hpk : packK S.files f = parsePk B := by rw [hB]; rfl
  obtain ⟨o, ho⟩ : ∃ o, o = packK S.files f := ⟨_, rfl⟩
  rw [← ho] at hpk ⊢
  have HO := Lib.hid hpk
  have HA := Lib.hid gA
  have HR := Lib.hid (fun (e : Ending) (w' : World) (hh : ReadIs S.files (f ++ packedT) (w.alloc (.cells (placeA p f) 106)) e w') => hh.now)
  clear hB hm hpk ho hP1 hr h gA
  generalize strOf f = F at *
  go_enter Tryz.func63, Tryz.ntmps63
  go_upto_region 1 with (fail)
  obtain ⟨X, hX⟩ : ∃ X, X = w.heap.size := ⟨_, rfl⟩
  rw [← hX] at c0 c1 ⊢
  have HX := Lib.hid hX
  clear hX
  generalize w.alloc (.cells (placeA p f) 106) = w1 at *
  go_wp2_with fail
  refine CR.mono ?_
  clear CR
  rintro e w2 hrd
  obtain ⟨a, c, x, rfl, hs, -, hb⟩ := HR.out _ _ hrd
  rw [← HB.out.1] at hs ⊢
  have hb2 := HA.out.trans (hb.mono HA.out.size)
  have CP := parsePk_any hs (by omega) (HB.out.2.1.below hb2)
  obtain ⟨n, hn⟩ : ∃ n, n = B.length := ⟨_, rfl⟩
  rw [← hn] at CP ⊢
  have H2 := Lib.hid hb2
  clear hrd hs hb hb2 hn c0 c1 A1
  go_wp2_with fail
  refine CP.mono ?_
  clear CP
  rintro e w3 hpost
  rcases hpost with ⟨l, hl, v, rfl, ho⟩ | ⟨hl, rfl, hb3⟩
  · have H3 := Lib.hid (And.intro hl (ho.rebase H2.out))
    clear ho hl
    go_wp2_with fail
    go_ret2
    exact .inl ⟨l, HO.out.trans H3.out.1, v, rfl, H3.out.2⟩
  · have H3 := Lib.hid (And.intro hl (H2.out.trans (hb3.mono H2.out.size)))
    clear hb3 hl
    go_wp2_with fail
    go_ret2
    exact .inr ⟨HO.out.trans H3.out.1, rfl, H3.out.2⟩

set_option maxRecDepth 100000 in
set_option maxHeartbeats 4000000 in
theorem loose_any {own : Owns} {w : World} {p Z : Nat} {S : StP} {f : Bytes} (h : StoreAt own w p S) (hr : RefsIn Z S f) (hm : MaxIs w) :
    Calls Tryz.prog 68 #[.agg (placeA p f)] w (RsPost w (looseK S f)) := by
  obtain ⟨c0, c1⟩ := placeBox (w := w) p f
  have gA : Below w.heap.size w (w.alloc (.cells (placeA p f) 106)) := (Below.refl _ _).alloc (Nat.le_refl _) _
  have A1 := fun W => str_add f refsT (by have := hr.front; omega) (by decide) W
  rw [show strOf refsT = ⟨#[114, 101, 102, 115, 47]⟩ from rfl] at A1
  have CL := list_at (h.below gA) hr.ok (f ++ refsT)
  obtain ⟨L, hL⟩ : ∃ L, L = listS S (f ++ refsT) := ⟨_, rfl⟩
  have hLl : L.length ≤ 200 := by rw [hL]; exact hr.few
  have hLm : ∀ x ∈ L, x.length ≤ 255 ∧ f.length ≤ x.length := fun x hx => by
    rw [hL] at hx
    unfold listS at hx
    obtain ⟨h1, h2⟩ := List.mem_filter.1 hx
    unfold keysF at h1
    obtain ⟨q, hq, rfl⟩ := List.mem_map.1 h1
    refine ⟨(hr.ok.ok q hq).2.1, ?_⟩
    have := (List.isPrefixOf_iff_prefix.1 h2).length_le
    rw [List.length_append] at this
    omega
  have hlo : looseK S f = allSome (looseOne S.files f) L := by rw [hL]; rfl
  rw [hlo]
  obtain ⟨o, ho⟩ : ∃ o, o = allSome (looseOne S.files f) L := ⟨_, rfl⟩
  rw [← ho]
  rw [← hL] at CL
  obtain ⟨n, hn⟩ : ∃ n, n = L.length := ⟨_, rfl⟩
  rw [← hn] at CL hLl
  have hfs := strOf_size f
  obtain ⟨fl, hfl⟩ : ∃ fl, fl = f.length := ⟨_, rfl⟩
  rw [← hfl] at hfs
  have HB := Lib.hid (And.intro h (And.intro hr (And.intro hm (And.intro hLm (And.intro hn (And.intro ho hfl))))))
  obtain ⟨P1, hP1⟩ : ∃ P, P = strOf (f ++ refsT) := ⟨_, rfl⟩
  rw [← hP1] at A1 CL
  obtain ⟨F, hF⟩ : ∃ F, F = strOf f := ⟨_, rfl⟩
  rw [← hF] at A1 c1 hfs
  have HA := Lib.hid gA
  obtain ⟨Z0, hZ0⟩ : ∃ Z, Z = idA id0 := ⟨_, rfl⟩
  have z : ∀ w, (zeroValue 42).run Tryz.prog w = .ok (.agg Z0) w := fun w => by rw [hZ0]; kernel_rfl
  have HZ := Lib.hid hZ0
  have hff : fl ≤ 1000 := by rw [hfl]; exact hr.front
  clear hm hn hP1 hr h gA hlo hL hLm hF hZ0 hfl
  rw [show placeA p f = placeA p f from rfl]
  go_enter Tryz.func68, Tryz.ntmps68
  go_upto_region 2 with (fail)
  obtain ⟨X, hX⟩ : ∃ X, X = w.heap.size := ⟨_, rfl⟩
  rw [← hX] at c0 c1 ⊢
  clear hX
  generalize w.alloc (.cells (placeA p f) 106) = w1 at *
  go_wp2_with fail
  refine CL.mono ?_
  clear CL
  rintro e w2 ⟨aL, cL, rfl, hrs, hb2⟩
  have HC := Lib.hid (And.intro c0 c1)
  have H2 := Lib.hid (And.intro hrs (And.intro (HA.out.trans (hb2.mono HA.out.size)) hb2))
  clear hrs hb2 c0 c1 A1
  go_wp2_with fail
  go_loopw [4, 19] (fun s4 s19 wr => ∃ (i : Nat) (acc : List RefP), s19 = .int .i64 (i : Int) ∧ i ≤ n ∧ allSome (looseOne S.files f) (L.take i) = some acc ∧ OwnR encP 21 88 w2 wr s4 acc) (fun _ s19 _ => n - (intOf s19).toNat)
  case atStart => exact ⟨0, [], rfl, Nat.zero_le _, by rw [List.take_zero]; rfl, OwnR.nil (Below.refl _ _)⟩
  case round =>
    obtain ⟨i, acc, rfl, hi, hacc, hrow⟩ := hrel
    have hal := allSome_len hacc
    rw [List.length_take] at hal
    have HACC := Lib.hid (And.intro hacc (And.intro hrow hal))
    have hal2 : acc.length ≤ 200 := by omega
    clear hacc hrow hal
    by_cases hin : i < n
    · have t1 : decide ((i : Int) < (n : Int)) = true := decide_eq_true (by omega)
      have t1' : decide (i < n) = true := decide_eq_true hin
      have hil : i < L.length := by rw [← HB.out.2.2.2.2.1]; exact hin
      have hbr := HACC.out.2.1.frame
      obtain ⟨b, q, IX, -, LD⟩ := (H2.out.1.below hbr).at1 tyS (i : Int) i rfl hil
      rw [← HB.out.2.2.2.2.1] at IX
      have L0 := LD wr (Below.refl _ _)
      have hwm : L[i]! ∈ L := by rw [getElem!_pos L i hil]; exact List.getElem_mem hil
      have hnx : L.take (i + 1) = L.take i ++ [L[i]!] := by rw [List.take_succ_eq_append_getElem hil, getElem!_pos L i hil]
      obtain ⟨x, hx⟩ : ∃ x, x = L[i]! := ⟨_, rfl⟩
      rw [← hx] at L0 hwm hnx
      have hxl := HB.out.2.2.2.1 x hwm
      have hbX : Below w.heap.size w wr := H2.out.2.1.trans (hbr.mono H2.out.2.1.size)
      have hb1r : Below w1.heap.size w1 wr := H2.out.2.2.trans (hbr.mono H2.out.2.2.size)
      have c0 := (hb1r.cell (lt_of_cell HC.out.1)).trans HC.out.1
      have c1 := (hb1r.cell (lt_of_cell HC.out.2)).trans HC.out.2
      have SL := fun W => str_from Tryz.underlying9 x (i := fl) (by rw [HB.out.2.2.2.2.2.2]; exact hxl.2) W
      have CR := read_at (HB.out.1.below hbX) HB.out.2.1.ok (by have := HB.out.2.1.big; omega) x (by omega)
      obtain ⟨nm, hnm⟩ : ∃ nm, nm = x.drop fl := ⟨_, rfl⟩
      rw [← hnm] at SL
      have hstep : looseOne S.files f x = match fileK (nowO S.files x) with | some y => if rightN nm then some ⟨nm, y⟩ else none | none => none := by
        unfold looseOne; rw [← HB.out.2.2.2.2.2.2, ← hnm]
      have hnml : nm.length ≤ 255 := by rw [hnm, List.length_drop]; omega
      have HS := Lib.hid (And.intro hstep (And.intro hnx (And.intro hwm (And.intro hbX hnml))))
      have HRR := Lib.hid (fun (e : Ending) (w' : World) (hh : ReadIs S.files x wr e w') => hh.now)
      obtain ⟨NM, hNM⟩ : ∃ N, N = strOf nm := ⟨_, rfl⟩
      have HNM := Lib.hid hNM
      rw [← hNM] at SL
      unfold strV at L0
      generalize strOf x = XS at *
      clear hstep hnx hwm hbX hnml hnm hNM hxl hx hb1r hbr LD hil
      go_wp2_with (first | (refine wpList_load_at rfl _ _ rfl _ _ rfl L0 ?_) | (refine wpList_slice_at rfl _ _ _ _ _ rfl _ _ _ _ _ rfl rfl rfl rfl (SL _) ?_))
      refine CR.mono ?_
      clear CR
      rintro e w3 hrd
      obtain ⟨a3, cc3, x3, rfl, hs3, -, hb3⟩ := HRR.out _ _ hrd
      have hB3 := HB.out.2.1.ok.now_len x
      have CF := file_any hs3 (by have := HB.out.2.1.big; omega)
      obtain ⟨b3, hb3e⟩ : ∃ b3, b3 = nowO S.files x := ⟨_, rfl⟩
      rw [← hb3e] at CF ⊢
      obtain ⟨n3, hn3⟩ : ∃ n3, n3 = b3.length := ⟨_, rfl⟩
      rw [← hn3] at CF ⊢
      obtain ⟨K, hK⟩ : ∃ K, K = fileK b3 := ⟨_, rfl⟩
      have hfe : fileE b3 = if K.isSome then 0 else 4 := by rw [hK]; rfl
      rw [← hK, hfe] at CF
      have H3 := Lib.hid (And.intro (HACC.out.2.1.later hb3) (And.intro hb3 (And.intro hK hb3e)))
      clear hrd hs3 hb3 hB3 hb3e hn3 hK hfe L0 SL IX c0 c1
      go_wp2_with fail
      refine CF.mono ?_
      clear CF
      rintro e w4 ⟨rfl, hb4⟩
      obtain ⟨y, hy⟩ : ∃ y, y = K.getD id0 := ⟨_, rfl⟩
      rw [← hy]
      have hz7 : (w4.alloc (.cells Z0 42)).heap[w4.heap.size]? = some (.cells Z0 42 (0, 0)) := heap_alloc_last _ _ _ rfl
      have hg7 : Below w4.heap.size w4 ((w4.alloc (.cells Z0 42)).setRow w4.heap.size (idA y)) := below_setRow ((Below.refl _ _).alloc (Nat.le_refl _) _) (Nat.le_refl _) _
      have hk7 : ((w4.alloc (.cells Z0 42)).setRow w4.heap.size (idA y)).heap[w4.heap.size]? = some (.cells (idA y) 42 (0, 0)) := setRow_heap _ _ _ _ _ _ hz7
      have zs : Z0.size = (idA y).size := by rw [HZ.out]; simp [idA, idc_len]
      have zi : (Tryz.prog.info? 42).map (·.size) = some (idA y).size := by rw [show (idA y).size = 20 by simp [idA, idc_len]]; kernel_rfl
      have z1 : (idA y).all (·.oneCell') = true := all_oneCell_toArray (bcells_one _)
      have HG7 := Lib.hid (And.intro hg7 hk7)
      have H4 := Lib.hid (And.intro (H3.out.1.later hb4) (And.intro (H3.out.2.1.trans (hb4.mono H3.out.2.1.size)) hy))
      clear hg7 hk7 hb4 hy
      go_upto_region 8 with (refine wpList_store_row rfl 42 _ _ rfl w4.heap.size (idA y) rfl rfl 42 Z0 hz7 zi zs z1 ?_)
      have hg7 := HG7.out.1
      have hk7 := HG7.out.2
      clear HG7 zs zi z1 hz7
      generalize (w4.alloc (.cells Z0 42)).setRow w4.heap.size (idA y) = w5 at *
      obtain ⟨X12, hX12⟩ : ∃ X, X = w4.heap.size := ⟨_, rfl⟩
      rw [← hX12] at hk7 ⊢
      have hb5 : Below wr.heap.size wr w5 := H4.out.2.1.trans (hg7.mono H4.out.2.1.size)
      have hrow5 := H4.out.1.later hg7
      have LI := load_id arrG (by kernel_rfl) y X12 0 w5 (idBox hk7)
      have hwide := HS.out.2.2.2.1.trans (hb5.mono HS.out.2.2.2.1.size)
      have CN := rightN_any nm (by have := HS.out.2.2.2.2; omega) w5 (HB.out.2.2.1.below hwide)
      rw [← HNM.out] at CN
      have H5 := Lib.hid (And.intro hrow5 hwide)
      clear hg7 hX12 hb5 hrow5 hwide
      have HNO : Hid (looseOne S.files f x = none → o = none) := Lib.hid fun hh => by rw [HB.out.2.2.2.2.2.1]; exact allSome_none HS.out.2.2.1 hh
      cases K with
      | none =>
        have HP := Lib.hid (HNO.out (by rw [HS.out.1, ← H3.out.2.2.2, ← H3.out.2.2.1]))
        clear CN LI hk7
        go_wp2_with fail
        go_ret2
        exact .inr ⟨by first | exact HP.out | (rw [← HB.out.2.2.2.2.2.1]; exact HP.out), rfl, H5.out.2⟩
      | some y' =>
        obtain rfl : y = y' := H4.out.2.2
        obtain ⟨R, hR⟩ : ∃ R, R = rightN nm := ⟨_, rfl⟩
        rw [← hR] at CN
        have hstep := HS.out.1
        rw [← H3.out.2.2.2, ← H3.out.2.2.1, ← hR] at hstep
        have HST := Lib.hid hstep
        clear hR hstep
        have LI' : ∀ y2 : Later w5, (Instr.loadAt 42 (.pointer (some ⟨X12, 0, none⟩))).run Tryz.prog y2.1 = .ok (.agg (idA y)) y2.1 := fun y2 => load_id arrG (by kernel_rfl) y X12 0 y2.1 (rangeR_below (idBox hk7) y2.2)
        clear LI hk7
        go_wp2_with fail
        refine CN.mono ?_
        clear CN
        rintro e w6 ⟨rfl, hb6⟩
        have LI : (Instr.loadAt 42 (.pointer (some ⟨X12, 0, none⟩))).run Tryz.prog w6 = .ok (.agg (idA y)) w6 := LI' ⟨w6, hb6⟩
        have H6 := Lib.hid (And.intro (H5.out.1.later hb6) (H5.out.2.trans (hb6.mono H5.out.2.size)))
        clear LI' hb6
        cases R
        case false =>
          have HP := Lib.hid (HNO.out HST.out)
          clear LI
          go_wp2_with fail
          go_ret2
          exact .inr ⟨by first | exact HP.out | (rw [← HB.out.2.2.2.2.2.1]; exact HP.out), rfl, H6.out.2⟩
        obtain ⟨r, hr⟩ : ∃ r : RefP, r = ⟨nm, y⟩ := ⟨_, rfl⟩
        have B := fun W : World => buildP nm y W
        rw [← HNM.out, ← hr] at B
        have B1 := tyP.slice1 r w6
        have hrow9 := H6.out.1.later ((Below.refl _ _).alloc (Nat.le_refl _) (.cells (recA encP r) 88))
        have hp9 := RsAt.one (enc := encP) (L := 21) w6 88 r
        have HRP := Lib.hid (And.intro hrow9 (And.intro hp9 hr))
        clear hrow9 hp9 hr
        generalize idA y = VI at *
        go_wp2_with (first | (refine wpList_load_at rfl _ _ rfl _ _ rfl LI ?_) | (refine wpList_build_at rfl _ _ rfl [(0, .string NM), (1, .agg VI)] _ rfl (B _) ?_) | (refine wpList_buildSlice_at rfl _ _ _ rfl [(0, .agg (recA encP r))] _ rfl B1 ?_) | (refine wpList_append_r tyP rfl (.tmp 47) (.tmp 51) rfl _ acc rfl HRP.out.1 (some ⟨w6.heap.size, 0, none⟩) 1 1 [r] rfl rfl HRP.out.2.1 (by have := hal2; simp; omega) ?_; intro v11 w11 hrow11 hgr11 hgn11; have H11 := Lib.hid hrow11; clear hrow11 hgr11 hgn11 B B1 LI))
        go_roundw
        case rel =>
          refine ⟨i + 1, acc ++ [r], by go_num, by omega, ?_, H11.out⟩
          rw [HS.out.2.1, allSome_snoc, HACC.out.1, HST.out, HRP.out.2.2]
          rfl
        case measure => simp [intOf]; omega
    · obtain rfl : i = n := by omega
      have t1 : decide ((i : Int) < (i : Int)) = false := decide_eq_false (by omega)
      have t1' : decide (i < i) = false := decide_eq_false (by omega)
      have e : L.take i = L := List.take_of_length_le (by rw [HB.out.2.2.2.2.1]; exact Nat.le_refl _)
      have hacc := HACC.out.1
      rw [e, ← HB.out.2.2.2.2.2.1] at hacc
      have HP := Lib.hid hacc
      clear hacc e
      go_wp2_with fail
      go_ret2
      exact .inl ⟨acc, by first | exact HP.out | (rw [← HB.out.2.2.2.2.2.1]; exact HP.out), _, rfl, HACC.out.2.1.rebase H2.out.2.1⟩
end Go.Proofs.YtponfkfeflnilaaGreatDoor
namespace Go.Proofs.YtponfkfeflnilaaGreatDoor
open Go.RowKit Go.Mix Go.WideMaps Go.Maps

theorem place_load {w : World} {X p : Nat} {f : Bytes} {t : TypeId} {fr : Nat × Nat} (h : w.heap[X]? = some (.cells (placeA p f) t fr)) : (Instr.loadAt 106 (.pointer (some ⟨X, 0, none⟩))).run Tryz.prog w = .ok (.agg (placeA p f)) w := by
  simp only [Instr.loadAt, Instr.sureAddr, Sem.run_bind, Sem.run_pure, Result.andThen_ok]
  exact run_loadVar_row _ _ t _ _ fr _ h Tryz.underlying106 rfl (by kernel_rfl)
theorem wpList_update_runB {P : Program} {w w' : World} {ops : Array Oper} {rest : List Oper} {o : Oper} {a : Act} {Q : Exit → Act → World → Prop} (hg : o.guard = none) (m x v : Operand) (t : TypeId) (hop : o.op = Op.mapUpdate t m x v)
    (vm vx vv : Value) (hm : a.eval m = vm) (hx : a.eval x = vx) (hv : a.eval v = vv) (hrun : (Instr.mapUpdate t vm vx vv).run P w = .ok () w') (h : wpList P ops Q rest (a.put o.dst undef) w') : wpList P ops Q (o :: rest) a w := by
  refine wpList_plain hg fun K' hK' => ?_
  unfold Oper.wp
  simp [execOp, hop, hm, hx, hv, hrun, Result.andThen]
  exact hK' _ _ h
theorem RsAt.grown {α : Type} [Inhabited α] {enc : α → List Value} {L : Nat} {w w' : World} {a : Option Addr} {c M : Nat} {l : List α} (h : RsAt enc L w a c l) (g : w.grownBy w' (some M)) (hne : ∀ x, a = some x → x.block ≠ M) : RsAt enc L w' a c l := by
  refine ⟨h.le, h.big, h.non, h.cells.imp id ?_⟩
  rintro ⟨b, o, e, hc⟩
  refine ⟨b, o, e, fun j hj i v hv => ?_⟩
  have h1 := hc j hj i v hv
  have hlt := lt_of_cell h1
  have hb := g.block b hlt (fun e2 => by injection e2 with e2; exact hne _ e e2)
  rw [← h1]
  simp only [World.cell?, hb]
theorem parsePk_len {b : Bytes} {l : List RefP} (h : parsePk b = some l) : 42 * l.length ≤ b.length := by
  obtain ⟨-, h2⟩ := parsePk_some h
  rw [← h2]
  clear h h2
  induction l with
  | nil => simp
  | cons r l ih => rw [textP_cons, List.length_append, lineP_len, List.length_cons]; omega
theorem loose_right {S : StP} {f : Bytes} {b : List RefP} (hb : looseK S f = some b) : ∀ r ∈ b, rightN r.name = true := fun r hm => by
  obtain ⟨x, -, hx⟩ := allSome_mem hb r hm
  unfold looseOne at hx
  split at hx
  · split at hx
    · rename_i hrr; injection hx with hx; rw [← hx]; exact hrr
    · cases hx
  · cases hx
/-- What holds of refs that a store has. -/
theorem all_short {Z : Nat} {S : StP} {f : Bytes} (hr : RefsIn Z S f) {L : Refs} (h : allK S f = some L) : SortedP L ∧ L.length ≤ 1000 ∧ ∀ r ∈ L, rightN r.name = true ∧ r.name.length ≤ 200 := by
  unfold allK at h
  cases ha : packK S.files f with
  | none => rw [ha] at h; cases h
  | some a =>
    cases hb : looseK S f with
    | none => rw [ha, hb] at h; cases h
    | some b =>
      rw [ha, hb] at h
      injection h with h
      subst h
      have h1 := parsePk_len ha
      have h2 := hr.pack
      have h3 := allSome_len hb
      have h4 := hr.few
      have h5 := length_putsP (a ++ b) (l := []) List.Pairwise.nil
      rw [List.length_append] at h5
      refine ⟨sorted_putsP _ List.Pairwise.nil, by simp only [List.length_nil] at h5; omega, fun r hm => ?_⟩
      have key : rightN r.name = true := by
        rcases mem_putsP _ hm with hm | hm
        · simp at hm
        · rcases List.mem_append.1 hm with hm | hm
          · exact (ord_line (parsePk_some ha).1 r hm).1
          · exact loose_right hb r hm
      exact ⟨key, (right_ten key).2⟩

def AllPost (w : World) (o : Option Refs) (e : Ending) (w' : World) : Prop :=
  (∃ L, o = some L ∧ ∃ M, e = .returned (.tuple #[.map (some M), .int .i64 0]) ∧ IdMap w' M L ∧ w.heap.size ≤ M ∧ Below w.heap.size w w') ∨ (o = none ∧ e = .returned (.tuple #[.map none, .int .i64 4]) ∧ Below w.heap.size w w')

set_option maxRecDepth 100000 in
set_option maxHeartbeats 8000000 in
theorem all_any {own : Owns} {w : World} {p Z : Nat} {S : StP} {f : Bytes} (h : StoreAt own w p S) (hr : RefsIn Z S f) (hm : MaxIs w) :
    Calls Tryz.prog 58 #[.agg (placeA p f)] w (AllPost w (allK S f)) := by
  obtain ⟨o, ho⟩ : ∃ o, o = allK S f := ⟨_, rfl⟩
  rw [← ho]
  obtain ⟨w1, hw1⟩ : ∃ w1, w1 = (w.alloc (.cells (placeA p f) 106)).alloc (.map #[] 0) := ⟨_, rfl⟩
  have s1 : (w.alloc (.cells (placeA p f) 106)).heap.size = w.heap.size + 1 := by simp
  have g1 : Below w.heap.size w w1 := by rw [hw1]; exact ((Below.refl _ _).alloc (Nat.le_refl _) _).alloc (by omega) _
  have b1 : w1.heap[w.heap.size]? = some (.cells (placeA p f) 106 (0, 0)) := by
    rw [hw1]
    exact ((Below.refl (w.alloc (.cells (placeA p f) 106)).heap.size _).alloc (Nat.le_refl _) (.map #[] 0)).block _ (by omega) |>.trans (heap_alloc_last _ _ _ rfl)
  have m1 : IdMap w1 (w.heap.size + 1) [] := by rw [hw1]; have := IdMap.made (w.alloc (.cells (placeA p f) 106)); rw [s1] at this; exact this
  have CP := packed_any (h.below g1) hr (hm.below g1)
  have L1 := place_load b1
  obtain ⟨Z0, hZ0⟩ : ∃ Z, Z = recA encP ref0 := ⟨_, rfl⟩
  have z : ∀ w, (zeroValue 88).run Tryz.prog w = .ok (.agg Z0) w := fun w => by rw [hZ0]; kernel_rfl
  have HZ := Lib.hid hZ0
  have HH := Lib.hid (And.intro h (And.intro hr (And.intro hm (And.intro g1 (And.intro b1 (And.intro m1 ho))))))
  have HW := Lib.hid hw1
  clear h hr hm g1 b1 m1 ho hZ0 s1
  have hmm := @run_makeMap Tryz.prog
  go_enter Tryz.func58, Tryz.ntmps58
  go_upto_region 2 with (fail)
  rw [← HW.out]
  obtain ⟨X, hX⟩ : ∃ X, X = w.heap.size := ⟨_, rfl⟩
  obtain ⟨M, hM⟩ : ∃ M, M = X + 1 := ⟨_, rfl⟩
  rw [← hX] at L1 ⊢
  rw [← hM]
  have HX := Lib.hid (And.intro hX hM)
  clear hX hM hw1 HW hmm
  go_wp2_with (first | (refine wpList_load_at rfl _ _ rfl _ _ rfl L1 ?_))
  refine CP.mono ?_
  clear CP L1
  rintro e w2 hpost
  have hok : allK S f = match packK S.files f, looseK S f with
    | some a, some b => some (putsP [] (a ++ b))
    | _, _ => none := rfl
  rcases hpost with ⟨l1, hl1, v1, rfl, ho1⟩ | ⟨hl1, rfl, hb2⟩
  case inr =>
    rw [hl1] at hok
    have HO := Lib.hid (HH.out.2.2.2.2.2.2.trans hok)
    have HB := Lib.hid (HH.out.2.2.2.1.trans (hb2.mono HH.out.2.2.2.1.size))
    clear hok hl1 hb2
    go_wp2_with fail
    go_ret2
    exact .inr ⟨HO.out, rfl, HB.out⟩
  rw [hl1] at hok
  have hlen1 := parsePk_len hl1
  have hs1 : ∀ r ∈ l1, r.name.length ≤ 200 := fun r hm => (ord_line (parsePk_some hl1).1 r hm).2.2
  have hp1 := HH.out.2.1.pack
  obtain ⟨a1, c1, rfl, hr1, hpl1⟩ := ho1.rs tyP
  have hb2 := HH.out.2.2.2.1.trans (ho1.frame.mono HH.out.2.2.2.1.size)
  have b2 : w2.heap[X]? = some (.cells (placeA p f) 106 (0, 0)) := by rw [HX.out.1]; exact blockR_below HH.out.2.2.2.2.1 ho1.frame
  have m2 : IdMap w2 M [] := by rw [HX.out.2, HX.out.1]; exact HH.out.2.2.2.2.2.1.below ho1.frame
  have CL := loose_any (HH.out.1.below hb2) HH.out.2.1 (HH.out.2.2.1.below hb2)
  have L2 := place_load b2
  have hblk1 : ∀ x, a1 = some x → w1.heap.size ≤ x.block := fun x hx => (ho1.block x.block (by rw [hx]; rfl)).1
  obtain ⟨n1, hn1⟩ : ∃ n, n = l1.length := ⟨_, rfl⟩
  rw [← hn1]
  have hn1b : n1 ≤ 1000 := by omega
  have HS1 := Lib.hid hs1
  have H2 := Lib.hid (And.intro hok (And.intro hr1 (And.intro hb2 (And.intro m2 hn1))))
  clear hs1 hok hl1 ho1 hr1 hb2 b2 m2 hn1 hpl1 hlen1 hp1 hblk1
  go_wp2_with (first | (refine wpList_load_at rfl _ _ rfl _ _ rfl L2 ?_))
  refine CL.mono ?_
  clear CL L2
  rintro e w3 hpost
  have hok := H2.out.1
  rcases hpost with ⟨l2, hl2, v2, rfl, ho2⟩ | ⟨hl2, rfl, hb3⟩
  case inr =>
    rw [hl2] at hok
    have HO := Lib.hid (HH.out.2.2.2.2.2.2.trans hok)
    have HB := Lib.hid (H2.out.2.2.1.trans (hb3.mono H2.out.2.2.1.size))
    clear hok hl2 hb3
    go_wp2_with fail
    go_ret2
    exact .inr ⟨HO.out, rfl, HB.out⟩
  rw [hl2] at hok
  change allK S f = some (putsP [] (l1 ++ l2)) at hok
  have hlen2 := allSome_len hl2
  have hs2 : ∀ r ∈ l1 ++ l2, r.name.length ≤ 200 := fun r hm => by
    rcases List.mem_append.1 hm with hm | hm
    · exact HS1.out r hm
    · exact (right_ten (loose_right hl2 r hm)).2
  have hp2 := HH.out.2.1.few
  obtain ⟨a2, c2, rfl, hr2, hpl2⟩ := ho2.rs tyP
  obtain ⟨n2, hn2⟩ : ∃ n, n = l2.length := ⟨_, rfl⟩
  rw [← hn2]
  have hn2b : n2 ≤ 1000 := by omega
  obtain ⟨w4, hw4⟩ : ∃ w4, w4 = w3.alloc (.cells #[.slice a1 n1 c1, .slice a2 n2 c2] 26) := ⟨_, rfl⟩
  have g4 : Below w3.heap.size w3 w4 := by rw [hw4]; exact (Below.refl _ _).alloc (Nat.le_refl _) _
  have b4 : w4.heap[w3.heap.size]? = some (.cells #[.slice a1 n1 c1, .slice a2 n2 c2] 26 (0, 0)) := by rw [hw4]; exact heap_alloc_last _ _ _ rfl
  have g34 := ho2.frame.trans (g4.mono ho2.frame.size)
  have CC := concatP_any b4 (H2.out.2.1.below g34) (hr2.below g4) H2.out.2.2.2.2 hn2 hn1b hn2b
  have hb4 := H2.out.2.2.1.trans (g34.mono H2.out.2.2.1.size)
  have m4 := H2.out.2.2.2.1.below g34
  have H4 := Lib.hid (And.intro (HH.out.2.2.2.2.2.2.trans hok) (And.intro hb4 (And.intro m4 (And.intro hn2 hs2))))
  have HW := Lib.hid hw4
  clear hok hl2 ho2 hr2 hpl2 hlen2 hp2 g4 b4 g34 hb4 m4 hn2 hs2 hw4
  go_wp2_with fail
  rw [← HW.out]
  refine CC.mono ?_
  clear CC HW
  rintro e w5 ⟨v, rfl, ho⟩
  obtain ⟨a, c, rfl, hrs, -⟩ := ho.rs tyP
  have hMlt := H4.out.2.2.1.lt
  have hne : ∀ x, a = some x → x.block ≠ M := fun x hx e => by have := (ho.block x.block (by rw [hx]; rfl)).1; omega
  have m5 := H4.out.2.2.1.below ho.frame
  have hb5 := H4.out.2.1.trans (ho.frame.mono H4.out.2.1.size)
  obtain ⟨C, hC⟩ : ∃ C, C = l1 ++ l2 := ⟨_, rfl⟩
  have hs2 := H4.out.2.2.2.2
  have hok := H4.out.1
  have hn : n1 + n2 = C.length := by rw [hC, List.length_append, ← H4.out.2.2.2.1, ← H2.out.2.2.2.2]
  rw [← hC] at hrs hs2 hok ⊢
  obtain ⟨n, hnn⟩ : ∃ n, n = C.length := ⟨_, rfl⟩
  have hn2k : n ≤ 2000 := by omega
  rw [← hnn]
  have H5 := Lib.hid (And.intro hrs (And.intro m5 (And.intro hb5 (And.intro hne (And.intro hs2 (And.intro hok hnn))))))
  clear ho hrs m5 hb5 hne hs2 hok hn hnn hC hMlt
  go_wp2_with fail
  go_loopw [32] (fun s32 wr => ∃ i : Nat, s32 = .int .i64 (i : Int) ∧ i ≤ n ∧ IdMap wr M (putsP [] (C.take i)) ∧ RsAt encP 21 wr a c C ∧ Below w.heap.size w wr) (fun s32 _ => n - (intOf s32).toNat)
  case atStart => exact ⟨0, rfl, Nat.zero_le _, by rw [List.take_zero]; exact H5.out.2.1, H5.out.1, H5.out.2.2.1⟩
  case round =>
    obtain ⟨i, rfl, hi, hmap, hrs, hbr⟩ := hrel
    have HR := Lib.hid (And.intro hmap (And.intro hrs hbr))
    clear hmap hrs hbr
    by_cases hin : i < n
    · have t1 : decide ((i : Int) < (n : Int)) = true := decide_eq_true (by omega)
      have t1' : decide (i < n) = true := decide_eq_true hin
      have hil : i < C.length := by rw [← H5.out.2.2.2.2.2.2]; exact hin
      obtain ⟨b, q, IX, -, LD⟩ := HR.out.2.1.at tyP (i : Int) i rfl hil
      rw [← H5.out.2.2.2.2.2.2] at IX
      have L0 := LD wr (Below.refl _ _)
      have hsn := take_succP hil
      have hrm : C[i]!.name.length ≤ 200 := H5.out.2.2.2.2.1 _ (by rw [getElem!_pos C i hil]; exact List.getElem_mem hil)
      obtain ⟨r, hr⟩ : ∃ r, r = C[i]! := ⟨_, rfl⟩
      rw [← hr] at L0 hsn hrm
      have hzb : (wr.alloc (.cells Z0 88)).heap[wr.heap.size]? = some (.cells Z0 88 (0, 0)) := heap_alloc_last _ _ _ rfl
      have zs : Z0.size = (recA encP r).size := by rw [HZ.out]; simp [recA, encP_len]
      have zi : (Tryz.prog.info? 88).map (·.size) = some (recA encP r).size := by rw [show (recA encP r).size = 21 by simp [recA, encP_len]]; exact tyP.ie
      have z1 : (recA encP r).all (·.oneCell') = true := all_oneCell_toArray (encP_one _)
      have gA : Below wr.heap.size wr ((wr.alloc (.cells Z0 88)).setRow wr.heap.size (recA encP r)) := below_setRow ((Below.refl _ _).alloc (Nat.le_refl _) _) (Nat.le_refl _) _
      have hbox : ((wr.alloc (.cells Z0 88)).setRow wr.heap.size (recA encP r)).heap[wr.heap.size]? = some (.cells (recA encP r) 88 (0, 0)) := setRow_heap _ _ _ _ _ _ hzb
      have HA := Lib.hid (And.intro gA (And.intro hbox (And.intro hsn hrm)))
      clear LD hr hil gA hbox hsn hrm
      go_upto_region 11 with (first | (refine wpList_load_at rfl _ _ rfl _ _ rfl L0 ?_) | (refine wpList_store_row rfl 88 _ _ rfl wr.heap.size (recA encP r) rfl rfl 88 Z0 hzb zi zs z1 ?_))
      have hbox := HA.out.2.1
      have gA := HA.out.1
      clear L0 IX zs zi z1 hzb
      obtain ⟨X9, hX9⟩ : ∃ X, X = wr.heap.size := ⟨_, rfl⟩
      generalize (wr.alloc (.cells Z0 88)).setRow wr.heap.size (recA encP r) = w6 at *
      rw [← hX9] at hbox ⊢
      have LN := load_name (recBoxP hbox) ⟨w6, Below.refl _ _⟩
      have LI := load_idP (recBoxP hbox) ⟨w6, Below.refl _ _⟩
      simp only [Nat.zero_add] at LI
      have hpl : (putsP [] (C.take i)).length ≤ 2000 := by
        have := length_putsP (C.take i) (l := []) List.Pairwise.nil
        rw [List.length_take] at this
        simp only [List.length_nil] at this
        omega
      obtain ⟨w7, hrun, m7, hg7, hsz7⟩ := (HR.out.1.below gA).put (sorted_putsP _ List.Pairwise.nil) (by omega) r.name (by have := HA.out.2.2.2; omega) r.id
      rw [← putsP_snoc, ← HA.out.2.2.1] at m7
      have hrs7 := (HR.out.2.1.below gA).grown hg7 H5.out.2.2.2.1
      have hb6 := HR.out.2.2.trans (gA.mono HR.out.2.2.size)
      have hb7 := hb6.grown hg7 hb6.size (fun k hk => by injection hk with hk; rw [← hk, HX.out.2, HX.out.1]; exact Nat.le_succ _)
      have H7 := Lib.hid (And.intro m7 (And.intro hrs7 hb7))
      change (Instr.loadAt 9 (.pointer (some ⟨X9, 0, none⟩))).run Tryz.prog w6 = .ok (.string (strOf r.name)) w6 at LN
      change (Instr.loadAt 42 (.pointer (some ⟨X9, 1, none⟩))).run Tryz.prog w6 = .ok (.agg (idA r.id)) w6 at LI
      generalize strOf r.name = NM at *
      generalize idA r.id = VI at *
      clear hX9 hbox gA hpl m7 hg7 hsz7 hrs7 hb6 hb7 HA
      go_wp2_with (first | (refine wpList_load_at rfl _ _ rfl _ _ rfl LN ?_) | (refine wpList_load_at rfl _ _ rfl _ _ rfl LI ?_) | (refine wpList_update_runB rfl _ _ _ _ rfl _ _ _ rfl rfl rfl hrun ?_))
      go_roundw
      case rel => exact ⟨i + 1, by go_num, by omega, H7.out.1, H7.out.2.1, H7.out.2.2⟩
      case measure => simp [intOf]; omega
    · obtain rfl : i = n := by omega
      have t1 : decide ((i : Int) < (i : Int)) = false := decide_eq_false (by omega)
      have t1' : decide (i < i) = false := decide_eq_false (by omega)
      have e : C.take i = C := List.take_of_length_le (by rw [H5.out.2.2.2.2.2.2]; exact Nat.le_refl _)
      have hm := HR.out.1
      rw [e] at hm
      have HM := Lib.hid hm
      clear hm e
      go_wp2_with fail
      go_ret2
      exact .inl ⟨_, H5.out.2.2.2.2.2.1, M, rfl, HM.out, by rw [HX.out.2, HX.out.1]; exact Nat.le_succ _, HR.out.2.2⟩
end Go.Proofs.YtponfkfeflnilaaGreatDoor
