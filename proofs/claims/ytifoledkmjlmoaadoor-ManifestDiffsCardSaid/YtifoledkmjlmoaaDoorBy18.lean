/-
  manifest.by: a map from paths to the files of that path.
  manifest.by: the walk.
  slices.Equal of files: the walk.
  slices.Grow, slices.Concat of two, of files: the walks.
  A set of texts (map[string]bool) whose keys are told; the texts at which two lists of files differ, in order.
  manifest.Diff: the walk.
  Plain: what differs does not know sides.
-/
import Derived.Test.YtifoledkmjlmoaaDoorCmp18
import Derived.Test.YtifoledkmjlmoaaDoorBuild
import Derived.Test.YtifoledkmjlmoaaDoorBox
import Derived.Maps.OwnSet
import Derived.Maps.RangeWalk
import Derived.Sort.KeysCollected
import Derived.Test.YtifoledkmjlmoaaDoorMixT
import Derived.Test.YtifoledkmjlmoaaDoorOnes
import Derived.Lib.AppendZeros
import Derived.Lib.LazyBuf
import Derived.Test.YtifoledkmjlmoaaDoorTexts
import Derived.Test.YtifoledkmjlmoaaDoorIter
import Derived.Sort.OwnSorted
namespace Go.Proofs.YtifoledkmjlmoaaDoor
open Go.RowKit Go.Mix Go.WideMaps Go.Maps

/-- How a slice reads in the map. -/
def sliR : Value → Option (DataW Unit × List MemPlace)
  | .slice none 0 0 => some (.nil, [])
  | .slice (some ⟨b, 0, none⟩) n c => some (.agg [.lit (.int .i64 (b : Int)), .lit (.int .i64 (n : Int)), .lit (.int .i64 (c : Int))], [])
  | _ => none
abbrev Tri := Nat × Nat × Nat
def triD (t : Tri) : DataW Unit := .agg [.lit (.int .i64 (t.1 : Int)), .lit (.int .i64 (t.2.1 : Int)), .lit (.int .i64 (t.2.2 : Int))]
def triV : Option Tri → Value
  | none => .slice none 0 0
  | some t => .slice (some ⟨t.1, 0, none⟩) t.2.1 t.2.2
theorem sliR_some (t : Tri) : sliR (triV (some t)) = some (triD t, []) := rfl
theorem sliR_inv {v : Value} {t : Tri} {ps : List MemPlace} (h : sliR v = some (triD t, ps)) : v = triV (some t) := by
  unfold sliR at h
  split at h
  · simp [triD] at h
  · simp [triD] at h
    obtain ⟨⟨h1, h2, h3⟩, -⟩ := h
    obtain rfl := Int.ofNat.inj h1
    obtain rfl := Int.ofNat.inj h2
    obtain rfl := Int.ofNat.inj h3
    rfl
  · cases h
theorem sliR_nil {v : Value} {ps : List MemPlace} (h : sliR v = some (.nil, ps)) : v = triV none := by
  unfold sliR at h
  split at h
  · rfl
  · simp at h
  · cases h
theorem keyedB : Keyed Tryd.prog 9 := string_keyed Tryd.underlying9
theorem key_ofB (x : List UInt8) (h : x.length ≤ 1000000) : keyOf Tryd.prog 9 (.string (strOf x)) = some (.string x) := keyOf_string_mk Tryd.underlying9 (by rw [strOf_size]; unfold maxLen; omega)
theorem zeroSl (w : World) : (zeroValue 23).run Tryd.prog w = .ok (.slice none 0 0) w := by kernel_rfl

structure ByAt (w : World) (M : Nat) (V : List UInt8 → Option Tri) (n : Nat) : Prop where
  ex : ∃ D : DataW Unit, w.ownsMap Tryd.prog 9 sliR M n D ∧ IsMap D ∧ ∀ x z, D.atKey (.string x) z = match V x with | some t => triD t | none => z
def updT (V : List UInt8 → Option Tri) (x : List UInt8) (t : Tri) : List UInt8 → Option Tri := fun y => if y = x then some t else V y
section
variable {w w' : World} {M n : Nat} {V : List UInt8 → Option Tri}
theorem ByAt.lt (h : ByAt w M V n) : M < w.heap.size := by obtain ⟨D, h, _⟩ := h.ex; exact h.lt
theorem ByAt.same (h : ByAt w M V n) (hb : w'.heap[M]? = w.heap[M]?) : ByAt w' M V n := by
  obtain ⟨D, ⟨es, clock, h1, r⟩, h2⟩ := h.ex
  exact ⟨D, ⟨es, clock, hb.trans h1, r⟩, h2⟩
theorem ByAt.look (h : ByAt w M V n) (x : List UInt8) (hx : x.length ≤ 1000000) :
    (Instr.lookup 74 (.map (some M)) (.string (strOf x)) false).run Tryd.prog w = .ok (triV (V x)) w := by
  obtain ⟨D, ho, _, hat⟩ := h.ex
  obtain ⟨v, ps, hrun, hv⟩ := ho.lookup keyedB Tryd.underlying74 (zeroSl w) (zd := .nil) (zp := []) rfl (key_ofB x hx)
  rw [hrun]
  rw [hat x] at hv
  cases hx : V x with
  | none => rw [hx] at hv; rw [sliR_nil hv]
  | some f => rw [hx] at hv; rw [sliR_inv hv]
theorem turned_grownB {b : Nat} (h : w.mapTurned w' b) : w.grownBy w' (some b) := by
  obtain ⟨es, clock, es', clock', hb, rfl⟩ := h
  exact ⟨rfl, rfl, rfl, by simp [ChangeMaps.setBlock], fun i _ hi => ChangeMaps.heap_setBlock_other hb _ (fun e => hi (by rw [e]))⟩
theorem ByAt.put (h : ByAt w M V n) (hn : n ≤ 1000000) (x : List UInt8) (hx : x.length ≤ 1000000) (t : Tri) :
    ∃ w', (Instr.mapUpdate 74 (.map (some M)) (.string (strOf x)) (triV (some t))).run Tryd.prog w = .ok () w' ∧ ByAt w' M (updT V x t) (n + 1) ∧ w.grownBy w' (some M) ∧ w'.heap.size = w.heap.size := by
  obtain ⟨D, ho, hm, hat⟩ := h.ex
  obtain ⟨w', hrun, h1, h2⟩ := ho.store keyedB Tryd.underlying74 (by unfold maxLen; omega) (key_ofB x hx) (sliR_some t)
  have hsz : w'.heap.size = w.heap.size := by
    obtain ⟨es, clock, es', clock', hb, rfl⟩ := h2
    simp [ChangeMaps.setBlock]
  refine ⟨w', hrun, ⟨_, h1, hm.put _ _, fun y z => ?_⟩, turned_grownB h2, hsz⟩
  unfold updT
  by_cases hy : y = x
  · subst hy
    rw [atKey_put_same hm (show WideAt.IsKeyLit (.string y) from trivial), if_pos rfl]
  · rw [atKey_put_other (fun e => hy (by injection e)), hat, if_neg hy]
theorem ByAt.made (w : World) : ByAt (w.alloc (.map #[] 0)) w.heap.size (fun _ => none) 0 :=
  ⟨.map [], World.ownsMap_made _ _ _ _, isMap_empty, fun _ _ => rfl⟩
end
theorem rows_rsB {w : World} {α : Type} [Inhabited α] {enc : α → List Value} {L : Nat} {t e : TypeId} (T : RecTy α enc L t e) {v : Value} {l : List α} (h : w.ownsRow 0 e L v l.length (flatR enc l)) : ∃ a c, v = .slice a l.length c ∧ RsAt enc L w a c l := by
  rcases h.2 with ⟨rfl, h0⟩ | ⟨g, cap, cur, rfl, _, hh, hn, hm, _, ht⟩
  · have e0 := List.eq_nil_of_length_eq_zero h0
    subst e0
    exact ⟨none, 0, rfl, RsAt.nil w⟩
  · unfold maxLen at hm
    refine ⟨some ⟨g, 0, none⟩, cap, rfl, ⟨hn, by omega, (fun h => nomatch h), .inr ⟨g, 0, rfl, (T.range_flat l 0).1 fun j u hj => ?_⟩⟩⟩
    have hjl : j < (flatR enc l).length := (List.getElem?_eq_some_iff.1 hj).1
    have hfl := T.flat_len l
    have h2 : (cur.toList.take (l.length * L))[j]? = (flatR enc l)[j]? := by rw [ht]
    rw [List.getElem?_take, if_pos (by omega), hj] at h2
    simp only [World.cell?, hh, Nat.zero_add]
    simpa using h2
/-- 'append' of one value onto a row. -/
theorem wpList_append_rowB {α : Type} [Inhabited α] {enc : α → List Value} {L : Nat} {t e : TypeId} (T : RecTy α enc L t e) {w : World} {ops : Array Oper} {rest : List Oper} {o : Oper} {a : Act} {Q : Exit → Act → World → Prop} (hgd : o.guard = none) (s x : Operand)
    (ho : o.op = .call { callee := .builtin .append, args := #[s, x], argTypes := #[t, t] })
    (v : Value) (xs : List α) (hs : a.eval s = v) (hR : w.ownsRow 0 e L v xs.length (flatR enc xs)) (ad : Addr) (c : Nat) (y : α) (hx : a.eval x = .slice (some ad) 1 c) (hy : RsAt enc L w (some ad) c [y])
    (hlen : xs.length ≤ 100000000)
    (h : ∀ v' w', w'.ownsRow 0 e L v' (xs ++ [y]).length (flatR enc (xs ++ [y])) → w.grownBy w' v.ownBlock → (v'.ownBlock = v.ownBlock ∨ v'.ownBlock = some w.heap.size) → wpList Tryd.prog ops Q rest (a.put o.dst v') w') : wpList Tryd.prog ops Q (o :: rest) a w := by
  obtain ⟨z, by_, hi0, hzs, hby⟩ := T.hi
  obtain ⟨i, hi, hz0, hz1, hz2⟩ := info_parts hi0
  have hbound : (xs.length + 1) * by_ ≤ 140737488355328 := Nat.le_trans (Nat.mul_le_mul (Nat.succ_le_succ hlen) hby) (by decide)
  rcases hy.cells with h0 | ⟨b, off, hbe, hc⟩
  · cases h0
  injection hbe with hbe
  subst hbe
  refine wpList_append_own_at w hgd s x t ho 0 e i _ L by_ T.ht hi hz0 hz1 hz2 (by simpa [Value.cells] using hzs) T.pos v xs.length (flatR enc xs) hs hR _ 1 c (flatR enc [y]) hx (by rw [T.flat_len]; rfl) (fun j u hj => ?_) (T.flat_oneCell [y]) (by unfold maxLen; omega) hbound (Nat.zero_le _) ?_
  · rw [Addr.add_mid]; exact (T.range_flat [y] off).2 hc j u hj
  · intro v' w' h1 h2 _ h4
    exact h v' w' (by rw [List.length_append, flatR_append]; exact h1) h2 h4

/-- The files of a path. -/
def ofL (l : List MFile) (x : List UInt8) : List MFile := l.filter fun p => decide (p.path = x)
/-- The map with its rows. -/
structure Grp (w0 w : World) (M : Nat) (V : List UInt8 → Option Tri) (l : List MFile) : Prop where
  map : ByAt w M V l.length
  frame : Below w0.heap.size w0 w
  far : w0.heap.size ≤ M
  none_ : ∀ x, V x = none → ofL l x = []
  row : ∀ x t, V x = some t → w0.heap.size ≤ t.1 ∧ t.1 ≠ M ∧ w.ownsRow 0 46 22 (triV (some t)) (ofL l x).length (flatR encM (ofL l x))
  inj : ∀ x y t u, V x = some t → V y = some u → t.1 = u.1 → x = y
section
variable {w0 w w' : World} {M : Nat} {V : List UInt8 → Option Tri} {l : List MFile}
theorem Grp.below (h : Grp w0 w M V l) (g : Below w.heap.size w w') : Grp w0 w' M V l :=
  { h with
    map := h.map.same (g.block M h.map.lt)
    frame := h.frame.trans (g.mono h.frame.size)
    row := fun x t hx => by
      obtain ⟨h1, h2, h3⟩ := h.row x t hx
      refine ⟨h1, h2, h3.1, h3.2.imp id ?_⟩
      rintro ⟨b, cap, cur, e, h0, hh, r⟩
      exact ⟨b, cap, cur, e, h0, (g.block b (lt_of_block hh)).trans hh, r⟩ }
theorem Grp.rs (h : Grp w0 w M V l) (x : List UInt8) : ∃ a c, triV (V x) = .slice a (ofL l x).length c ∧ RsAt encM 22 w a c (ofL l x) := by
  cases hx : V x with
  | none => rw [h.none_ x hx]; exact ⟨none, 0, rfl, RsAt.nil w⟩
  | some t =>
    obtain ⟨-, -, h3⟩ := h.row x t hx
    exact rows_rsB tyM h3
theorem Grp.made (w : World) : Grp w (w.alloc (.map #[] 0)) w.heap.size (fun _ => none) [] :=
  ⟨ByAt.made w, (Below.refl _ _).alloc (Nat.le_refl _) _, Nat.le_refl _, fun _ _ => rfl, (fun _ _ h => nomatch h), (fun _ _ _ _ h => nomatch h)⟩
theorem ofL_add (l : List MFile) (p : MFile) (x : List UInt8) : ofL (l ++ [p]) x = if p.path = x then ofL l x ++ [p] else ofL l x := by
  unfold ofL
  rw [List.filter_append]
  by_cases h : p.path = x
  · rw [if_pos h, List.filter_cons_of_pos (by simpa using h), List.filter_nil]
  · rw [if_neg h, List.filter_cons_of_neg (by simpa using h), List.filter_nil, List.append_nil]
theorem row_lt {v : Value} {k : Nat} {xs : List Value} (h : w.ownsRow 0 46 22 v k xs) {g : Nat} (hg : v.ownBlock = some g) : g < w.heap.size := (World.ownsRow.lt h g hg).2
theorem row_same {v : Value} {k : Nat} {xs : List Value} (h : w.ownsRow 0 46 22 v k xs) (hb : ∀ g, v.ownBlock = some g → w'.heap[g]? = w.heap[g]?) : w'.ownsRow 0 46 22 v k xs := by
  refine ⟨h.1, h.2.imp id ?_⟩
  rintro ⟨g, cap, cur, rfl, h0, hh, r⟩
  exact ⟨g, cap, cur, rfl, h0, (hb g rfl).trans hh, r⟩
/-- One file more. -/
theorem Grp.add (h : Grp w0 w M V l) (p : MFile) {v : Value} {w1 : World} (hR : w1.ownsRow 0 46 22 v (ofL l p.path ++ [p]).length (flatR encM (ofL l p.path ++ [p]))) (hg : w.grownBy w1 (triV (V p.path)).ownBlock)
    (hat : v.ownBlock = (triV (V p.path)).ownBlock ∨ v.ownBlock = some w.heap.size) (hn : l.length ≤ 1000) (hx : p.path.length ≤ 1000000) :
    ∃ w2 t, (Instr.mapUpdate 74 (.map (some M)) (.string (strOf p.path)) v).run Tryd.prog w1 = .ok () w2 ∧ Grp w0 w2 M (updT V p.path t) (l ++ [p]) := by
  have hMl := h.map.lt
  have hrow0 : ∀ k, (triV (V p.path)).ownBlock = some k → ∃ t0, V p.path = some t0 ∧ t0.1 = k := fun k hk => by
    cases hv : V p.path with
    | none => rw [hv] at hk; simp [triV, Value.ownBlock] at hk
    | some t0 => rw [hv] at hk; exact ⟨t0, rfl, by simpa [triV, Value.ownBlock] using hk⟩
  have hM1 : w1.heap[M]? = w.heap[M]? := hg.block M hMl fun e => by
    obtain ⟨t0, h1, h2⟩ := hrow0 M e.symm
    exact (h.row _ _ h1).2.1 h2
  obtain ⟨t, rfl⟩ : ∃ t, v = triV (some t) := by
    rcases hR.2 with ⟨_, h0⟩ | ⟨g, cap, cur, e, _⟩
    · rw [List.length_append, List.length_singleton] at h0; omega
    · exact ⟨(g, _, cap), e⟩
  have htb : (triV (some t)).ownBlock = some t.1 := rfl
  rw [htb] at hat
  obtain ⟨w2, hrun, hm2, hg2, hsz⟩ := (h.map.same hM1).put (by omega) p.path hx t
  have ht1 : w0.heap.size ≤ t.1 ∧ t.1 ≠ M := by
    rcases hat with e | e
    · obtain ⟨t0, h1, h2⟩ := hrow0 t.1 e.symm
      have := h.row _ _ h1
      exact ⟨by rw [← h2]; exact this.1, by rw [← h2]; exact this.2.1⟩
    · injection e with e
      exact ⟨by rw [e]; exact h.frame.size, by rw [e]; omega⟩
  have hkeep : ∀ k, k < w.heap.size → k ≠ M → (∀ t0, V p.path = some t0 → t0.1 ≠ k) → w2.heap[k]? = w.heap[k]? := fun k hk hkM hk0 => by
    rw [hg2.block k (Nat.lt_of_lt_of_le hk hg.size) (fun e => hkM (by injection e))]
    exact hg.block k hk fun e => by
      obtain ⟨t0, h1, h2⟩ := hrow0 k e.symm
      exact hk0 t0 h1 h2
  have hlt : ∀ y u, V y = some u → u.1 < w.heap.size := fun y u hy => row_lt (h.row y u hy).2.2 rfl
  refine ⟨w2, t, hrun, ⟨by rw [List.length_append]; exact hm2, ?_, h.far, ?_, ?_, ?_⟩⟩
  · refine ⟨hg2.os.trans (hg.os.trans h.frame.os), hg2.tape.trans (hg.tape.trans h.frame.tape), hg2.output.trans (hg.output.trans h.frame.output), Nat.le_trans h.frame.size (Nat.le_trans hg.size hg2.size), fun k hk => ?_⟩
    have h1 := h.far
    have h2 := h.frame.size
    rw [hkeep k (by omega) (by omega) (fun t0 ht0 e => by have := (h.row _ _ ht0).1; omega)]
    exact h.frame.block k hk
  · intro y hy
    unfold updT at hy
    by_cases he : y = p.path
    · rw [if_pos he] at hy; cases hy
    · rw [if_neg he] at hy
      rw [ofL_add, if_neg (fun e => he e.symm)]
      exact h.none_ y hy
  · intro y u hy
    unfold updT at hy
    by_cases he : y = p.path
    · rw [if_pos he] at hy
      have hy' := Option.some.inj hy
      subst hy' he
      rw [ofL_add, if_pos rfl]
      refine ⟨ht1.1, ht1.2, row_same hR fun g hgb => ?_⟩
      have hgb' := Option.some.inj hgb
      subst hgb'
      exact hg2.block t.1 (row_lt hR rfl) (fun e => ht1.2 (by injection e))
    · rw [if_neg he] at hy
      rw [ofL_add, if_neg (fun e => he e.symm)]
      obtain ⟨h1, h2, h3⟩ := h.row y u hy
      refine ⟨h1, h2, row_same h3 fun g hgb => ?_⟩
      have hgb' := Option.some.inj hgb
      subst hgb'
      exact hkeep u.1 (hlt y u hy) h2 (fun t0 ht0 e => he (h.inj _ _ _ _ hy ht0 e.symm))
  · intro y z u u' hy hz e
    unfold updT at hy hz
    have key : ∀ a c, V a = some c → a ≠ p.path → c.1 ≠ t.1 := fun a c ha hne e => by
      rcases hat with e1 | e1
      · obtain ⟨t0, h1, h2⟩ := hrow0 t.1 e1.symm
        exact hne (h.inj _ _ _ _ ha h1 (by rw [e, h2]))
      · injection e1 with e1
        have := hlt a c ha
        omega
    by_cases h1 : y = p.path
    · by_cases h2 : z = p.path
      · rw [h1, h2]
      · rw [if_pos h1] at hy; rw [if_neg h2] at hz
        have hy' := Option.some.inj hy
        subst hy'
        exact absurd e.symm (key z u' hz h2)
    · by_cases h2 : z = p.path
      · rw [if_neg h1] at hy; rw [if_pos h2] at hz
        have hz' := Option.some.inj hz
        subst hz'
        exact absurd e (key y u hy h1)
      · rw [if_neg h1] at hy; rw [if_neg h2] at hz
        exact h.inj _ _ _ _ hy hz e
end
end Go.Proofs.YtifoledkmjlmoaaDoor
namespace Go.Proofs.YtifoledkmjlmoaaDoor
open Go.RowKit Go.Mix Go.WideMaps Go.Maps

theorem mt_load {D : List Deferred} {E : List PanicEntry → World → Prop} {N : Nat → Prop} {P : Program} {ops : Array Oper} {Q : Act → World → Prop} {i : Nat} {r : List (Nat × Nat)} {o : Oper} {a : Act} {w : World} (ho : ops[i]? = some o) (hw : Region.wanted o (yielded ops a.tmps) = true)
    (ty : TypeId) (x : Operand) (hop : o.op = .load ty x) (V v : Value) (hx : a.eval x = V) (hl : ∀ y : MixT.Later N w, (Instr.loadAt ty V).run P y.1 = .ok v y.1)
    (h : MixT.wpMix D E N P ops Q r (a.put o.dst v) w) : MixT.wpMix D E N P ops Q ((i, 0) :: r) a w := by
  refine MixT.mix_calm ho (fun K hK => ?_)
  unfold MixT.calmStep
  rw [if_pos hw]
  refine ⟨v, fun y => ?_, hK _ h⟩
  unfold MixT.calmAt execOp
  simp only [hop, hx, Sem.run_bind, Sem.run_pure, Result.andThen_ok, hl y]
  exact ⟨rfl, rfl⟩

theorem mt_look {D : List Deferred} {E : List PanicEntry → World → Prop} {N : Nat → Prop} {P : Program} {ops : Array Oper} {Q : Act → World → Prop} {i : Nat} {r : List (Nat × Nat)} {o : Oper} {a : Act} {w : World} (ho : ops[i]? = some o) (hw : Region.wanted o (yielded ops a.tmps) = true)
    (ty : TypeId) (x k : Operand) (hop : o.op = .lookup ty x k false) (V K v : Value) (hx : a.eval x = V) (hk : a.eval k = K) (hl : ∀ y : MixT.Later N w, (Instr.lookup ty V K false).run P y.1 = .ok v y.1)
    (h : MixT.wpMix D E N P ops Q r (a.put o.dst v) w) : MixT.wpMix D E N P ops Q ((i, 0) :: r) a w := by
  refine MixT.mix_calm ho (fun K' hK => ?_)
  unfold MixT.calmStep
  rw [if_pos hw]
  refine ⟨v, fun y => ?_, hK _ h⟩
  unfold MixT.calmAt execOp
  simp only [hop, hx, hk, Sem.run_bind, Sem.run_pure, Result.andThen_ok, hl y]
  exact ⟨rfl, rfl⟩
theorem wpList_update_runB {P : Program} {w w' : World} {ops : Array Oper} {rest : List Oper} {o : Oper} {a : Act} {Q : Exit → Act → World → Prop} (hg : o.guard = none) (m x v : Operand) (t : TypeId) (hop : o.op = Op.mapUpdate t m x v)
    (vm vx vv : Value) (hm : a.eval m = vm) (hx : a.eval x = vx) (hv : a.eval v = vv) (hrun : (Instr.mapUpdate t vm vx vv).run P w = .ok () w') (h : wpList P ops Q rest (a.put o.dst undef) w') : wpList P ops Q (o :: rest) a w := by
  refine wpList_plain hg fun K' hK' => ?_
  unfold Oper.wp
  simp [execOp, hop, hm, hx, hv, hrun, Result.andThen]
  exact hK' _ _ h
/-- A file in a box of one's own. -/
structure BxM (w0 w : World) (G : Nat) (x : MFile) : Prop where
  blk : w.heap[G]? = some (.cells (recA encM x) 46 (0, 0))
  frame : Below w0.heap.size w0 w
theorem wpList_store_bxm {ops : Array Oper} {rest : List Oper} {o : Oper} {a : Act} {w : World} {Q : Exit → Act → World → Prop} (hgd : o.guard = none) (x y : Operand) (ho : o.op = .store 46 x y) (w0 : World) (hf : Below w0.heap.size w0 w)
    (g : Nat) (c : MFile) (hx : a.eval x = .pointer (some ⟨g, 0, none⟩)) (hy : a.eval y = .agg (recA encM c)) (hg0 : w0.heap.size ≤ g)
    (old : Array Value) (hg : w.heap[g]? = some (.cells old 46 (0, 0))) (hold : old.size = 22)
    (h : ∀ w1, BxM w0 w1 g c → wpList Tryd.prog ops Q rest (a.put o.dst undef) w1) : wpList Tryd.prog ops Q (o :: rest) a w := by
  have e : (recA encM c).size = 22 := by simp [recA, encM_len]
  exact wpList_store_row hgd 46 x y ho g (recA encM c) hx hy 46 old hg (by rw [e]; exact tyM.ie) (by rw [hold, e]) (all_oneCell_toArray (tyM.one c))
    (h _ ⟨setRow_heap _ _ _ _ _ _ hg, below_setRow hf hg0 _⟩)
theorem Grp.rowv {w0 w : World} {M : Nat} {V : List UInt8 → Option Tri} {l : List MFile} (h : Grp w0 w M V l) (x : List UInt8) : w.ownsRow 0 46 22 (triV (V x)) (ofL l x).length (flatR encM (ofL l x)) := by
  cases hx : V x with
  | none => rw [h.none_ x hx]; exact World.ownsRow_nil _ _ _ _
  | some t => exact (h.row x t hx).2.2

set_option maxRecDepth 100000 in
set_option maxHeartbeats 4000000 in
theorem by_any {w : World} {l : List MFile} {a : Option Addr} {cap : Nat} (hg : RsAt encM 22 w a cap l) (hlen : l.length ≤ 1000) (hx : ∀ p ∈ l, p.path.length ≤ 1000000) :
    Calls Tryd.prog 30 #[.slice a l.length cap] w fun e w' => ∃ M V, e = .returned (.map (some M)) ∧ Grp w w' M V l := by
  have hmm := @run_makeMap Tryd.prog
  obtain ⟨n, hn⟩ : ∃ n, n = l.length := ⟨_, rfl⟩
  have HN := Lib.hid (And.intro hn (And.intro hg hx))
  have G0 := Lib.hid (Grp.made w)
  have hn6 : n ≤ 1000 := by omega
  rw [← hn]
  clear hn hg hx hlen
  go_enter Tryd.func30, Tryd.ntmps30
  go_wp2_with fail
  clear hmm
  obtain ⟨M, hM⟩ : ∃ M, M = w.heap.size := ⟨_, rfl⟩
  have G1 := G0.out
  rw [← hM] at G1
  have G2 := Lib.hid G1
  rw [← hM]
  clear G0 G1 hM
  generalize w.alloc (.map #[] 0) = w1 at *
  go_loopw [9] (fun s9 wr => ∃ (i : Nat) (V : List UInt8 → Option Tri), s9 = .int .i64 (i : Int) ∧ i ≤ n ∧ Grp w wr M V (l.take i)) (fun s9 _ => n - (intOf s9).toNat)
  case atStart => exact ⟨0, _, rfl, Nat.zero_le _, G2.out⟩
  case round =>
    obtain ⟨i, V, rfl, hi, hgr⟩ := hrel
    have HG := Lib.hid hgr
    by_cases hin : i < n
    · have t1 : decide ((i : Int) < (n : Int)) = true := decide_eq_true (by omega)
      have t1' : decide (i < n) = true := decide_eq_true hin
      have hil : i < l.length := by rw [← HN.out.1]; exact hin
      obtain ⟨b, q, IX, R, LD⟩ := HN.out.2.1.at tyM (i : Int) i rfl hil
      rw [← HN.out.1] at IX
      have LD0 := LD wr hgr.frame
      have hpx := HN.out.2.2 l[i]! (by rw [getElem!_pos l i hil]; exact List.getElem_mem hil)
      have HS := Lib.hid (And.intro (take_succM hil) (show (l.take i).length ≤ 1000 by rw [List.length_take]; omega))
      generalize l[i]! = p at *
      have HP := Lib.hid hpx
      clear LD R hil hpx hgr
      go_upto_region 5 with (first | (refine wpList_load_at rfl _ _ rfl _ _ rfl LD0 ?_) | (refine wpList_store_bxm rfl _ _ rfl wr ((Below.refl _ _).alloc (Nat.le_refl _) _) wr.heap.size p rfl rfl (Nat.le_refl _) _ (heap_alloc_last _ _ _ rfl) rfl ?_; intro w4 hb4; have H4 := Lib.hid hb4; clear hb4))
      obtain ⟨G, hG⟩ : ∃ G, G = wr.heap.size := ⟨_, rfl⟩
      rw [← hG]
      have hb4 := H4.out.blk
      rw [← hG] at hb4
      have g4 := HG.out.below H4.out.frame
      obtain ⟨f0, f1, f2⟩ := mf_fields (recBox hb4)
      have hGlt : G < w4.heap.size := lt_of_block hb4
      have hMlt : M < w4.heap.size := g4.map.lt
      have hbx : ∀ y : MixT.Later (fun k => k = G ∨ k = M) w4, y.1.heap[G]? = some (.cells (recA encM p) 46 (0, 0)) := fun y => (y.2.keep G (.inl rfl) hGlt).trans hb4
      have LC : ∀ y : MixT.Later (fun k => k = G ∨ k = M) w4, y.1.cell? ⟨G, 0, none⟩ = some (.string (strOf p.path)) := fun y => (mf_fields (recBox (hbx y))).1
      have LL : ∀ y : MixT.Later (fun k => k = G ∨ k = M) w4, (Instr.loadAt 46 (.pointer (some ⟨G, 0, none⟩))).run Tryd.prog y.1 = .ok (.agg (recA encM p)) y.1 := fun y => tyM.load p G 0 y.1 (recBox (hbx y))
      have LK : ∀ y : MixT.Later (fun k => k = G ∨ k = M) w4, (Instr.lookup 74 (.map (some M)) (.string (strOf p.path)) false).run Tryd.prog y.1 = .ok (triV (V p.path)) y.1 := fun y => (g4.map.same (y.2.keep M (.inr rfl) hMlt)).look p.path HP.out
      have B1 := fun W : World => tyM.slice1 p W
      have HB4 := Lib.hid (And.intro g4 (And.intro hb4 (And.intro hG (And.intro hGlt hMlt))))
      have hr4 : ∀ k, (triV (V p.path)).ownBlock = some k → k < wr.heap.size := fun k hk => row_lt (HG.out.rowv p.path) hk
      have HR4 := Lib.hid hr4
      clear LD0 IX f0 f1 f2 g4 hb4 hG hGlt hMlt hbx hr4
      refine MixT.wp_region_mix (N := fun k => k = G ∨ k = M) (D := []) (E := fun _ _ => False) [(0, 0), (1, 0), (2, 0), (3, 0), (4, 0), (5, 0), (6, 0), (7, 0), (8, 1), (9, 1), (10, 2)] (by kernel_rfl) (fun _ _ _ _ h => h.elim) (by kernel_rfl) ?_
      iterate 6 (refine MixT.mix_calm rfl (fun K hK => ?_); go_simp; (refine hK _ ?_; clear hK K))
      refine mt_look rfl rfl _ _ _ rfl _ _ _ rfl rfl LK ?_
      refine mt_load rfl rfl _ _ rfl _ _ rfl LL ?_
      refine MixT.mix_loud rfl rfl (fun w8 hw8 K hK => ?_)
      have B8 := B1 w8
      have gr9 : MixT.Grow (fun k => k = G ∨ k = M) w8 (w8.alloc (.cells (recA encM p) 46)) := MixT.Sm.grow ((Below.refl _ _).alloc (Nat.le_refl _) _)
      have P9 := RsAt.one (enc := encM) (L := 22) w8 46 p
      have hb9 : Below w4.heap.size w4 (w8.alloc (.cells (recA encM p) 46)) := hw8.alloc hw8.size _
      clear LC LL LK B1 hw8
      refine wpList_buildSlice_at rfl _ _ _ rfl [(0, .agg (recA encM p))] _ rfl B8 ?_
      go_wp2_with fail
      refine hK _ _ gr9 ?_
      clear hK K gr9 B8
      refine MixT.mix_loud rfl rfl (fun w10 hw10 K hK => ?_)
      have g10 := (HB4.out.1.below hb9).below hw10
      have P10 := P9.below hw10
      have hb10 := hb9.trans (Below.mono hw10 hb9.size)
      have hle : (ofL (l.take i) p.path).length ≤ 100000000 := Nat.le_trans (List.length_filter_le _ _) (by have := HS.out.2; omega)
      refine wpList_append_rowB tyM rfl _ _ rfl (triV (V p.path)) (ofL (l.take i) p.path) rfl (g10.rowv p.path) ⟨w8.heap.size, 0, none⟩ 1 p rfl P10 hle ?_
      intro v11 w11 hr11 hg11 hat11
      have gr11 : MixT.Grow (fun k => k = G ∨ k = M) w10 w11 := ⟨hg11.os, hg11.tape, hg11.output, hg11.size, fun k hk hl => hg11.block k hl (fun e => by
        have h1 := HR4.out k e.symm
        rcases hk with rfl | rfl
        · have := HB4.out.2.2.1; omega
        · cases hv : V p.path with
          | none => rw [hv] at e; simp [triV, Value.ownBlock] at e
          | some t0 =>
            rw [hv] at e
            exact (HG.out.row _ _ hv).2.1 (Option.some.inj e).symm)⟩
      have H11 := Lib.hid (And.intro g10 (And.intro hr11 (And.intro hg11 hat11)))
      clear g10 P10 P9 hb9 hb10 hle hr11 hg11 hat11 hw10
      go_wp2_with fail
      refine hK _ _ gr11 ?_
      clear hK K gr11
      refine MixT.mix_sync rfl rfl (fun w12 hw12 K hK => ?_)
      have hg12 : w10.grownBy w12 (triV (V p.path)).ownBlock := ⟨hw12.os.trans H11.out.2.2.1.os, hw12.tape.trans H11.out.2.2.1.tape, hw12.output.trans H11.out.2.2.1.output, Nat.le_trans H11.out.2.2.1.size hw12.size, fun k hk hne => (hw12.block k (Nat.lt_of_lt_of_le hk H11.out.2.2.1.size)).trans (H11.out.2.2.1.block k hk hne)⟩
      obtain ⟨w13, t, hrun, hG13⟩ := H11.out.1.add p (row_same H11.out.2.1 fun g hg => hw12.block g (row_lt H11.out.2.1 hg)) hg12 H11.out.2.2.2 HS.out.2 HP.out
      have H13 := Lib.hid hG13
      clear hg12 hG13 hw12
      refine wpList_update_runB rfl _ _ _ _ rfl _ _ _ rfl rfl rfl hrun ?_
      go_wp2_with fail
      refine MixT.mix_nil fun w14 hw14 => ?_
      have H14 := Lib.hid (H13.out.below hw14)
      clear hw14 hrun
      go_wp2_with fail
      go_roundw
      case rel => exact ⟨i + 1, _, by go_num, by omega, by rw [HS.out.1]; exact H14.out⟩
      case measure => simp [intOf]; omega
    · obtain rfl : i = n := by omega
      have t1 : decide ((i : Int) < (i : Int)) = false := decide_eq_false (by omega)
      have t1' : decide (i < i) = false := decide_eq_false (by omega)
      clear hgr
      go_wp2_with fail
      go_ret
      have h1 := HG.out
      rw [List.take_of_length_le (by rw [← HN.out.1]; exact Nat.le_refl _)] at h1
      exact ⟨M, V, rfl, h1⟩
end Go.Proofs.YtifoledkmjlmoaaDoor
namespace Go.Proofs.YtifoledkmjlmoaaDoor
open Go.RowKit Go.Mix Go.WideMaps

set_option maxRecDepth 100000 in
set_option maxHeartbeats 2000000 in
theorem equalM_any {w : World} {l m : List MFile} {a b : Option Addr} {ca cb : Nat} (hl : RsAt encM 22 w a ca l) (hm : RsAt encM 22 w b cb m) (wl : ∀ p ∈ l, WfM p) (wm : ∀ p ∈ m, WfM p) :
    Calls Tryd.prog 32 #[.slice a l.length ca, .slice b m.length cb] w fun e w' => e = .returned (.bool (decide (l = m))) ∧ Below w.heap.size w w' := by
  obtain ⟨n, hn⟩ : ∃ n, n = l.length := ⟨_, rfl⟩
  obtain ⟨k, hk⟩ : ∃ n, n = m.length := ⟨_, rfl⟩
  have HN := Lib.hid (And.intro hn hk)
  have HG := Lib.hid (And.intro hl hm)
  have HW := Lib.hid (And.intro wl wm)
  have hnb : n ≤ 9223372036854775807 := by rw [hn]; exact Nat.le_trans hl.le hl.big
  rw [← hn, ← hk]
  clear hn hk hl hm wl wm
  obtain ⟨R, hR⟩ : ∃ R, R = decide (l = m) := ⟨_, rfl⟩
  have HR := Lib.hid hR
  rw [← hR]
  clear hR
  go_enter Tryd.func32, Tryd.ntmps32
  by_cases hnk : n = k
  · subst hnk
    have tt : ((n : Int) != (n : Int)) = false := by simp
    have tt' : (n != n) = false := by simp
    have hF0 : Below w.heap.size w w := Below.refl _ _
    go_wp2_with fail
    go_loopw [13] (fun s5 wr => ∃ i : Nat, s5 = .int .i64 (i : Int) ∧ i ≤ n ∧ l.take i = m.take i ∧ Below w.heap.size w wr) (fun s5 _ => n - (intOf s5).toNat)
    case atStart => exact ⟨0, rfl, Nat.zero_le _, rfl, hF0⟩
    case round =>
      obtain ⟨i, rfl, hi, he, hb⟩ := hrel
      by_cases hin : i < n
      · have t1 : decide ((i : Int) < (n : Int)) = true := decide_eq_true (by omega)
        have t1' : decide (i < n) = true := decide_eq_true (by omega)
        have hil : i < l.length := by rw [← HN.out.1]; omega
        have him : i < m.length := by rw [← HN.out.2]; omega
        obtain ⟨b1, q1, IX1, -, L1⟩ := (HG.out.1.below hb).at tyM (i : Int) i rfl hil
        obtain ⟨b2, q2, IX2, -, L2⟩ := (HG.out.2.below hb).at tyM (i : Int) i rfl him
        rw [← HN.out.1] at IX1
        rw [← HN.out.2] at IX2
        have L1' : ∀ y : Later wr, (Instr.loadAt 46 (.pointer (some ⟨b1, q1, none⟩))).run Tryd.prog y.1 = .ok (.agg (recA encM l[i]!)) y.1 := fun y => L1 y.1 y.2
        have L2' : ∀ y : Later wr, (Instr.loadAt 46 (.pointer (some ⟨b2, q2, none⟩))).run Tryd.prog y.1 = .ok (.agg (recA encM m[i]!)) y.1 := fun y => L2 y.1 y.2
        have E := etM.eq_run l[i]! m[i]! (HW.out.1 _ (by rw [getElem!_pos l i hil]; exact List.getElem_mem hil)) (HW.out.2 _ (by rw [getElem!_pos m i him]; exact List.getElem_mem him))
        have G := fun op x y w => run_eqGuard_agg (P := Tryd.prog) w op 46 x y (recA encM l[i]!) (recA encM m[i]!) etM.ge
        have S1 := take_succM hil
        have S2 := take_succM him
        obtain ⟨d, hd⟩ : ∃ d, d = decide (l[i]! = m[i]!) := ⟨_, rfl⟩
        rw [← hd] at E
        have HS := Lib.hid (And.intro S1 (And.intro S2 (And.intro he hd)))
        have HBR := Lib.hid hb
        clear S1 S2 he L1 L2 hil him hd hb
        generalize l[i]! = p1 at *
        generalize m[i]! = p2 at *
        go_upto_region 6 with (fail)
        refine wp_region_mg [(0, 0), (1, 0), (2, 0), (3, 0), (4, 0), (5, 0), (6, 0), (7, 0), (8, 0)] (by kernel_rfl) (by kernel_rfl) ?_
        iterate 9 (first | (refine mg_load rfl rfl _ _ rfl _ _ rfl L1' ?_) | (refine mg_load rfl rfl _ _ rfl _ _ rfl L2' ?_) | (refine mg_calm rfl (fun K hK => ?_); go_simp; (refine hK _ ?_; clear hK K)))
        refine mg_nil fun w7 hw7 => ?_
        have HB7 := Lib.hid (HBR.out.trans (Below.mono hw7 HBR.out.size))
        clear L1' L2' IX1 IX2 E G hw7
        cases d
        · go_wp2_with fail
          go_ret
          refine ⟨?_, HB7.out⟩
          show Ending.returned (.bool false) = _
          rw [HR.out]
          have hne : ¬ p1 = p2 := of_decide_eq_false HS.out.2.2.2.symm
          rw [decide_eq_false (p := l = m)]
          intro hlm
          obtain ⟨s1, s2, s3, -⟩ := HS.out
          subst hlm
          have := s1.symm.trans s2
          simp at this
          exact hne this
        · go_wp2_with fail
          go_roundw
          case rel =>
            refine ⟨i + 1, by go_num, by omega, ?_, HB7.out⟩
            obtain ⟨s1, s2, s3, s4⟩ := HS.out
            rw [s1, s2, s3, of_decide_eq_true s4.symm]
          case measure => simp [intOf]; omega
      · obtain rfl : i = n := by omega
        have t1 : decide ((i : Int) < (i : Int)) = false := decide_eq_false (by omega)
        have t1' : decide (i < i) = false := decide_eq_false (by omega)
        have heq : l = m := by
          rw [List.take_of_length_le (by rw [← HN.out.1]; exact Nat.le_refl _), List.take_of_length_le (by rw [← HN.out.2]; exact Nat.le_refl _)] at he; exact he
        have hres : R = true := by rw [HR.out]; exact decide_eq_true heq
        clear heq he
        subst hres
        go_wp2_with fail
        go_ret
        exact ⟨rfl, hb⟩
  · have tt : ((n : Int) != (k : Int)) = true := by rw [bne_iff_ne]; omega
    have tt' : (n != k) = true := by rw [bne_iff_ne]; omega
    have hres : R = false := by
      rw [HR.out]; refine decide_eq_false fun h => hnk ?_
      rw [HN.out.1, HN.out.2, h]
    subst hres
    go_wp2_with fail
    go_ret
    exact ⟨rfl, Below.refl _ _⟩
end Go.Proofs.YtifoledkmjlmoaaDoor
namespace Go.Proofs.YtifoledkmjlmoaaDoor
open Go.RowKit Go.Mix Go.WideMaps

theorem sizeOf_file (w : World) : (sizeOf 46).run Tryd.prog w = .ok 22 w := tyM.se w
set_option maxRecDepth 100000 in
set_option maxHeartbeats 2000000 in
theorem growM_any (w : World) (n : Nat) (hn : n ≤ 100000) : Calls Tryd.prog 45 #[.slice none 0 0, .int .i64 (n : Int)] w fun e w' => ∃ v, e = .returned v ∧ OwnR encM 22 46 w w' v [] := by
  by_cases h0 : n = 0
  · subst h0
    have HB := Lib.hid (Below.refl w.heap.size w)
    go_enter Tryd.func45, Tryd.ntmps45
    go_wp2_with fail
    go_ret
    exact ⟨_, rfl, OwnR.nil HB.out⟩
  · obtain ⟨z, by_, hi0, hzs, hby⟩ := tyM.hi
    obtain ⟨i, hi, hz0, hz1, hz2⟩ := info_parts hi0
    have hge := grownCap_ge w n 0 46
    have hle := grownCap_le_maxLen w n 0 46 (by unfold maxLen; omega)
    have hnb : n * by_ ≤ 100000 * 100 := Nat.mul_le_mul hn hby
    have AP := fun ty => Lib.run_append_nil_zeros (P := Tryd.prog) w 23 3 ty 46 i (.agg z) .i64 .i64 Tryd.underlying23 Tryd.underlying3 hi hz0 n (by omega) (by rw [hz1]; decide) (by omega) (by rw [hz2]; omega)
    obtain ⟨cp, hcp⟩ : ∃ cp, cp = grownCap w n 0 46 := ⟨_, rfl⟩
    obtain ⟨C, hC⟩ : ∃ C, C = (Builtin.zeroCells (Value.agg z).cells n ++ Builtin.zeroCells (Value.agg z).cells (cp - n)) := ⟨_, rfl⟩
    rw [← hcp] at AP hge hle
    have hCs : C.size = cp * 22 := by rw [hC]; simp [Builtin.zeroCells, Value.cells, hzs]; omega
    rw [← hC] at AP
    unfold maxLen at hle
    have HH := Lib.hid (And.intro hCs (And.intro hge hle))
    have hpos : (0 : Int) < (n : Int) := by omega
    have hg : Below w.heap.size w (w.drew.alloc (.cells C 46)) := ((Below.refl _ _).drew).alloc (by simp) _
    have hb : (w.drew.alloc (.cells C 46)).heap[w.heap.size]? = some (.cells C 46 (0, 0)) := heap_alloc_last w.drew _ _ rfl
    have HW := Lib.hid (And.intro hg hb)
    have SL : ∀ W : World, (Instr.slice 23 (.slice (some ⟨w.heap.size, 0, none⟩) n cp) none (some (.int .i64 ((0 : Nat) : Int))) none).run Tryd.prog W = .ok (.slice (some ⟨w.heap.size, 0, none⟩) 0 cp) W := fun W => run_slice_to 23 Tryd.underlying23 (some ⟨w.heap.size, 0, none⟩) n cp 0 (by omega) (fun h => nomatch h) sizeOf_file W
    have SL2 : ∀ W : World, (Instr.slice 23 (.slice none 0 0) none (some (.int .i64 ((0 : Nat) : Int))) none).run Tryd.prog W = .ok (.slice none 0 0) W := fun W => run_slice_to 23 Tryd.underlying23 none 0 0 0 (by omega) (fun _ => rfl) sizeOf_file W
    clear hi0 hi hz0 hz1 hz2 hcp hC hCs hge hle hg hb h0 hzs hby hnb
    go_enter Tryd.func45, Tryd.ntmps45
    go_wp2_with (first | (at_builtin; refine Lib.wpList_append_run _ rfl _ _ _ _ rfl _ _ rfl rfl _ _ (AP _) ?_))
    go_ret
    exact ⟨_, rfl, ⟨⟨rfl, .inr ⟨w.heap.size, cp, C, rfl, Nat.le_refl _, HW.out.2, Nat.zero_le _, by unfold maxLen; exact HH.out.2.2, HH.out.1, by simp [flatR]⟩⟩, HW.out.1⟩⟩
/-- Two slices of bytes in a row. -/
theorem row2M {w : World} {g : Nat} {v1 v2 : Value} {t : TypeId} {fr : Nat × Nat} (h : w.heap[g]? = some (.cells #[v1, v2] t fr)) : w.cell? ⟨g, 0, none⟩ = some v1 ∧ w.cell? ⟨g, 1, none⟩ = some v2 := ⟨by simp [World.cell?, h], by simp [World.cell?, h]⟩
theorem idx2M (g k : Nat) (hk : k < 2) (K : Int) (hK : K = (k : Int)) (w : World) : (Instr.indexAt 92 (.slice (some ⟨g, 0, none⟩) 2 2) (.int .i64 K)).run Tryd.prog w = .ok (.pointer (some ⟨g, k, none⟩)) w := by
  subst hK
  have he : Tryd.prog.elem 92 = 23 := by simp [Program.elem, Tryd.underlying92]
  rw [run_indexAt_slice w 92 _ 2 2 .i64 k (by rw [he]; exact Tryd.underlying92), if_pos ⟨by omega, by omega⟩, he, show (sizeOf 23).run Tryd.prog w = .ok 1 w by kernel_rfl]
  simp [Result.andThen, Addr.add_lit]
set_option maxRecDepth 100000 in
set_option maxHeartbeats 4000000 in
theorem concatM_any {w : World} {g : Nat} {a1 a2 : Option Addr} {c1 c2 n1 n2 : Nat} {l1 l2 : List MFile} (hg : w.heap[g]? = some (.cells #[.slice a1 n1 c1, .slice a2 n2 c2] 23 (0, 0))) (h1 : RsAt encM 22 w a1 c1 l1) (h2 : RsAt encM 22 w a2 c2 l2) (hn1 : n1 = l1.length) (hn2 : n2 = l2.length) (hl1 : n1 ≤ 1000) (hl2 : n2 ≤ 1000) :
    Calls Tryd.prog 31 #[.slice (some ⟨g, 0, none⟩) 2 2] w fun e w' => ∃ v, e = .returned v ∧ OwnR encM 22 46 w w' v (l1 ++ l2) := by
  obtain ⟨k0, k1⟩ := row2M hg
  have I0 := fun W => idx2M g 0 (by decide) 0 rfl W
  have I1 := fun W => idx2M g 1 (by decide) 1 rfl W
  have HB := Lib.hid (And.intro h1 (And.intro h2 (And.intro hn1 hn2)))
  have HK := Lib.hid (And.intro k0 k1)
  clear hg h1 h2 hn1 hn2
  go_enter Tryd.func31, Tryd.ntmps31
  go_wp2_with fail
  go_loop [3, 11] (fun s3 s11 => ∃ k : Nat, k ≤ 2 ∧ s11 = .int .i64 (k : Int) ∧ s3 = .int .i64 (if k = 0 then 0 else if k = 1 then (n1 : Int) else (n1 : Int) + (n2 : Int))) (fun _ s11 => 2 - (intOf s11).toNat)
  case atStart => exact ⟨0, by omega, rfl, rfl⟩
  case round =>
    obtain ⟨k, hk, rfl, rfl⟩ := hrel
    obtain rfl | rfl | rfl : k = 0 ∨ k = 1 ∨ k = 2 := by omega
    · go_wp2_with fail
      go_round
      case rel => exact ⟨1, by omega, rfl, by simp⟩
      case measure => simp [intOf]
    · go_wp2_with fail
      go_round
      case rel => exact ⟨2, by omega, rfl, by simp⟩
      case measure => simp [intOf]
    · have CG := fun W => growM_any W (n1 + n2) (by omega)
      rw [Int.natCast_add] at CG
      clear k0 k1
      go_wp2_with fail
      refine (CG _).mono ?_
      clear CG
      rintro e w1 ⟨v1, rfl, hb1⟩
      have HB1 := Lib.hid hb1
      have k0 := (hb1.frame.cell (p := ⟨g, 0, none⟩) (lt_of_cell HK.out.1)).trans HK.out.1
      have k1 := (hb1.frame.cell (p := ⟨g, 1, none⟩) (lt_of_cell HK.out.2)).trans HK.out.2
      clear hb1 k0 k1
      go_wp2_with fail
      go_loopw [6, 27] (fun s6 s27 wr => ∃ k : Nat, k ≤ 2 ∧ s27 = .int .i64 (k : Int) ∧ OwnR encM 22 46 w wr s6 (if k = 0 then [] else if k = 1 then l1 else l1 ++ l2)) (fun _ s27 _ => 2 - (intOf s27).toNat)
      case atStart => exact ⟨0, by omega, rfl, HB1.out⟩
      case round =>
        obtain ⟨k, hk, rfl, hb⟩ := hrel
        have k0 := (hb.frame.cell (p := ⟨g, 0, none⟩) (lt_of_cell HK.out.1)).trans HK.out.1
        have k1 := (hb.frame.cell (p := ⟨g, 1, none⟩) (lt_of_cell HK.out.2)).trans HK.out.2
        have g1 := hb.frame
        have HG := Lib.hid g1
        clear g1
        obtain rfl | rfl | rfl : k = 0 ∨ k = 1 ∨ k = 2 := by omega
        · have e1 := HB.out.2.2.1
          subst e1
          have hb0 : OwnR encM 22 46 w wr _ [] := hb
          have HB0 := Lib.hid (And.intro hb0 (show ([] : List MFile).length + l1.length ≤ 1000000000 by simp; omega))
          clear hb hb0
          go_wp2_with (first | (at_builtin; go_loud (refine wpList_append_r tyM rfl _ _ rfl _ [] rfl HB0.out.1 _ _ c1 l1 rfl rfl (HB.out.1.below HG.out) HB0.out.2 ?_); intro v w2 hb2 hg2 hz2))
          go_roundw
          case rel => exact ⟨1, by omega, rfl, by simpa using hb2⟩
          case measure => simp [intOf]
        · have e2 := HB.out.2.2.2
          subst e2
          simp only [Nat.one_ne_zero, if_false, if_true] at hb
          have hl1' : l1.length ≤ 1000 := by rw [← HB.out.2.2.1]; exact hl1
          go_wp2_with (first | (at_builtin; refine wpList_append_r tyM rfl _ _ rfl _ l1 rfl hb _ _ c2 l2 rfl rfl (HB.out.2.1.below HG.out) (by omega) ?_; intro v w2 hb2 hg2 hz2))
          go_roundw
          case rel => exact ⟨2, by omega, rfl, by simpa using hb2⟩
          case measure => simp [intOf]
        · have HB2 := Lib.hid hb
          clear hb k0 k1
          go_wp2_with fail
          go_ret
          exact ⟨_, rfl, by simpa using HB2.out⟩
end Go.Proofs.YtifoledkmjlmoaaDoor
namespace Go.Proofs.YtifoledkmjlmoaaDoor
open Go.RowKit Go.Mix Go.WideMaps Go.Maps

theorem zeroBool (w : World) : (zeroValue 4).run Tryd.prog w = .ok (.bool false) w := by kernel_rfl
/-- Block M is the set of the texts of K. -/
structure SetAt (w : World) (M n : Nat) (K : List (List UInt8)) : Prop where
  ex : ∃ D : DataW Unit, w.ownsMap Tryd.prog 9 (plainElem Tryd.prog 4) M n D ∧ IsMap D ∧ ∀ x z, D.atKey (.string x) z = if x ∈ K then .lit (.bool true) else z
section
variable {w w' : World} {M n : Nat} {K : List (List UInt8)}
theorem SetAt.lt (h : SetAt w M n K) : M < w.heap.size := by obtain ⟨D, h, _⟩ := h.ex; exact h.lt
theorem SetAt.same (h : SetAt w M n K) (hb : w'.heap[M]? = w.heap[M]?) : SetAt w' M n K := by
  obtain ⟨D, ⟨es, clock, h1, r⟩, h2⟩ := h.ex
  exact ⟨D, ⟨es, clock, hb.trans h1, r⟩, h2⟩
theorem SetAt.made (w : World) : SetAt (w.alloc (.map #[] 0)) w.heap.size 0 [] :=
  ⟨.map [], World.ownsMap_made _ _ _ _, isMap_empty, fun _ _ => rfl⟩
theorem SetAt.put (h : SetAt w M n K) (hn : n ≤ 1000000) (x : List UInt8) (hx : x.length ≤ 1000000) :
    ∃ w', (Instr.mapUpdate 76 (.map (some M)) (.string (strOf x)) (.bool true)).run Tryd.prog w = .ok () w' ∧ SetAt w' M (n + 1) (if x ∈ K then K else K ++ [x]) ∧ w.grownBy w' (some M) ∧ w'.heap.size = w.heap.size := by
  obtain ⟨D, ho, hm, hat⟩ := h.ex
  obtain ⟨w', hrun, h1, h2⟩ := ho.store keyedB Tryd.underlying76 (by unfold maxLen; omega) (key_ofB x hx) (plainElem_bool Tryd.underlying4 true)
  have hsz : w'.heap.size = w.heap.size := by
    obtain ⟨es, clock, es', clock', hb, rfl⟩ := h2
    simp [ChangeMaps.setBlock]
  refine ⟨w', hrun, ⟨_, h1, hm.put _ _, fun y z => ?_⟩, turned_grownB h2, hsz⟩
  have hmem : (y ∈ if x ∈ K then K else K ++ [x]) ↔ y = x ∨ y ∈ K := by
    by_cases hK : x ∈ K
    · rw [if_pos hK]
      exact ⟨.inr, fun h => h.elim (fun e => by rw [e]; exact hK) id⟩
    · rw [if_neg hK, List.mem_append, List.mem_singleton]
      exact ⟨fun h => h.elim .inr .inl, fun h => h.elim .inr .inl⟩
  by_cases hy : y = x
  · subst hy
    rw [atKey_put_same hm (show WideAt.IsKeyLit (.string y) from trivial), if_pos (hmem.2 (.inl rfl))]
  · rw [atKey_put_other (fun e => hy (by injection e)), hat]
    by_cases hK : y ∈ K
    · rw [if_pos hK, if_pos (hmem.2 (.inr hK))]
    · rw [if_neg hK, if_neg (fun h => (hmem.1 h).elim hy hK)]
theorem SetAt.keys (h : SetAt w M n K) (hK : K.Nodup) : ∃ D : DataW Unit, w.ownsMap Tryd.prog 9 (plainElem Tryd.prog 4) M n D ∧ K.Perm (strKeys D) ∧ Maps.size D ≤ n := by
  obtain ⟨D, ho, hm, hat⟩ := h.ex
  have hsz := ho.size_le
  obtain ⟨es, hD, hpw, _⟩ := ho.entries keyedB
  obtain ⟨es', hD', hko⟩ := ho.keysOf
  obtain rfl : es = es' := by rw [hD] at hD'; simpa using hD'
  subst hD
  have hp : K.Perm (strKeys (.map es)) := perm_strKeys hpw (fun p hp => by obtain ⟨v, hv⟩ := hko p hp; obtain ⟨x, _, hx, _⟩ := Maps.keyOf_str Tryd.underlying9 hv; exact ⟨x, hx⟩)
    hK
    (fun x => by
      by_cases hx : x ∈ K
      · exact ⟨fun _ => has_true_of_atKey fun z => by rw [hat x z, if_pos hx], fun _ => hx⟩
      · refine ⟨fun h => absurd h hx, fun h => ?_⟩
        have h2 := has_false_of_atKey (D := .map es) (k := .string x) fun z => by rw [hat x z, if_neg hx]
        rw [h2] at h; cases h)
  exact ⟨_, ho, hp, hsz⟩
end
/-- The paths at which the lists differ, as they come up. -/
def stepK (l m : List MFile) (K : List (List UInt8)) (p : MFile) : List (List UInt8) := if ofL l p.path = ofL m p.path then K else if p.path ∈ K then K else K ++ [p.path]
def diffK (l m all : List MFile) : List (List UInt8) := all.foldl (stepK l m) []
def diffL (l m : List MFile) : List (List UInt8) := (diffK l m (l ++ m)).mergeSort (fun x y => decide (x ≤ y))
theorem diffK_snoc (l m all : List MFile) (p : MFile) : diffK l m (all ++ [p]) = stepK l m (diffK l m all) p := by
  unfold diffK
  rw [List.foldl_append]
  rfl
theorem stepK_nodup {l m : List MFile} {K : List (List UInt8)} (h : K.Nodup) (p : MFile) : (stepK l m K p).Nodup := by
  unfold stepK
  split
  · exact h
  · split
    · exact h
    · rename_i hm
      exact List.nodup_append.2 ⟨h, by simp, fun a ha b hb => by rw [List.mem_singleton.1 hb]; exact fun e => hm (e ▸ ha)⟩
theorem stepK_len (l m : List MFile) (K : List (List UInt8)) (p : MFile) : (stepK l m K p).length ≤ K.length + 1 := by
  unfold stepK
  split
  · omega
  · split
    · omega
    · simp
theorem foldK_nodup (l m : List MFile) : ∀ (all : List MFile) (K : List (List UInt8)), K.Nodup → (all.foldl (stepK l m) K).Nodup
  | [], _, h => h
  | p :: all, _, h => foldK_nodup l m all _ (stepK_nodup h p)
theorem diffK_nodup (l m all : List MFile) : (diffK l m all).Nodup := foldK_nodup l m all [] List.nodup_nil
end Go.Proofs.YtifoledkmjlmoaaDoor
namespace Go.Proofs.YtifoledkmjlmoaaDoor
open Go.RowKit Go.Mix Go.WideMaps Go.Maps

theorem RsAt.same {α : Type} [Inhabited α] {enc : α → List Value} {L : Nat} {w w' : World} {a : Option Addr} {c : Nat} {l : List α} (h : RsAt enc L w a c l) (hk : ∀ b o, a = some ⟨b, o, none⟩ → w'.heap[b]? = w.heap[b]?) : RsAt enc L w' a c l := by
  refine ⟨h.le, h.big, h.non, h.cells.imp id ?_⟩
  rintro ⟨b, o, rfl, hc⟩
  refine ⟨b, o, rfl, fun j hj i v hv => ?_⟩
  have h1 := hc j hj i v hv
  rw [World.cell?_of_block (a := ⟨b, o + j * L + i, none⟩) (hk b o rfl)]
  exact h1
/-- All but block M is as it was. -/
structure But (M : Nat) (w w' : World) : Prop where
  os : w'.os = w.os
  tape : w'.tape = w.tape
  output : w'.output = w.output
  size : w.heap.size ≤ w'.heap.size
  keep : ∀ k, k < w.heap.size → k ≠ M → w'.heap[k]? = w.heap[k]?
theorem But.refl (M : Nat) (w : World) : But M w w := ⟨rfl, rfl, rfl, Nat.le_refl _, fun _ _ _ => rfl⟩
theorem But.below {M : Nat} {w w' w2 : World} (h : But M w w') (g : Below w'.heap.size w' w2) : But M w w2 :=
  ⟨g.os.trans h.os, g.tape.trans h.tape, g.output.trans h.output, Nat.le_trans h.size g.size, fun k hk hM => (g.block k (Nat.lt_of_lt_of_le hk h.size)).trans (h.keep k hk hM)⟩
theorem But.grown {M : Nat} {w w' w2 : World} (h : But M w w') (g : w'.grownBy w2 (some M)) : But M w w2 :=
  ⟨g.os.trans h.os, g.tape.trans h.tape, g.output.trans h.output, Nat.le_trans h.size g.size, fun k hk hM => (g.block k (Nat.lt_of_lt_of_le hk h.size) (fun e => hM (Option.some.inj e))).trans (h.keep k hk hM)⟩
theorem But.toBelow {M B : Nat} {w w' : World} (h : But M w w') (hB : B ≤ M) (hB2 : B ≤ w.heap.size) : Below B w w' := ⟨h.os, h.tape, h.output, h.size, fun k hk => h.keep k (by omega) (by omega)⟩

set_option maxRecDepth 100000 in
set_option maxHeartbeats 4000000 in
theorem diff_any {w : World} {l m : List MFile} {a b : Option Addr} {ca cb : Nat} (hl : RsAt encM 22 w a ca l) (hm : RsAt encM 22 w b cb m) (hll : l.length ≤ 500) (hml : m.length ≤ 500) (wl : ∀ p ∈ l, WfM p) (wm : ∀ p ∈ m, WfM p) :
    Calls Tryd.prog 17 #[.slice a l.length ca, .slice b m.length cb] w fun e w' => ∃ v, e = .returned v ∧ OwnR encS 1 9 w w' v (diffL l m) := by
  have C1 := by_any hl (by omega) (fun p hp => (wl p hp).1)
  have hmm := @run_makeMap Tryd.prog
  obtain ⟨n1, hn1⟩ : ∃ n, n = l.length := ⟨_, rfl⟩
  obtain ⟨n2, hn2⟩ : ∃ n, n = m.length := ⟨_, rfl⟩
  have HN := Lib.hid (And.intro hn1 (And.intro hn2 (And.intro hl (And.intro hm (And.intro wl wm)))))
  rw [← hn1] at C1 hll ⊢
  rw [← hn2] at hml ⊢
  clear hn1 hn2 hl hm wl wm
  go_enter Tryd.func17, Tryd.ntmps17
  go_wp2_with fail
  refine C1.mono ?_
  clear C1
  rintro e w1 ⟨M1, V1, rfl, g1⟩
  have C2 := by_any (HN.out.2.2.2.1.below g1.frame) (by have := HN.out.2.1; omega) (fun p hp => (HN.out.2.2.2.2.2 p hp).1)
  rw [← HN.out.2.1] at C2
  have H1 := Lib.hid g1
  clear g1
  go_wp2_with fail
  refine C2.mono ?_
  clear C2
  rintro e w2 ⟨M2, V2, rfl, g2⟩
  obtain ⟨M3, hM3⟩ : ∃ M, M = w2.heap.size := ⟨_, rfl⟩
  obtain ⟨w3, hw3⟩ : ∃ w3, w3 = w2.alloc (.map #[] 0) := ⟨_, rfl⟩
  have s3 := SetAt.made w2
  have b3 : Below w2.heap.size w2 w3 := by rw [hw3]; exact (Below.refl _ _).alloc (Nat.le_refl _) _
  rw [← hw3, ← hM3] at s3
  have h3 : Below w.heap.size w w3 := (H1.out.frame.trans (g2.frame.mono H1.out.frame.size)).trans (b3.mono (Nat.le_trans H1.out.frame.size g2.frame.size))
  have H3 := Lib.hid (And.intro g2 (And.intro (H1.out.below g2.frame) (And.intro s3 (And.intro h3 (And.intro hM3 b3)))))
  have hMb : w.heap.size ≤ M3 := by rw [hM3]; exact Nat.le_trans H1.out.frame.size g2.frame.size
  have HMB := Lib.hid (And.intro hMb (show M3 < w3.heap.size from s3.lt))
  clear g2 s3 b3 h3 hMb
  go_upto_region 3 with (fail)
  rw [← hw3, ← hM3]
  clear hmm hw3 hM3
  have C4 := concatM_any (w := w3.alloc (.cells #[.slice a n1 ca, .slice b n2 cb] 23)) (g := w3.heap.size) (heap_alloc_last _ _ _ rfl) ((HN.out.2.2.1.below H3.out.2.2.2.1).below ((Below.refl _ _).alloc (Nat.le_refl _) _)) ((HN.out.2.2.2.1.below H3.out.2.2.2.1).below ((Below.refl _ _).alloc (Nat.le_refl _) _)) HN.out.1 HN.out.2.1 (by omega) (by omega)
  have b4 : Below w3.heap.size w3 (w3.alloc (.cells #[.slice a n1 ca, .slice b n2 cb] 23)) := (Below.refl _ _).alloc (Nat.le_refl _) _
  have HB4 := Lib.hid b4
  clear b4
  go_wp2_with fail
  refine C4.mono ?_
  clear C4
  rintro e w5 ⟨v5, rfl, ho5⟩
  obtain ⟨aC, cC, rfl, hr5, hv5⟩ := ho5.rs tyM
  have hb5 := HB4.out.trans (ho5.frame.mono HB4.out.size)
  have hne5 : ∀ b o, aC = some ⟨b, o, none⟩ → b < w5.heap.size ∧ b ≠ M3 := fun b o e => by
    have h1 := ho5.block b (by rw [e]; rfl)
    have h2 := HB4.out.size
    have h3 := HMB.out.2
    omega
  obtain ⟨n, hn⟩ : ∃ n, n = (l ++ m).length := ⟨_, rfl⟩
  rw [← hn]
  have hn6 : n ≤ 1000 := by rw [hn, List.length_append, ← HN.out.1, ← HN.out.2.1]; omega
  have H5 := Lib.hid (And.intro (H3.out.2.2.2.2.2.trans (hb5.mono H3.out.2.2.2.2.2.size)) (And.intro (Nat.le_refl 0) (And.intro (H3.out.2.2.1.same (hb5.block M3 HMB.out.2)) (And.intro (H3.out.2.2.2.1.trans (hb5.mono H3.out.2.2.2.1.size)) (And.intro hr5 (And.intro hne5 (And.intro hn (Nat.lt_of_lt_of_le HMB.out.2 hb5.size))))))))
  clear ho5 hr5 hv5 hb5 hne5 hn
  go_wp2_with fail
  go_loopw [20] (fun s20 wr => ∃ i : Nat, s20 = .int .i64 (i : Int) ∧ i ≤ n ∧ But M3 w5 wr ∧ SetAt wr M3 i (diffK l m ((l ++ m).take i))) (fun s20 _ => n - (intOf s20).toNat)
  case atStart => exact ⟨0, rfl, Nat.zero_le _, But.refl _ _, H5.out.2.2.1⟩
  case round =>
    obtain ⟨i, rfl, hi, hbut, hset⟩ := hrel
    have HR := Lib.hid (And.intro hbut hset)
    by_cases hin : i < n
    · have t1 : decide ((i : Int) < (n : Int)) = true := decide_eq_true (by omega)
      have t1' : decide (i < n) = true := decide_eq_true hin
      have hil : i < (l ++ m).length := by rw [← H5.out.2.2.2.2.2.2.1]; exact hin
      have hrw := H5.out.2.2.2.2.1.same fun b o e => hbut.keep b (H5.out.2.2.2.2.2.1 b o e).1 (H5.out.2.2.2.2.2.1 b o e).2
      obtain ⟨o1, o2, IX, -, LD⟩ := hrw.at tyM (i : Int) i rfl hil
      rw [← H5.out.2.2.2.2.2.2.1] at IX
      have LD0 := LD wr (Below.refl _ _)
      have hwf : WfM (l ++ m)[i]! := by
        rw [getElem!_pos (l ++ m) i hil]
        rcases List.mem_append.1 (List.getElem_mem hil) with h | h
        · exact HN.out.2.2.2.2.1 _ h
        · exact HN.out.2.2.2.2.2 _ h
      have HS := Lib.hid (And.intro (take_succM hil) hwf)
      generalize (l ++ m)[i]! = p at *
      clear LD hrw hil hwf hbut hset
      go_upto_region 6 with (first | (refine wpList_load_at rfl _ _ rfl _ _ rfl LD0 ?_) | (refine wpList_store_bxm rfl _ _ rfl wr ((Below.refl _ _).alloc (Nat.le_refl _) _) wr.heap.size p rfl rfl (Nat.le_refl _) _ (heap_alloc_last _ _ _ rfl) rfl ?_; intro w6 hb6; have H6 := Lib.hid hb6; clear hb6))
      obtain ⟨f0, -⟩ := mf_fields (recBox H6.out.blk)
      have bw6 := (H5.out.1.trans ((HR.out.1.toBelow (B := w2.heap.size) (by have := H3.out.2.2.2.2.1; omega) H5.out.1.size))).trans (H6.out.frame.mono (Nat.le_trans H5.out.1.size HR.out.1.size))
      have G1 := H3.out.2.1.below bw6
      have G2 := H3.out.1.below bw6
      have K1 := G1.map.look p.path HS.out.2.1
      have K2 := G2.map.look p.path HS.out.2.1
      obtain ⟨a1, c1, e1, r1⟩ := G1.rs p.path
      obtain ⟨a2, c2, e2, r2⟩ := G2.rs p.path
      rw [e1] at K1
      rw [e2] at K2
      have CE := equalM_any r1 r2 (fun q hq => HN.out.2.2.2.2.1 q (List.mem_filter.1 hq).1) (fun q hq => HN.out.2.2.2.2.2 q (List.mem_filter.1 hq).1)
      obtain ⟨d, hd⟩ : ∃ d, d = decide (ofL l p.path = ofL m p.path) := ⟨_, rfl⟩
      rw [← hd] at CE
      have HD := Lib.hid hd
      clear G1 G2 e1 e2 r1 r2 bw6 LD0 IX hd
      generalize (ofL l p.path).length = m1 at *
      generalize (ofL m p.path).length = m2 at *
      go_wp2_with fail
      refine CE.mono ?_
      clear CE K1 K2
      rintro e w7 ⟨rfl, hb7⟩
      have but7 := (HR.out.1.below H6.out.frame).below hb7
      have set7 := (HR.out.2.same (H6.out.frame.block M3 HR.out.2.lt)).same (hb7.block M3 (Nat.lt_of_lt_of_le HR.out.2.lt H6.out.frame.size))
      have f7 := (hb7.cell (p := ⟨wr.heap.size, 0, none⟩) (lt_of_cell f0)).trans f0
      clear f0
      cases d
      case true =>
        have H7 := Lib.hid (And.intro but7 set7)
        clear but7 set7 f7 hb7
        go_wp2_with fail
        go_roundw
        case rel =>
          refine ⟨i + 1, by go_num, by omega, H7.out.1, ?_⟩
          have e : stepK l m (diffK l m ((l ++ m).take i)) p = diffK l m ((l ++ m).take i) := by unfold stepK; rw [if_pos (of_decide_eq_true HD.out.symm)]
          rw [HS.out.1, diffK_snoc, e]
          obtain ⟨D, ⟨es, ck, h1, h2, h3, h4⟩, hr⟩ := H7.out.2.ex
          exact ⟨D, ⟨es, ck, h1, h2, by omega, h4⟩, hr⟩
        case measure => simp [intOf]; omega
      case false =>
        obtain ⟨w8, hrun, hs8, hg8, -⟩ := set7.put (by omega) p.path HS.out.2.1
        have H8 := Lib.hid (And.intro (but7.grown hg8) hs8)
        clear but7 set7 hb7 hs8 hg8
        go_wp2_with (first | (refine wpList_update_runB rfl _ _ _ _ rfl _ _ _ rfl rfl rfl hrun ?_))
        go_roundw
        case rel =>
          refine ⟨i + 1, by go_num, by omega, H8.out.1, ?_⟩
          have e : stepK l m (diffK l m ((l ++ m).take i)) p = if p.path ∈ diffK l m ((l ++ m).take i) then diffK l m ((l ++ m).take i) else diffK l m ((l ++ m).take i) ++ [p.path] := by unfold stepK; rw [if_neg (of_decide_eq_false HD.out.symm)]
          rw [HS.out.1, diffK_snoc, e]
          exact H8.out.2
        case measure => simp [intOf]; omega
    · obtain rfl : i = n := by omega
      have t1 : decide ((i : Int) < (i : Int)) = false := decide_eq_false (by omega)
      have t1' : decide (i < i) = false := decide_eq_false (by omega)
      rw [List.take_of_length_le (by rw [← H5.out.2.2.2.2.2.2.1]; exact Nat.le_refl _)] at hset
      obtain ⟨D, hown, hp, hsz⟩ := hset.keys (diffK_nodup l m (l ++ m))
      have CK := callsIn_wide.1 (Tryd.keysOfB (some M3) wr)
      have CS := callsIn_wide.1 (Tryd.sortedOfB M3 _ D (plainElem Tryd.prog 4) wr hown (by unfold maxLen; omega) (by omega))
      have HP := Lib.hid hp
      clear hown hp hsz hbut hset
      go_wp2_with fail
      refine CK.mono ?_
      clear CK
      rintro e w8 ⟨rfl, rfl⟩
      go_wp2_with fail
      refine CS.mono ?_
      clear CS
      rintro e w9 ⟨v, ss, rfl, hperm, hrow, -, hb⟩
      have hks : ss.mergeSort (fun x y => decide (x ≤ y)) = diffL l m := mergeSort_of_perm (hperm.trans HP.out.symm)
      have hlen : ss.length = (diffL l m).length := by rw [← hks, List.length_mergeSort]
      rw [hks, hlen] at hrow
      have g9 : Below wr.heap.size wr w9 := ((Below.refl _ _).alloc (Nat.le_refl _) _).trans (hb.mono (by simp))
      have h9 : Below w.heap.size w w9 := (H5.out.2.2.2.1.trans (HR.out.1.toBelow HMB.out.1 H5.out.2.2.2.1.size)).trans (g9.mono (Nat.le_trans H5.out.2.2.2.1.size HR.out.1.size))
      have hB9 : w.heap.size ≤ (wr.alloc (.cells #[.map (some M3)] 76)).heap.size := Nat.le_trans (Nat.le_trans H5.out.2.2.2.1.size HR.out.1.size) (by simp)
      obtain ⟨q1, q2⟩ := hrow
      have ho : OwnR encS 1 9 w w9 v (diffL l m) := ⟨⟨by rw [flat_texts]; exact q1, by
        rcases q2 with q2 | ⟨g, cap, cur, e, h0, r⟩
        · exact .inl q2
        · refine .inr ⟨g, cap, cur, e, Nat.le_trans hB9 h0, ?_⟩
          rw [flat_texts]
          exact r⟩, h9⟩
      have HO := Lib.hid ho
      clear ho q1 q2 hB9 h9 g9 hlen hks hperm hb
      go_wp2_with fail
      go_ret
      exact ⟨v, rfl, HO.out⟩
end Go.Proofs.YtifoledkmjlmoaaDoor
namespace Go.Proofs.YtifoledkmjlmoaaDoor
open Go.Sort

theorem stepK_mem (l m : List MFile) (K : List (List UInt8)) (p : MFile) (x : List UInt8) : x ∈ stepK l m K p ↔ x ∈ K ∨ (p.path = x ∧ ofL l x ≠ ofL m x) := by
  unfold stepK
  by_cases h : ofL l p.path = ofL m p.path
  · rw [if_pos h]
    exact ⟨.inl, fun h1 => h1.elim id fun ⟨e, hne⟩ => absurd (e ▸ h) hne⟩
  · rw [if_neg h]
    by_cases hK : p.path ∈ K
    · rw [if_pos hK]
      exact ⟨.inl, fun h1 => h1.elim id fun ⟨e, _⟩ => e ▸ hK⟩
    · rw [if_neg hK, List.mem_append, List.mem_singleton]
      exact ⟨fun h1 => h1.imp id fun e => ⟨e.symm, by rw [e]; exact h⟩, fun h1 => h1.imp id fun e => e.1.symm⟩
theorem foldK_mem (l m : List MFile) (x : List UInt8) : ∀ (all : List MFile) (K : List (List UInt8)), x ∈ all.foldl (stepK l m) K ↔ x ∈ K ∨ ∃ p ∈ all, p.path = x ∧ ofL l x ≠ ofL m x
  | [], K => by simp
  | p :: all, K => by
    rw [List.foldl_cons, foldK_mem l m x all, stepK_mem]
    constructor
    · rintro ((h | h) | ⟨q, hq, h⟩)
      · exact .inl h
      · exact .inr ⟨p, List.mem_cons_self, h⟩
      · exact .inr ⟨q, List.mem_cons_of_mem _ hq, h⟩
    · rintro (h | ⟨q, hq, h⟩)
      · exact .inl (.inl h)
      · rcases List.mem_cons.1 hq with rfl | hq
        · exact .inl (.inr h)
        · exact .inr ⟨q, hq, h⟩
theorem diffK_mem (l m all : List MFile) (x : List UInt8) : x ∈ diffK l m all ↔ ∃ p ∈ all, p.path = x ∧ ofL l x ≠ ofL m x := by
  unfold diffK
  rw [foldK_mem]
  simp
theorem diffL_symm (l m : List MFile) : diffL l m = diffL m l := by
  unfold diffL
  refine mergeSort_of_perm ((List.perm_ext_iff_of_nodup (diffK_nodup _ _ _) (diffK_nodup _ _ _)).2 fun x => ?_)
  rw [diffK_mem, diffK_mem]
  constructor
  · rintro ⟨p, hp, h1, h2⟩
    exact ⟨p, by rw [List.mem_append] at hp ⊢; exact hp.symm, h1, fun e => h2 e.symm⟩
  · rintro ⟨p, hp, h1, h2⟩
    exact ⟨p, by rw [List.mem_append] at hp ⊢; exact hp.symm, h1, fun e => h2 e.symm⟩
/-- A list does not differ from itself. -/
theorem diffL_self (l : List MFile) : diffL l l = [] := by
  unfold diffL
  have : diffK l l (l ++ l) = [] := List.eq_nil_iff_forall_not_mem.2 fun x hx => by
    obtain ⟨p, _, _, h⟩ := (diffK_mem _ _ _ _).1 hx
    exact h rfl
  rw [this]
  simp

theorem stepM_iff {l : List MFile} {i : Nat} : stepM l i = true ↔ (pathL l[i]!.path = true ∧ flagB l[i]!.flag = true) ∧ (0 < i → l[i - 1]!.path < l[i]!.path) := by
  unfold stepM
  rw [Bool.and_eq_true, Bool.and_eq_true, bytesLess_eq]
  by_cases h : 0 < i
  · simp [h]
  · simp [h]
theorem chain_pairs {l : List MFile} (h : ∀ i, i < l.length → 0 < i → l[i - 1]!.path < l[i]!.path) : l.Pairwise fun p q => p.path < q.path := by
  rw [List.pairwise_iff_getElem]
  intro i j hi hj hij
  have key : ∀ d, ∀ (hk : i + 1 + d < l.length), l[i].path < l[i + 1 + d].path := by
    intro d
    induction d with
    | zero =>
      intro hk
      have := h (i + 1) (by omega) (by omega)
      rw [getElem!_pos l (i + 1 - 1) (by omega), getElem!_pos l (i + 1) (by omega)] at this
      exact this
    | succ d ih =>
      intro hk
      have h1 := ih (by omega)
      have h2 := h (i + 1 + (d + 1)) hk (by omega)
      rw [getElem!_pos l (i + 1 + (d + 1) - 1) (by omega), getElem!_pos l (i + 1 + (d + 1)) hk] at h2
      exact List.lt_trans h1 h2
  have := key (j - (i + 1)) (by omega)
  simpa [show i + 1 + (j - (i + 1)) = j by omega] using this
theorem rightM_iff {l : List MFile} : RightM l ↔ (∀ p ∈ l, pathL p.path = true ∧ flagB p.flag = true) ∧ (l.Pairwise fun p q => p.path < q.path) ∧ ∀ p ∈ l, noDir l p.path := by
  constructor
  · rintro ⟨h1, h2⟩
    refine ⟨fun p hp => ?_, chain_pairs fun i hi h0 => (stepM_iff.1 (h1 i hi)).2 h0, fun p hp => ?_⟩
    · obtain ⟨i, hi, rfl⟩ := List.getElem_of_mem hp
      have := (stepM_iff.1 (h1 i hi)).1
      rw [getElem!_pos l i hi] at this
      exact this
    · obtain ⟨i, hi, rfl⟩ := List.getElem_of_mem hp
      have := h2 i hi
      rw [getElem!_pos l i hi] at this
      exact this
  · rintro ⟨h1, h2, h3⟩
    refine ⟨fun i hi => stepM_iff.2 ⟨?_, fun h0 => ?_⟩, fun i hi => ?_⟩
    · rw [getElem!_pos l i hi]; exact h1 _ (List.getElem_mem hi)
    · rw [getElem!_pos l i hi, getElem!_pos l (i - 1) (by omega)]
      exact List.pairwise_iff_getElem.1 h2 (i - 1) i (by omega) hi (by omega)
    · rw [getElem!_pos l i hi]; exact h3 _ (List.getElem_mem hi)
/-- Some of a right manifest's files are right. -/
theorem RightM.sub {l m : List MFile} (h : RightM l) (hs : m.Sublist l) : RightM m := by
  rw [rightM_iff] at *
  refine ⟨fun p hp => h.1 p (hs.subset hp), h.2.1.sublist hs, fun p hp j hj hc => ?_⟩
  have h1 := h.2.2 p (hs.subset hp) j hj hc
  unfold pathsM at h1 ⊢
  rw [List.any_eq_false] at h1 ⊢
  exact fun q hq => h1 q (hs.subset hq)
theorem foldK_len (l m : List MFile) : ∀ (all : List MFile) (K : List (List UInt8)), (all.foldl (stepK l m) K).length ≤ K.length + all.length
  | [], _ => by simp
  | p :: all, K => by
    have h1 := foldK_len l m all (stepK l m K p)
    have h2 := stepK_len l m K p
    rw [List.foldl_cons, List.length_cons]
    omega
theorem diffL_len (l m : List MFile) : (diffL l m).length ≤ l.length + m.length := by
  unfold diffL diffK
  rw [List.length_mergeSort]
  have := foldK_len l m (l ++ m) []
  rw [List.length_append] at this
  simpa using this
end Go.Proofs.YtifoledkmjlmoaaDoor
