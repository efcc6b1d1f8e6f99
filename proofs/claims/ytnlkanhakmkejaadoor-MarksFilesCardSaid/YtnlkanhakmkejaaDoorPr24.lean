/-
  Pairs of two arrays of 20 bytes: their cells, their '==', and slices of them that are read.
  Slices of pairs: that are read, and that the call owns.
  The law's few: the walk.
-/
import Derived.Test.YtnlkanhakmkejaaDoorCut
import Derived.Test.YtnlkanhakmkejaaDoorMix
import Derived.Deep.CutRange
import Derived.Deep.MidRow
import Derived.Laws.Rows
import Derived.Laws.Tables
import Derived.Maps.AppendAt
import Derived.DeepKeys
import Derived.WideKeyArr
import Derived.Shelf.SlicesE.Kit
import Derived.Shelf.SlicesE.Equal
import Derived.Lib.Hide
import Derived.Great.BuildSlice
import Derived.WalkSmall
namespace Go.Proofs.YtnlkanhakmkejaaDoor
open Go.RowKit Go.Mix Go.WideMaps

abbrev Id20 := { l : List UInt8 // l.length = 20 }
abbrev Pr := Id20 × Id20
def id0 : Id20 := ⟨List.replicate 20 0, by decide⟩
instance : Inhabited Id20 := ⟨id0⟩

def idc (x : Id20) : List Value := bcells x.1
def enc (p : Pr) : List Value := idc p.1 ++ idc p.2
def idA (x : Id20) : Array Value := (idc x).toArray
def encAK (p : Pr) : Array Value := (enc p).toArray
theorem idc_len (x : Id20) : (idc x).length = 20 := by unfold idc; rw [bcells_length]; exact x.2
theorem enc_len (p : Pr) : (enc p).length = 40 := by unfold enc; rw [List.length_append, idc_len, idc_len]
theorem bcells_one (l : List UInt8) : ∀ u ∈ bcells l, u.oneCell' = true := by
  intro u hu
  simp [bcells] at hu
  obtain ⟨y, _, rfl⟩ := hu
  rfl
theorem enc_one (p : Pr) : ∀ u ∈ enc p, u.oneCell' = true := fun u hu => (List.mem_append.1 hu).elim (bcells_one _ u) (bcells_one _ u)
def flat (l : List Pr) : List Value := l.flatMap enc
theorem flat_len : ∀ l : List Pr, (flat l).length = l.length * 40
  | [] => rfl
  | p :: l => by
    have := flat_len l
    unfold flat at this ⊢
    rw [List.flatMap_cons, List.length_append, this, enc_len, List.length_cons]; omega
theorem flat_append (a b : List Pr) : flat (a ++ b) = flat a ++ flat b := by unfold flat; rw [List.flatMap_append]
theorem flat_one (p : Pr) : flat [p] = enc p := by simp [flat]
theorem flat_oneCell (l : List Pr) : ∀ u ∈ flat l, u.oneCell' = true := fun u hu => by
  unfold flat at hu
  obtain ⟨p, _, hp⟩ := List.mem_flatMap.1 hu
  exact enc_one p u hp

/-! '==' -/
theorem mapM_all {α β : Type} (f : α → Option β) (g : α → β) : ∀ l : List α, (∀ x ∈ l, f x = some (g x)) → l.mapM f = some (l.map g)
  | [], _ => rfl
  | x :: l, h => by rw [List.mapM_cons, h x (by simp), mapM_all f g l fun y hy => h y (by simp [hy])]; rfl

def litsOf (l : List UInt8) : List Lit := l.map fun x => Lit.int .u8 (x.toNat : Int)
theorem arr_lits {P : Program} {k e n : Nat} (A : ArrKey P k e n) (he : P.underlying e = some (.int .u8)) (l : List UInt8) (hl : l.length = n) : P.keyLits 2 k (bcells l) = some (litsOf l) := by
  have hsize := A.size
  have hone := A.one
  unfold Program.keyLits litsOf
  rw [A.hu]
  simp only [hsize, bcells_length, hl, if_true, hone]
  rw [mapM_all (g := fun i => [Lit.int .u8 ((l.getD i 0).toNat : Int)])]
  · simp only [Option.map_some]
    congr 1
    subst hl
    have e2 : ((List.range l.length).map fun i => [Lit.int .u8 ((l.getD i 0).toNat : Int)]).flatten = (List.range l.length).map fun i => Lit.int .u8 ((l.getD i 0).toNat : Int) := by
      generalize List.range l.length = r
      induction r with
      | nil => rfl
      | cons x r ih => simp only [List.map_cons, List.flatten_cons, ih]; rfl
    rw [e2]
    refine List.ext_getElem (by simp) fun j h1 h2 => ?_
    simp at h2
    simp [h2]
  · intro i hi
    rw [List.mem_range, ← hl] at hi
    have hi2 : i < (bcells l).length := by rw [bcells_length]; exact hi
    have e3 : ((bcells l).drop (i * 1)).take 1 = [Value.int .u8 ((l.getD i 0).toNat : Int)] := by
      rw [Nat.mul_one, List.drop_eq_getElem_cons hi2, List.take_succ_cons, List.take_zero]
      simp [bcells, hi]
    rw [e3]
    unfold Program.keyLits
    rw [he]
    have h := (l.getD i 0).toNat_lt
    generalize (l.getD i 0).toNat = z at *
    have hwf : (Lit.int .u8 (z : Int)).wf = true := by simp [Lit.wf, IntKind.min, IntKind.max, IntKind.signed, IntKind.bits]; omega
    simp only [hwf, and_self, if_true]
theorem lits_inj : ∀ l m : List UInt8, litsOf l = litsOf m → l = m
  | [], [], _ => rfl
  | [], _ :: _, h => by simp [litsOf] at h
  | _ :: _, [], h => by simp [litsOf] at h
  | x :: l, y :: m, h => by
    simp only [litsOf, List.map_cons, List.cons.injEq, Lit.int.injEq, true_and] at h
    have hxy : x = y := UInt8.toNat_inj.1 (by omega)
    rw [hxy, lits_inj l m h.2]

theorem arrG : ArrKey Tryd.prog 46 5 20 := ⟨Tryd.underlying46, by kernel_rfl, by kernel_rfl, by kernel_rfl⟩
theorem arrR : ArrKey Tryd.prog 45 5 20 := ⟨Tryd.underlying45, by kernel_rfl, by kernel_rfl, by kernel_rfl⟩

/-- What '==' gives where both sides' cells are told by lists of literals. -/
theorem equalIn_lits {P : Program} {k m D : Nat} (hk : P.keyTypeAt m k = true) (hm : m ≤ 10000) {X Y : Array Value} {lx ly : List Lit} (fx : Value.formed P k (.agg X) = true) (fy : Value.formed P k (.agg Y) = true)
    (hx : P.keyLits D k X.toList = some lx) (hy : P.keyLits D k Y.toList = some ly) (w : World) : ∃ r : Bool, (Op.equalIn 10000 k (.agg X) (.agg Y)).run P w = .ok r w ∧ (r = true ↔ lx = ly) := by
  have hE := run_equalIn_deep (P := P) (10000 - m) m k hk
  obtain ⟨r, hr, hiff⟩ := hE w D D (.agg X) (.agg Y) lx ly fx fy (by simpa [Value.cells] using hx) (by simpa [Value.cells] using hy)
  refine ⟨r, ?_, hiff⟩
  rw [show 10000 - m + m = 10000 by omega] at hr
  exact hr

theorem eq_id_run {k : Nat} (A : ArrKey Tryd.prog k 5 20) (x y : Id20) (w : World) : (Op.equalIn 10000 k (.agg (idA x)) (.agg (idA y))).run Tryd.prog w = .ok (decide (x = y)) w := by
  have hf : ∀ z : Id20, Value.formed Tryd.prog k (.agg (idA z)) = true := fun z => by
    unfold Value.formed
    rw [A.hu]
    simp [A.size, idA, idc_len]
  obtain ⟨r, hr, hiff⟩ := equalIn_lits (A.at 0) (by omega) (hf x) (hf y) (D := 2) (lx := litsOf x.1) (ly := litsOf y.1) (by simpa [idA, idc] using arr_lits A Tryd.underlying5 x.1 x.2) (by simpa [idA, idc] using arr_lits A Tryd.underlying5 y.1 y.2) w
  have e : r = decide (x = y) := by
    rw [Bool.eq_iff_iff, hiff, decide_eq_true_eq]
    exact ⟨fun h => Subtype.ext (lits_inj _ _ h), fun h => by rw [h]⟩
  rw [hr, e]

/-! What 'build' lays into a row of zeros. -/
theorem foldl_placeK : ∀ (X : List Value) (off k : Nat) (C : Array Value), off + k + X.length ≤ C.size →
    ((X.zipIdx k).foldl (fun cs (c : Value × Nat) => cs.setIfInBounds (off + c.2) c.1) C).toList = C.toList.take (off + k) ++ X ++ C.toList.drop (off + k + X.length)
  | [], off, k, C, _ => by simp
  | x :: X, off, k, C, h => by
    simp only [List.length_cons] at h
    have hlt : off + k < C.toList.length := by rw [Array.length_toList]; omega
    rw [List.zipIdx_cons, List.foldl_cons, foldl_placeK X off (k + 1) _ (by rw [Array.size_setIfInBounds]; omega)]
    rw [Array.toList_setIfInBounds, List.length_cons]
    have e1 : (C.toList.set (off + k) x).take (off + (k + 1)) = C.toList.take (off + k) ++ [x] := by
      rw [show off + (k + 1) = off + k + 1 by omega, List.take_add_one, List.take_set_of_le (by omega)]
      simp [List.getElem?_set]
      simpa using hlt
    have e2 : (C.toList.set (off + k) x).drop (off + (k + 1) + X.length) = C.toList.drop (off + k + (X.length + 1)) := by
      rw [List.drop_set_of_lt (by omega), show off + (k + 1) + X.length = off + k + (X.length + 1) by omega]
    rw [e1, e2]
    simp
theorem fill_twoK {place : Nat → Option (Nat × Nat)} {C X Y : Array Value} {n m : Nat} (h0 : place 0 = some (0, n)) (h1 : place 1 = some (n, m)) (hC : C.size = n + m) (hX : X.size = n) (hY : Y.size = m) :
    Instr.fill place C [(0, .agg X), (1, .agg Y)] = some (X ++ Y) := by
  have f0 : ((X.zipIdx.foldl (fun cs (c : Value × Nat) => cs.setIfInBounds (0 + c.2) c.1) C)).toList = X.toList ++ C.toList.drop n := by
    have := foldl_placeK X.toList 0 0 C (by simp; omega)
    rw [← Array.foldl_toList, Array.toList_zipIdx, this]; simp [hX]
  have s0 : (X.zipIdx.foldl (fun cs (c : Value × Nat) => cs.setIfInBounds (0 + c.2) c.1) C).size = n + m := by
    rw [← Array.length_toList, f0]; simp [hX, hC]
  have f1 : ((Y.zipIdx.foldl (fun cs (c : Value × Nat) => cs.setIfInBounds (n + c.2) c.1) (X.zipIdx.foldl (fun cs (c : Value × Nat) => cs.setIfInBounds (0 + c.2) c.1) C))).toList = X.toList ++ Y.toList := by
    have := foldl_placeK Y.toList n 0 (X.zipIdx.foldl (fun cs (c : Value × Nat) => cs.setIfInBounds (0 + c.2) c.1) C) (by rw [s0]; simp; omega)
    rw [← Array.foldl_toList (xs := Y.zipIdx), Array.toList_zipIdx, this, f0]
    have hl : X.toList.length = n := by simpa using hX
    have hd : C.toList.length = n + m := by simpa using hC
    rw [Nat.add_zero, List.take_append_of_le_length (by omega), List.take_of_length_le (by omega), List.drop_of_length_le (by simp; omega), List.append_nil]
  have eX : (Value.agg X).cells = X := rfl
  have eY : (Value.agg Y).cells = Y := rfl
  simp only [Instr.fill, h0, h1, eX, eY, hX, hY, hC, s0, ne_eq, not_true_eq_false, decide_false, Bool.false_or, decide_eq_true_eq]
  rw [if_neg (by omega), if_neg (by omega)]
  congr 1
  exact Array.ext' (by rw [Array.toList_append]; exact f1)

/-- The types of a slice of pairs (t), of a pair (e) and of its halves (f). -/
structure PairTy (t e f : TypeId) : Prop where
  ht : Tryd.prog.underlying t = some (.slice e)
  he : ∃ f0 f1 : Field, Tryd.prog.underlying e = some (.struct #[f0, f1]) ∧ f0.type = f ∧ f1.type = f ∧ f0.offset = 0 ∧ f1.offset = 20 ∧ (f0.name != "_") = true ∧ (f1.name != "_") = true
  hf : ArrKey Tryd.prog f 5 20
  se : ∀ w : World, (sizeOf e).run Tryd.prog w = .ok 40 w
  ie : (Tryd.prog.info? e).map (·.size) = some 40
  fi : (Tryd.prog.info? f).map (·.size) = some 20
  ce : Tryd.prog.cellsOf e = 40
  ke : Tryd.prog.keyTypeAt 3 e = true
  hi : (Tryd.prog.info? e).map (fun i => (i.zero, i.size, i.bytes)) = some (some (.agg (encAK (id0, id0))), 40, 40)
  ge : Tryd.prog.eqGuardType Tryd.prog.depth e = false
  gf : Tryd.prog.eqGuardType Tryd.prog.depth f = false

theorem tyG : PairTy 26 50 46 :=
  ⟨Tryd.underlying26, ⟨_, _, Tryd.underlying50, rfl, rfl, rfl, rfl, rfl, rfl⟩, arrG, fun w => by kernel_rfl, by kernel_rfl, by kernel_rfl, by kernel_rfl, by kernel_rfl, by kernel_rfl, by kernel_rfl, by kernel_rfl⟩
theorem tyRK : PairTy 22 48 45 :=
  ⟨Tryd.underlying22, ⟨_, _, Tryd.underlying48, rfl, rfl, rfl, rfl, rfl, rfl⟩, arrR, fun w => by kernel_rfl, by kernel_rfl, by kernel_rfl, by kernel_rfl, by kernel_rfl, by kernel_rfl, by kernel_rfl, by kernel_rfl⟩

section
variable {t e f : TypeId} (T : PairTy t e f)
include T

theorem PairTy.lits (p : Pr) : Tryd.prog.keyLits 3 e (enc p) = some (litsOf p.1.1 ++ litsOf p.2.1) := by
  obtain ⟨f0, f1, hu, t0, t1, o0, o1, n0, n1⟩ := T.he
  unfold Program.keyLits
  rw [hu]
  have hl := enc_len p
  have hce := T.ce
  have h0 : ((enc p).drop 0).take 20 = bcells p.1.1 := by
    have := idc_len p.1
    unfold enc
    rw [List.drop_zero, List.take_append_of_le_length (by omega), List.take_of_length_le (by omega)]; rfl
  have h1 : ((enc p).drop 20).take 20 = bcells p.2.1 := by
    have a := idc_len p.1
    have b := idc_len p.2
    unfold enc
    rw [List.drop_append_of_le_length (by omega), List.drop_of_length_le (by omega), List.nil_append, List.take_of_length_le (by omega)]; rfl
  have hcf : Tryd.prog.cellsOf f = 20 := T.hf.size
  have g0 := arr_lits T.hf Tryd.underlying5 p.1.1 p.1.2
  have g1 := arr_lits T.hf Tryd.underlying5 p.2.1 p.2.2
  simp only [hl, hce, List.mapM_cons, List.mapM_nil, t0, t1, o0, o1, hcf, h0, h1, g0, g1]
  simp [n0, n1]

theorem PairTy.eq_run (p q : Pr) (w : World) : (Op.equalIn 10000 e (.agg (encAK p)) (.agg (encAK q))).run Tryd.prog w = .ok (decide (p = q)) w := by
  obtain ⟨f0, f1, hu, -⟩ := T.he
  have hf : ∀ z : Pr, Value.formed Tryd.prog e (.agg (encAK z)) = true := fun z => by
    unfold Value.formed
    rw [hu]
    simp [T.ce, encAK, enc_len]
  obtain ⟨r, hr, hiff⟩ := equalIn_lits T.ke (by omega) (hf p) (hf q) (D := 3) (lx := litsOf p.1.1 ++ litsOf p.2.1) (ly := litsOf q.1.1 ++ litsOf q.2.1) (by simpa [encAK] using T.lits p) (by simpa [encAK] using T.lits q) w
  have e : r = decide (p = q) := by
    rw [Bool.eq_iff_iff, hiff, decide_eq_true_eq]
    refine ⟨fun h => ?_, fun h => by rw [h]⟩
    have h2 := List.append_inj h (by simp [litsOf, p.1.2, q.1.2])
    exact Prod.ext (Subtype.ext (lits_inj _ _ h2.1)) (Subtype.ext (lits_inj _ _ h2.2))
  rw [hr, e]

theorem PairTy.eqE : EqlAt Tryd.prog e (fun x : Pr => .agg (encAK x)) (fun x y => decide (x = y)) :=
  ⟨fun x y w => by rw [run_eql_struct, T.eq_run]; rfl, GuardAt.agg _ T.ge⟩
theorem PairTy.neE : NeqAt Tryd.prog e (fun x : Pr => .agg (encAK x)) (fun x y => decide (x = y)) :=
  ⟨fun x y w => by rw [run_neq_struct, T.eq_run]; rfl, GuardAt.agg _ T.ge⟩
theorem PairTy.eqF : EqlAt Tryd.prog f (fun x : Id20 => .agg (idA x)) (fun x y => decide (x = y)) :=
  ⟨fun x y w => by rw [run_eql_struct, eq_id_run T.hf]; rfl, GuardAt.agg _ T.gf⟩

/-- 's[k]' of pairs. -/
theorem PairTy.index (b o n cap k : Nat) (hk : k < n) (w : World) : (Instr.indexAt t (.slice (some ⟨b, o, none⟩) n cap) (.int .i64 (k : Int))).run Tryd.prog w = .ok (.pointer (some ⟨b, o + k * 40, none⟩)) w := by
  have he : Tryd.prog.elem t = e := by simp [Program.elem, T.ht]
  rw [run_indexAt_slice w t _ n cap .i64 k (by rw [he]; exact T.ht), if_pos ⟨by omega, by omega⟩, he, T.se]
  simp [Result.andThen, Addr.add_lit]

theorem PairTy.load (p : Pr) (b o : Nat) (w : World) (h : w.rangeAt b o (enc p)) : (Instr.loadAt e (.pointer (some ⟨b, o, none⟩))).run Tryd.prog w = .ok (.agg (encAK p)) w := by
  obtain ⟨f0, f1, hu, -⟩ := T.he
  exact run_loadAt_mid w b o e (enc p) _ h hu rfl (by rw [enc_len]; exact T.ie)
theorem PairTy.loadId (x : Id20) (b o : Nat) (w : World) (h : w.rangeAt b o (idc x)) : (Instr.loadAt f (.pointer (some ⟨b, o, none⟩))).run Tryd.prog w = .ok (.agg (idA x)) w :=
  run_loadAt_mid w b o f (idc x) _ h T.hf.hu rfl (by rw [idc_len]; exact T.fi)

/-- 'T{x, y}' of a pair. -/
theorem PairTy.build (x y : Id20) (w : World) : (Instr.build e #[(0, .agg (idA x)), (1, .agg (idA y))]).run Tryd.prog w = .ok (.agg (encAK (x, y))) w := by
  refine run_build w e _ _ ?_
  obtain ⟨f0, f1, hu, t0, t1, o0, o1, n0, n1⟩ := T.he
  obtain ⟨i, hi, hz0, hz1, hz2⟩ := info_parts T.hi
  have hfi := T.fi
  unfold Program.built
  rw [hi, hu]
  simp only [hz0, List.mapM_cons, List.mapM_nil, t0, t1, o0, o1]
  obtain ⟨j, hj⟩ : ∃ j, Tryd.prog.info? f = some j := by cases h : Tryd.prog.info? f with | none => rw [h] at hfi; cases hfi | some j => exact ⟨j, rfl⟩
  rw [hj] at hfi ⊢
  have hjs : j.size = 20 := by simpa using hfi
  simp only [Option.map_some, Option.pure_def, Option.bind_eq_bind, Option.bind_some, hjs]
  rw [fill_twoK (n := 20) (m := 20) (by simp) (by simp) (by simp [Value.cells, encAK, enc_len]) (by simp [idA, idc_len]) (by simp [idA, idc_len])]
  simp [encAK, enc, idA]

end
end Go.Proofs.YtnlkanhakmkejaaDoor
namespace Go.Proofs.YtnlkanhakmkejaaDoor
open Go.RowKit Go.Mix Go.WideMaps

/-- A whole struct or array is read: calm. -/
theorem mix_load {P : Program} {ops : Array Oper} {Q : Act → World → Prop} {i : Nat} {r : List (Nat × Nat)} {o : Oper} {a : Act} {w : World} (ho : ops[i]? = some o) (hw : Region.wanted o (yielded ops a.tmps) = true)
    (ty : TypeId) (x : Operand) (hop : o.op = .load ty x) (V v : Value) (hx : a.eval x = V) (hl : ∀ y : Later w, (Instr.loadAt ty V).run P y.1 = .ok v y.1)
    (h : wpMix P ops Q r (a.put o.dst v) w) : wpMix P ops Q ((i, 0) :: r) a w := by
  refine mix_calm ho (fun K hK => ?_)
  unfold calmStep
  rw [if_pos hw]
  refine ⟨v, fun y => ?_, hK _ h⟩
  unfold calmAt execOp
  simp only [hop, hx, Sem.run_bind, Sem.run_pure, Result.andThen_ok, hl y]
  exact ⟨rfl, rfl⟩
theorem wpList_load_at {P : Program} {ops : Array Oper} {rest : List Oper} {o : Oper} {a : Act} {w : World} {Q : Exit → Act → World → Prop} (hgd : o.guard = none)
    (ty : TypeId) (x : Operand) (hop : o.op = .load ty x) (V v : Value) (hx : a.eval x = V) (hl : (Instr.loadAt ty V).run P w = .ok v w)
    (h : wpList P ops Q rest (a.put o.dst v) w) : wpList P ops Q (o :: rest) a w :=
  wpList_plain hgd fun _ hK => by
    unfold Oper.wp execOp
    simp only [hop, hx, Sem.run_bind, Sem.run_pure, Result.andThen_ok, hl]
    exact hK _ _ h

theorem parts_mapK {a : Act} {ps : Array (Nat × Operand)} {PS : List (Nat × Value)} (hx : (ps.toList.map fun p => (p.1, a.eval p.2)) = PS) : (ps.map fun (i, x) => (i, a.eval x)) = PS.toArray :=
  Array.ext' (by rw [Array.toList_map]; exact hx)
theorem mix_build {P : Program} {ops : Array Oper} {Q : Act → World → Prop} {i : Nat} {r : List (Nat × Nat)} {o : Oper} {a : Act} {w : World} (ho : ops[i]? = some o) (hw : Region.wanted o (yielded ops a.tmps) = true)
    (ty : TypeId) (ps : Array (Nat × Operand)) (hop : o.op = .build ty ps) (PS : List (Nat × Value)) (v : Value) (hx : (ps.toList.map fun p => (p.1, a.eval p.2)) = PS) (hl : ∀ y : World, (Instr.build ty PS.toArray).run P y = .ok v y)
    (h : wpMix P ops Q r (a.put o.dst v) w) : wpMix P ops Q ((i, 0) :: r) a w := by
  refine mix_calm ho (fun K hK => ?_)
  unfold calmStep
  rw [if_pos hw]
  refine ⟨v, fun y => ?_, hK _ h⟩
  unfold calmAt execOp
  simp only [hop, parts_mapK hx, Sem.run_bind, Sem.run_pure, Result.andThen_ok, hl y.1]
  exact ⟨rfl, rfl⟩
theorem wpList_build_at {P : Program} {ops : Array Oper} {rest : List Oper} {o : Oper} {a : Act} {w : World} {Q : Exit → Act → World → Prop} (hgd : o.guard = none)
    (ty : TypeId) (ps : Array (Nat × Operand)) (hop : o.op = .build ty ps) (PS : List (Nat × Value)) (v : Value) (hx : (ps.toList.map fun p => (p.1, a.eval p.2)) = PS) (hl : (Instr.build ty PS.toArray).run P w = .ok v w)
    (h : wpList P ops Q rest (a.put o.dst v) w) : wpList P ops Q (o :: rest) a w :=
  wpList_plain hgd fun _ hK => by
    unfold Oper.wp execOp
    simp only [hop, parts_mapK hx, Sem.run_bind, Sem.run_pure, Result.andThen_ok, hl]
    exact hK _ _ h
theorem wpList_buildSlice_at {P : Program} {ops : Array Oper} {rest : List Oper} {o : Oper} {a : Act} {w w' : World} {Q : Exit → Act → World → Prop} (hgd : o.guard = none)
    (ty : TypeId) (n : Nat) (ps : Array (Nat × Operand)) (hop : o.op = .buildSlice ty n ps) (PS : List (Nat × Value)) (v : Value) (hx : (ps.toList.map fun p => (p.1, a.eval p.2)) = PS) (hl : (Instr.buildSlice ty n PS.toArray).run P w = .ok v w')
    (h : wpList P ops Q rest (a.put o.dst v) w') : wpList P ops Q (o :: rest) a w :=
  wpList_plain hgd fun _ hK => by
    unfold Oper.wp execOp
    simp only [hop, parts_mapK hx, Sem.run_bind, Sem.run_pure, Result.andThen_ok, hl]
    exact hK _ _ h

theorem block_below {w w' : World} {P : Nat} {o : Obj} (h : w.heap[P]? = some o) (g : Below w.heap.size w w') : w'.heap[P]? = some o := (g.block P (lt_of_block h)).trans h
theorem range_below {w w' : World} {b o : Nat} {cs : List Value} (h : w.rangeAt b o cs) (g : Below w.heap.size w w') : w'.rangeAt b o cs := fun j v hv =>
  (g.cell (p := ⟨b, o + j, none⟩) (lt_of_cell (h j v hv))).trans (h j v hv)
theorem below_drewN {B : Nat} {a w : World} (h : Below B a w) (q : Nat) : Below B a (w.drewN q) := ⟨h.os, h.tape, h.output, h.size, h.block⟩

/-- The slice at a, of the capacity cap, reads as the pairs l. -/
structure PsAt (w : World) (a : Option Addr) (cap : Nat) (l : List Pr) : Prop where
  le : l.length ≤ cap
  big : cap ≤ 9223372036854775807
  non : a = none → cap = 0
  cells : l = [] ∨ ∃ b o, a = some ⟨b, o, none⟩ ∧ ∀ j, j < l.length → w.rangeAt b (o + j * 40) (enc l[j]!)

theorem PsAt.below {w w' : World} {a : Option Addr} {cap : Nat} {l : List Pr} (h : PsAt w a cap l) (g : Below w.heap.size w w') : PsAt w' a cap l :=
  ⟨h.le, h.big, h.non, h.cells.imp id fun ⟨b, o, e, hc⟩ => ⟨b, o, e, fun j hj => range_below (hc j hj) g⟩⟩
theorem PsAt.take {w : World} {a : Option Addr} {cap : Nat} {l : List Pr} (h : PsAt w a cap l) (k : Nat) : PsAt w a cap (l.take k) := by
  refine ⟨by have := h.le; simp; omega, h.big, h.non, ?_⟩
  rcases h.cells with rfl | ⟨b, o, e, hc⟩
  · exact .inl (by simp)
  · refine .inr ⟨b, o, e, fun j hj => ?_⟩
    have h1 : j < l.length := by simp at hj; omega
    have := hc j h1
    rw [getElem!_pos l j h1] at this
    rw [getElem!_pos _ j hj, List.getElem_take]; exact this
theorem PsAt.nil (w : World) : PsAt w none 0 [] := ⟨Nat.le_refl _, by decide, fun _ => rfl, .inl rfl⟩

theorem rangeAt_append {w : World} {b o : Nat} {x y : List Value} : w.rangeAt b o (x ++ y) ↔ w.rangeAt b o x ∧ w.rangeAt b (o + x.length) y := by
  refine ⟨fun h => ⟨fun j v hj => h j v ?_, fun j v hj => ?_⟩, fun ⟨h1, h2⟩ j v hj => ?_⟩
  · have hl : j < x.length := (List.getElem?_eq_some_iff.1 hj).1
    rw [List.getElem?_append_left hl]; exact hj
  · have := h (x.length + j) v (by rw [List.getElem?_append_right (by omega), Nat.add_sub_cancel_left]; exact hj)
    rw [← Nat.add_assoc] at this; exact this
  · rcases Nat.lt_or_ge j x.length with hl | hl
    · exact h1 j v (by rw [List.getElem?_append_left hl] at hj; exact hj)
    · have := h2 (j - x.length) v (by rw [List.getElem?_append_right hl] at hj; exact hj)
      rw [show o + x.length + (j - x.length) = o + j by omega] at this; exact this
theorem rangeAt_enc {w : World} {b o : Nat} {p : Pr} : w.rangeAt b o (enc p) ↔ w.rangeAt b o (idc p.1) ∧ w.rangeAt b (o + 20) (idc p.2) := by
  unfold enc; rw [rangeAt_append, idc_len]
theorem rangeAt_flat {w : World} {b : Nat} : ∀ (l : List Pr) (o : Nat), w.rangeAt b o (flat l) ↔ ∀ j, j < l.length → w.rangeAt b (o + j * 40) (enc l[j]!)
  | [], o => ⟨fun _ j hj => by simp at hj, fun _ j v hj => by simp [flat] at hj⟩
  | p :: l, o => by
    have e : flat (p :: l) = enc p ++ flat l := by simp [flat]
    rw [e, rangeAt_append, enc_len, rangeAt_flat l (o + 40)]
    refine ⟨fun ⟨h0, h⟩ j hj => ?_, fun h => ⟨by simpa using h 0 (by simp), fun j hj => ?_⟩⟩
    · cases j with
      | zero => simpa using h0
      | succ j =>
        have := h j (by simp at hj; omega)
        rw [show o + (j + 1) * 40 = o + 40 + j * 40 by omega]
        simpa using this
    · have := h (j + 1) (by simp; omega)
      rw [show o + 40 + j * 40 = o + (j + 1) * 40 by omega]
      simpa using this

/-- Where pair k lies: its index, its loads. -/
theorem PsAt.at {w : World} {a : Option Addr} {cap : Nat} {l : List Pr} (h : PsAt w a cap l) {t e f : TypeId} (T : PairTy t e f) (ki : Int) (k : Nat) (hki : ki = (k : Int)) (hk : k < l.length) :
    ∃ b q, (∀ W : World, (Instr.indexAt t (.slice a l.length cap) (.int .i64 ki)).run Tryd.prog W = .ok (.pointer (some ⟨b, q, none⟩)) W) ∧
      (∀ W : World, Below w.heap.size w W → (Instr.loadAt e (.pointer (some ⟨b, q, none⟩))).run Tryd.prog W = .ok (.agg (encAK l[k]!)) W) ∧
      (∀ W : World, Below w.heap.size w W → (Instr.loadAt f (.pointer (some ⟨b, q, none⟩))).run Tryd.prog W = .ok (.agg (idA l[k]!.1)) W) ∧
      (∀ W : World, Below w.heap.size w W → (Instr.loadAt f (.pointer (some ⟨b, q + 20, none⟩))).run Tryd.prog W = .ok (.agg (idA l[k]!.2)) W) := by
  subst hki
  rcases h.cells with rfl | ⟨b, o, rfl, hc⟩
  · simp at hk
  · have hr := hc k hk
    have hr2 := rangeAt_enc.1 hr
    exact ⟨b, o + k * 40, fun W => T.index b o l.length cap k hk W, fun W g => T.load _ b _ W (range_below hr g), fun W g => T.loadId _ b _ W (range_below hr2.1 g), fun W g => T.loadId _ b _ W (range_below hr2.2 g)⟩

/-- v holds the pairs l, in a block that was not there in w0; what was there in w0 is as it was. -/
structure OwnP (e : TypeId) (w0 w : World) (v : Value) (l : List Pr) : Prop where
  own : w.ownsRow w0.heap.size e 40 v l.length (flat l)
  frame : Below w0.heap.size w0 w

section
variable {e : TypeId} {w0 w w' : World} {v v' : Value} {l : List Pr}

theorem OwnP.nil (h : Below w0.heap.size w0 w) : OwnP e w0 w (.slice none 0 0) [] := ⟨World.ownsRow_nil _ _ _ _, h⟩
theorem OwnP.later (h : OwnP e w0 w v l) (g : Below w.heap.size w w') : OwnP e w0 w' v l :=
  ⟨World.ownsRow.kept h.own (row := none) ⟨g.os, g.tape, g.output, g.size, fun k hk _ => g.block k hk⟩ (by cases hv : v.ownBlock <;> simp), h.frame.trans (g.mono h.frame.size)⟩
theorem OwnP.ps (h : OwnP e w0 w v l) : ∃ a c, v = .slice a l.length c ∧ PsAt w a c l := by
  rcases h.own.2 with ⟨rfl, h0⟩ | ⟨g, cap, cur, rfl, _, hh, hn, hm, _, ht⟩
  · have e0 := List.eq_nil_of_length_eq_zero h0
    subst e0
    exact ⟨none, 0, rfl, PsAt.nil w⟩
  · unfold maxLen at hm
    refine ⟨some ⟨g, 0, none⟩, cap, rfl, hn, by omega, (fun h => nomatch h), .inr ⟨g, 0, rfl, (rangeAt_flat l 0).1 fun j u hj => ?_⟩⟩
    have hjl : j < (flat l).length := (List.getElem?_eq_some_iff.1 hj).1
    have hfl := flat_len l
    have h2 : (cur.toList.take (l.length * 40))[j]? = (flat l)[j]? := by rw [ht]
    rw [List.getElem?_take, if_pos (by omega), hj] at h2
    simp only [World.cell?, hh, Nat.zero_add]
    simpa using h2
theorem OwnP.block (h : OwnP e w0 w v l) : ∀ g, v.ownBlock = some g → w0.heap.size ≤ g ∧ g < w.heap.size := fun g hg => World.ownsRow.lt h.own g hg
end

/-- A pair in a block of its own. -/
theorem PsAt.one (w : World) (e : TypeId) (p : Pr) : PsAt (w.alloc (.cells (encAK p) e)) (some ⟨w.heap.size, 0, none⟩) 1 [p] := by
  refine ⟨Nat.le_refl _, by decide, (fun h => nomatch h), .inr ⟨_, 0, rfl, fun j hj => ?_⟩⟩
  obtain rfl : j = 0 := by simpa using hj
  intro i v hi
  have hb : (w.alloc (.cells (encAK p) e)).heap[w.heap.size]? = some (.cells (encAK p) e (0, 0)) := heap_alloc_last w _ _ rfl
  rw [show 0 + 0 * 40 + i = i by omega, cell_of_row _ _ _ _ _ _ hb]
  simpa [encAK] using hi

/-- 'append' of pairs onto pairs of the call's own. -/
theorem wpList_append_p {t e f : TypeId} (T : PairTy t e f) {w0 w : World} {ops : Array Oper} {rest : List Oper} {o : Oper} {a : Act} {Q : Exit → Act → World → Prop} (hgd : o.guard = none) (s x : Operand)
    (ho : o.op = .call { callee := .builtin .append, args := #[s, x], argTypes := #[t, t] })
    (v : Value) (xs : List Pr) (hs : a.eval s = v) (hR : OwnP e w0 w v xs) (ad : Option Addr) (n c : Nat) (ys : List Pr) (hx : a.eval x = .slice ad n c) (hn : n = ys.length) (hy : PsAt w ad c ys)
    (hlen : xs.length + ys.length ≤ 1000000000000)
    (h : ∀ v' w', OwnP e w0 w' v' (xs ++ ys) → w.grownBy w' v.ownBlock → (v' = .slice none 0 0 ↔ v = .slice none 0 0 ∧ n = 0) → wpList Tryd.prog ops Q rest (a.put o.dst v') w') : wpList Tryd.prog ops Q (o :: rest) a w := by
  subst hn
  obtain ⟨i, hi, hz0, hz1, hz2⟩ := info_parts T.hi
  have hF := hR.frame
  rcases hy.cells with rfl | ⟨b, off, rfl, hc⟩
  · cases ad with
    | none =>
      obtain rfl := hy.non rfl
      refine wpList_append_own_none hgd s x t ho w0.heap.size e i 40 T.ht (by rw [hi]) v _ _ hs hR.own (by simpa using hx) ?_
      exact h v w (by rw [List.append_nil]; exact hR) ⟨rfl, rfl, rfl, Nat.le_refl _, fun _ _ _ => rfl⟩ (by simp)
    | some ad =>
      refine wpList_append_own_at w hgd s x t ho w0.heap.size e i _ 40 40 T.ht hi hz0 hz1 hz2 (by simp [Value.cells, encAK, enc_len]) (by decide) v xs.length (flat xs) hs hR.own ad 0 c [] hx (by simp) (by simp) (by simp) (by unfold maxLen; omega) (by omega) hF.size ?_
      intro v' w' h1 h2 h3 _
      refine h v' w' ⟨by rw [List.append_nil] at h1 ⊢; exact h1, ?_⟩ h2 h3
      exact ⟨h2.os.trans hF.os, h2.tape.trans hF.tape, h2.output.trans hF.output, Nat.le_trans hF.size h2.size, fun k hk => (h2.block k (Nat.lt_of_lt_of_le hk hF.size) (fun e => by have := (hR.block k e.symm).1; omega)).trans (hF.block k hk)⟩
  · refine wpList_append_own_at w hgd s x t ho w0.heap.size e i _ 40 40 T.ht hi hz0 hz1 hz2 (by simp [Value.cells, encAK, enc_len]) (by decide) v xs.length (flat xs) hs hR.own _ ys.length c (flat ys) hx (by rw [flat_len]) (fun j u hj => ?_) (flat_oneCell ys) (by unfold maxLen; omega) (by omega) hF.size ?_
    · rw [Addr.add_mid]; exact (rangeAt_flat ys off).2 hc j u hj
    · intro v' w' h1 h2 h3 _
      refine h v' w' ⟨by rw [List.length_append, flat_append]; exact h1, ?_⟩ h2 h3
      exact ⟨h2.os.trans hF.os, h2.tape.trans hF.tape, h2.output.trans hF.output, Nat.le_trans hF.size h2.size, fun k hk => (h2.block k (Nat.lt_of_lt_of_le hk hF.size) (fun e => by have := (hR.block k e.symm).1; omega)).trans (hF.block k hk)⟩

theorem fill_one {place : Nat → Option (Nat × Nat)} {C X : Array Value} {n : Nat} (h0 : place 0 = some (0, n)) (hC : C.size = n) (hX : X.size = n) : Instr.fill place C [(0, .agg X)] = some X := by
  have eX : (Value.agg X).cells = X := rfl
  have f0 : ((X.zipIdx.foldl (fun cs (c : Value × Nat) => cs.setIfInBounds (0 + c.2) c.1) C)).toList = X.toList := by
    have := foldl_placeK X.toList 0 0 C (by simp; omega)
    rw [← Array.foldl_toList, Array.toList_zipIdx, this]; simp [hX, hC]
  simp only [Instr.fill, h0, eX, hX, hC, ne_eq, not_true_eq_false, decide_false, Bool.false_or, decide_eq_true_eq]
  rw [if_neg (by omega)]
  congr 1
  exact Array.ext' f0

/-- 'T{p}' of a slice type, one pair long. -/
theorem PairTy.one {t e f : TypeId} (T : PairTy t e f) (p : Pr) (w : World) : (Instr.buildSlice t 1 #[(0, .agg (encAK p))]).run Tryd.prog w = .ok (.slice (some ⟨w.heap.size, 0, none⟩) 1 1) (w.alloc (.cells (encAK p) e)) := by
  obtain ⟨i, hi, hz0, hz1, hz2⟩ := info_parts T.hi
  refine run_buildSlice w t e 1 _ _ i _ T.ht hi hz0 (by rw [hz1]; decide) (by rw [hz1]; decide) (fill_one (n := 40) (by simp [hz1]) (by simp [hz1]) (by simp [encAK, enc_len]))
end Go.Proofs.YtnlkanhakmkejaaDoor
namespace Go.Proofs.YtnlkanhakmkejaaDoor
open Go.RowKit Go.Mix Go.WideMaps

theorem take_succ {l : List Pr} {i : Nat} (h : i < l.length) : l.take (i + 1) = l.take i ++ [l[i]!] := by
  rw [List.take_add_one, List.getElem?_eq_getElem h, getElem!_pos l i h]; rfl

set_option maxRecDepth 100000 in
set_option maxHeartbeats 2000000 in
theorem few_anyK {w : World} {l : List Pr} {a : Option Addr} {cap : Nat} (hg : PsAt w a cap l) :
    Calls Tryd.prog 5 #[.slice a l.length cap] w fun e w' => ∃ v, e = .returned v ∧ OwnP 50 w w' v (l.take 40) := by
  obtain ⟨n, hn⟩ : ∃ n, n = l.length := ⟨_, rfl⟩
  have HN := Lib.hid hn
  have HG := Lib.hid hg
  rw [← hn]
  obtain ⟨m, hm⟩ : ∃ m, m = min n 40 := ⟨_, rfl⟩
  clear hn hg
  have hF0 : Below w.heap.size w w := Below.refl _ _
  go_enter Tryd.func5, Tryd.ntmps5
  go_wp2_with fail
  go_loopw [3, 4] (fun s3 s4 wr => ∃ i : Nat, s4 = .int .i64 (i : Int) ∧ i ≤ m ∧ OwnP 50 w wr s3 (l.take i)) (fun _ s4 _ => m - (intOf s4).toNat)
  case atStart => exact ⟨0, rfl, Nat.zero_le _, OwnP.nil hF0⟩
  case round =>
    obtain ⟨i, rfl, hi, hrow⟩ := hrel
    by_cases him : i < m
    · have t1 : decide ((i : Int) < (n : Int)) = true := decide_eq_true (by omega)
      have t1' : decide (i < n) = true := decide_eq_true (by omega)
      have t2 : decide ((i : Int) < 40) = true := decide_eq_true (by omega)
      have t2' : decide (i < 40) = true := decide_eq_true (by omega)
      have hil : i < l.length := by rw [← HN.out]; omega
      obtain ⟨b, q, IX, -, L0, L1⟩ := (HG.out.below hrow.frame).at tyRK (i : Int) i rfl hil
      rw [← HN.out] at IX
      have L0' : ∀ y : Later wr, (Instr.loadAt 45 (.pointer (some ⟨b, q, none⟩))).run Tryd.prog y.1 = .ok (.agg (idA l[i]!.1)) y.1 := fun y => L0 y.1 y.2
      have L1' : ∀ y : Later wr, (Instr.loadAt 45 (.pointer (some ⟨b, q + 20, none⟩))).run Tryd.prog y.1 = .ok (.agg (idA l[i]!.2)) y.1 := fun y => L1 y.1 y.2
      have B := fun W : World => tyG.build l[i]!.1 l[i]!.2 W
      have B1 := fun W : World => tyG.one (l[i]!.1, l[i]!.2) W
      have HS := Lib.hid (take_succ hil)
      have HL := Lib.hid (show (l.take i).length ≤ 40 by rw [List.length_take]; omega)
      clear L0 L1
      generalize l[i]! = p at *
      generalize l.take i = xs at *
      obtain ⟨x, y⟩ := p
      simp only [] at L0' L1' B B1
      clear hil
      go_upto_region 5 with (fail)
      refine wp_region_mix [(0, 0), (1, 0), (2, 0), (3, 0), (4, 0), (5, 0), (6, 0), (7, 0), (8, 0), (9, 0), (10, 0), (11, 0), (12, 1), (13, 2), (14, 0)] (by kernel_rfl) (by kernel_rfl) ?_
      iterate 5 (refine mix_calm rfl (fun K hK => ?_); go_simp; (refine hK _ ?_; clear hK K))
      refine mix_load rfl rfl _ _ rfl _ _ rfl L0' ?_
      iterate 4 (refine mix_calm rfl (fun K hK => ?_); go_simp; (refine hK _ ?_; clear hK K))
      refine mix_load rfl rfl _ _ rfl _ _ rfl L1' ?_
      refine mix_build rfl rfl _ _ rfl [(0, .agg (idA x)), (1, .agg (idA y))] _ rfl B ?_
      refine mix_loud rfl rfl (fun w8 hw8 K hK => ?_)
      have hrow8 := hrow.later hw8
      refine wpList_buildSlice_at rfl _ _ _ rfl [(0, .agg (encAK (x, y)))] _ rfl (B1 w8) ?_
      refine hK _ _ ((Below.refl _ _).alloc (Nat.le_refl _) _) ?_
      clear hK K
      have hp9 := PsAt.one w8 50 (x, y)
      have hrow9 := hrow8.later ((Below.refl _ _).alloc (Nat.le_refl _) (.cells (encAK (x, y)) 50))
      generalize w8.alloc (.cells (encAK (x, y)) 50) = w9 at *
      clear L0' L1' IX B B1 hrow hrow8 hw8
      refine mix_sync rfl rfl (fun w10 hw10 K hK => ?_)
      have hrow10 := hrow9.later hw10
      have hp10 := hp9.below hw10
      clear hrow9 hp9 hw10
      refine wpList_append_p tyG rfl (.tmp 15) (.tmp 27) rfl _ xs rfl hrow10 (some ⟨w8.heap.size, 0, none⟩) 1 1 [(x, y)] rfl rfl hp10 (by have := HL.out; simp; omega) ?_
      intro v5 w5 hb5 hgr5 hgr0
      rw [← HS.out] at hb5
      clear hgr5 hgr0 hrow10 hp10
      go_wp2_with fail
      iterate 1 (refine mix_calm rfl (fun K hK => ?_); go_simp; (refine hK _ ?_; clear hK K))
      refine mix_nil fun w12 hw12 => ?_
      have hb12 := hb5.later hw12
      clear hb5 hw12
      go_wp2_with fail
      go_roundw
      case rel => exact ⟨i + 1, by go_num, by omega, hb12⟩
      case measure => simp [intOf]; omega
    · obtain rfl : i = m := by omega
      have e : l.take i = l.take 40 := by
        rw [hm, HN.out]
        rcases Nat.lt_or_ge l.length 40 with h | h
        · rw [show min l.length 40 = l.length by omega, List.take_of_length_le (Nat.le_refl _), List.take_of_length_le (by omega)]
        · rw [show min l.length 40 = 40 by omega]
      have hres := hrow
      rw [e] at hres
      have HRES := Lib.hid hres
      clear hres hrow
      by_cases hin : i < n
      · have t1 : decide ((i : Int) < (n : Int)) = true := decide_eq_true (by omega)
        have t1' : decide (i < n) = true := decide_eq_true hin
        have t2 : decide ((i : Int) < 40) = false := decide_eq_false (by omega)
        have t2' : decide (i < 40) = false := decide_eq_false (by omega)
        go_wp2_with fail
        go_ret
        exact ⟨_, rfl, HRES.out⟩
      · have t1 : decide ((i : Int) < (n : Int)) = false := decide_eq_false (by omega)
        have t1' : decide (i < n) = false := decide_eq_false hin
        go_wp2_with fail
        go_ret
        exact ⟨_, rfl, HRES.out⟩
end Go.Proofs.YtnlkanhakmkejaaDoor
