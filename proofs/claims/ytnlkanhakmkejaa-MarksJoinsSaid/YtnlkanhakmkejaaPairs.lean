/-
  Pairs of two arrays of 20 bytes: their cells, their '==', and slices of them that are read.
-/
import Derived.Test.YtnlkanhakmkejaaCut
import Derived.Test.YtnlkanhakmkejaaMix
import Derived.Deep.CutRange
import Derived.Deep.MidRow
import Derived.Laws.Rows
import Derived.Laws.Tables
import Derived.Maps.AppendAt
import Derived.DeepKeys
import Derived.WideKeyArr
import Derived.Shelf.SlicesE.Kit
import Derived.Shelf.SlicesE.Equal
namespace Go.Proofs.Ytnlkanhakmkejaa
open Go.RowKit Go.Mix Go.WideMaps

abbrev Id20 := { l : List UInt8 // l.length = 20 }
abbrev Pr := Id20 × Id20
def id0 : Id20 := ⟨List.replicate 20 0, by decide⟩
instance : Inhabited Id20 := ⟨id0⟩

def idc (x : Id20) : List Value := bcells x.1
def enc (p : Pr) : List Value := idc p.1 ++ idc p.2
def idA (x : Id20) : Array Value := (idc x).toArray
def encA (p : Pr) : Array Value := (enc p).toArray
theorem idc_len (x : Id20) : (idc x).length = 20 := by unfold idc; rw [bcells_length]; exact x.2
theorem enc_len (p : Pr) : (enc p).length = 40 := by unfold enc; rw [List.length_append, idc_len, idc_len]
theorem bcells_one (l : List UInt8) : ∀ u ∈ bcells l, u.oneCell' = true := by
  intro u hu
  simp [bcells] at hu
  obtain ⟨y, _, rfl⟩ := hu
  rfl
theorem enc_one (p : Pr) : ∀ u ∈ enc p, u.oneCell' = true := fun u hu => (List.mem_append.1 hu).elim (bcells_one _ u) (bcells_one _ u)
def flat (l : List Pr) : List Value := l.flatMap enc
theorem flat_len : ∀ l : List Pr, (flat l).length = l.length * 40
  | [] => rfl
  | p :: l => by
    have := flat_len l
    unfold flat at this ⊢
    rw [List.flatMap_cons, List.length_append, this, enc_len, List.length_cons]; omega
theorem flat_append (a b : List Pr) : flat (a ++ b) = flat a ++ flat b := by unfold flat; rw [List.flatMap_append]
theorem flat_one (p : Pr) : flat [p] = enc p := by simp [flat]
theorem flat_oneCell (l : List Pr) : ∀ u ∈ flat l, u.oneCell' = true := fun u hu => by
  unfold flat at hu
  obtain ⟨p, _, hp⟩ := List.mem_flatMap.1 hu
  exact enc_one p u hp

/-! '==' -/
theorem mapM_all {α β : Type} (f : α → Option β) (g : α → β) : ∀ l : List α, (∀ x ∈ l, f x = some (g x)) → l.mapM f = some (l.map g)
  | [], _ => rfl
  | x :: l, h => by rw [List.mapM_cons, h x (by simp), mapM_all f g l fun y hy => h y (by simp [hy])]; rfl

def litsOf (l : List UInt8) : List Lit := l.map fun x => Lit.int .u8 (x.toNat : Int)
theorem arr_lits {P : Program} {k e n : Nat} (A : ArrKey P k e n) (he : P.underlying e = some (.int .u8)) (l : List UInt8) (hl : l.length = n) : P.keyLits 2 k (bcells l) = some (litsOf l) := by
  have hsize := A.size
  have hone := A.one
  unfold Program.keyLits litsOf
  rw [A.hu]
  simp only [hsize, bcells_length, hl, if_true, hone]
  rw [mapM_all (g := fun i => [Lit.int .u8 ((l.getD i 0).toNat : Int)])]
  · simp only [Option.map_some]
    congr 1
    subst hl
    have e2 : ((List.range l.length).map fun i => [Lit.int .u8 ((l.getD i 0).toNat : Int)]).flatten = (List.range l.length).map fun i => Lit.int .u8 ((l.getD i 0).toNat : Int) := by
      generalize List.range l.length = r
      induction r with
      | nil => rfl
      | cons x r ih => simp only [List.map_cons, List.flatten_cons, ih]; rfl
    rw [e2]
    refine List.ext_getElem (by simp) fun j h1 h2 => ?_
    simp at h2
    simp [h2]
  · intro i hi
    rw [List.mem_range, ← hl] at hi
    have hi2 : i < (bcells l).length := by rw [bcells_length]; exact hi
    have e3 : ((bcells l).drop (i * 1)).take 1 = [Value.int .u8 ((l.getD i 0).toNat : Int)] := by
      rw [Nat.mul_one, List.drop_eq_getElem_cons hi2, List.take_succ_cons, List.take_zero]
      simp [bcells, hi]
    rw [e3]
    unfold Program.keyLits
    rw [he]
    have h := (l.getD i 0).toNat_lt
    generalize (l.getD i 0).toNat = z at *
    have hwf : (Lit.int .u8 (z : Int)).wf = true := by simp [Lit.wf, IntKind.min, IntKind.max, IntKind.signed, IntKind.bits]; omega
    simp only [hwf, and_self, if_true]
theorem lits_inj : ∀ l m : List UInt8, litsOf l = litsOf m → l = m
  | [], [], _ => rfl
  | [], _ :: _, h => by simp [litsOf] at h
  | _ :: _, [], h => by simp [litsOf] at h
  | x :: l, y :: m, h => by
    simp only [litsOf, List.map_cons, List.cons.injEq, Lit.int.injEq, true_and] at h
    have hxy : x = y := UInt8.toNat_inj.1 (by omega)
    rw [hxy, lits_inj l m h.2]

theorem arrG : ArrKey Try.prog 30 5 20 := ⟨Try.underlying30, by kernel_rfl, by kernel_rfl, by kernel_rfl⟩
theorem arrR : ArrKey Try.prog 29 5 20 := ⟨Try.underlying29, by kernel_rfl, by kernel_rfl, by kernel_rfl⟩

/-- What '==' gives where both sides' cells are told by lists of literals. -/
theorem equalIn_lits {P : Program} {k m D : Nat} (hk : P.keyTypeAt m k = true) (hm : m ≤ 10000) {X Y : Array Value} {lx ly : List Lit} (fx : Value.formed P k (.agg X) = true) (fy : Value.formed P k (.agg Y) = true)
    (hx : P.keyLits D k X.toList = some lx) (hy : P.keyLits D k Y.toList = some ly) (w : World) : ∃ r : Bool, (Op.equalIn 10000 k (.agg X) (.agg Y)).run P w = .ok r w ∧ (r = true ↔ lx = ly) := by
  have hE := run_equalIn_deep (P := P) (10000 - m) m k hk
  obtain ⟨r, hr, hiff⟩ := hE w D D (.agg X) (.agg Y) lx ly fx fy (by simpa [Value.cells] using hx) (by simpa [Value.cells] using hy)
  refine ⟨r, ?_, hiff⟩
  rw [show 10000 - m + m = 10000 by omega] at hr
  exact hr

theorem eq_id_run {k : Nat} (A : ArrKey Try.prog k 5 20) (x y : Id20) (w : World) : (Op.equalIn 10000 k (.agg (idA x)) (.agg (idA y))).run Try.prog w = .ok (decide (x = y)) w := by
  have hf : ∀ z : Id20, Value.formed Try.prog k (.agg (idA z)) = true := fun z => by
    unfold Value.formed
    rw [A.hu]
    simp [A.size, idA, idc_len]
  obtain ⟨r, hr, hiff⟩ := equalIn_lits (A.at 0) (by omega) (hf x) (hf y) (D := 2) (lx := litsOf x.1) (ly := litsOf y.1) (by simpa [idA, idc] using arr_lits A Try.underlying5 x.1 x.2) (by simpa [idA, idc] using arr_lits A Try.underlying5 y.1 y.2) w
  rw [hr]
  congr 1
  rw [Bool.eq_iff_iff, hiff, decide_eq_true_eq]
  exact ⟨fun h => Subtype.ext (lits_inj _ _ h), fun h => by rw [h]⟩

/-! What 'build' lays into a row of zeros. -/
theorem foldl_place : ∀ (X : List Value) (off k : Nat) (C : Array Value), off + k + X.length ≤ C.size →
    ((X.zipIdx k).foldl (fun cs (c : Value × Nat) => cs.setIfInBounds (off + c.2) c.1) C).toList = C.toList.take (off + k) ++ X ++ C.toList.drop (off + k + X.length)
  | [], off, k, C, _ => by simp
  | x :: X, off, k, C, h => by
    simp only [List.length_cons] at h
    have hlt : off + k < C.toList.length := by rw [Array.length_toList]; omega
    rw [List.zipIdx_cons, List.foldl_cons, foldl_place X off (k + 1) _ (by rw [Array.size_setIfInBounds]; omega)]
    rw [Array.toList_setIfInBounds, List.length_cons]
    have e1 : (C.toList.set (off + k) x).take (off + (k + 1)) = C.toList.take (off + k) ++ [x] := by
      rw [show off + (k + 1) = off + k + 1 by omega, List.take_add_one, List.take_set_of_le (by omega)]
      simp [List.getElem?_set]
      simpa using hlt
    have e2 : (C.toList.set (off + k) x).drop (off + (k + 1) + X.length) = C.toList.drop (off + k + (X.length + 1)) := by
      rw [List.drop_set_of_lt (by omega), show off + (k + 1) + X.length = off + k + (X.length + 1) by omega]
    rw [e1, e2]
    simp
theorem fill_two {place : Nat → Option (Nat × Nat)} {C X Y : Array Value} {n m : Nat} (h0 : place 0 = some (0, n)) (h1 : place 1 = some (n, m)) (hC : C.size = n + m) (hX : X.size = n) (hY : Y.size = m) :
    Instr.fill place C [(0, .agg X), (1, .agg Y)] = some (X ++ Y) := by
  have f0 : ((X.zipIdx.foldl (fun cs (c : Value × Nat) => cs.setIfInBounds (0 + c.2) c.1) C)).toList = X.toList ++ C.toList.drop n := by
    have := foldl_place X.toList 0 0 C (by simp; omega)
    rw [← Array.foldl_toList, Array.toList_zipIdx, this]; simp [hX]
  have s0 : (X.zipIdx.foldl (fun cs (c : Value × Nat) => cs.setIfInBounds (0 + c.2) c.1) C).size = n + m := by
    rw [← Array.length_toList, f0]; simp [hX, hC]
  have f1 : ((Y.zipIdx.foldl (fun cs (c : Value × Nat) => cs.setIfInBounds (n + c.2) c.1) (X.zipIdx.foldl (fun cs (c : Value × Nat) => cs.setIfInBounds (0 + c.2) c.1) C))).toList = X.toList ++ Y.toList := by
    have := foldl_place Y.toList n 0 (X.zipIdx.foldl (fun cs (c : Value × Nat) => cs.setIfInBounds (0 + c.2) c.1) C) (by rw [s0]; simp; omega)
    rw [← Array.foldl_toList (xs := Y.zipIdx), Array.toList_zipIdx, this, f0]
    have hl : X.toList.length = n := by simpa using hX
    have hd : C.toList.length = n + m := by simpa using hC
    rw [Nat.add_zero, List.take_append_of_le_length (by omega), List.take_of_length_le (by omega), List.drop_of_length_le (by simp; omega), List.append_nil]
  have eX : (Value.agg X).cells = X := rfl
  have eY : (Value.agg Y).cells = Y := rfl
  simp only [Instr.fill, h0, h1, eX, eY, hX, hY, hC, s0, ne_eq, not_true_eq_false, decide_false, Bool.false_or, decide_eq_true_eq]
  rw [if_neg (by omega), if_neg (by omega)]
  congr 1
  exact Array.ext' (by rw [Array.toList_append]; exact f1)

/-- The types of a slice of pairs (t), of a pair (e) and of its halves (f). -/
structure PairTy (t e f : TypeId) : Prop where
  ht : Try.prog.underlying t = some (.slice e)
  he : ∃ f0 f1 : Field, Try.prog.underlying e = some (.struct #[f0, f1]) ∧ f0.type = f ∧ f1.type = f ∧ f0.offset = 0 ∧ f1.offset = 20 ∧ (f0.name != "_") = true ∧ (f1.name != "_") = true
  hf : ArrKey Try.prog f 5 20
  se : ∀ w : World, (sizeOf e).run Try.prog w = .ok 40 w
  ie : (Try.prog.info? e).map (·.size) = some 40
  fi : (Try.prog.info? f).map (·.size) = some 20
  ce : Try.prog.cellsOf e = 40
  ke : Try.prog.keyTypeAt 3 e = true
  hi : (Try.prog.info? e).map (fun i => (i.zero, i.size, i.bytes)) = some (some (.agg (encA (id0, id0))), 40, 40)
  ge : Try.prog.eqGuardType Try.prog.depth e = false
  gf : Try.prog.eqGuardType Try.prog.depth f = false

theorem tyG : PairTy 23 32 30 :=
  ⟨Try.underlying23, ⟨_, _, Try.underlying32, rfl, rfl, rfl, rfl, rfl, rfl⟩, arrG, fun w => by kernel_rfl, by kernel_rfl, by kernel_rfl, by kernel_rfl, by kernel_rfl, by kernel_rfl, by kernel_rfl, by kernel_rfl⟩
theorem tyR : PairTy 22 50 29 :=
  ⟨Try.underlying22, ⟨_, _, Try.underlying50, rfl, rfl, rfl, rfl, rfl, rfl⟩, arrR, fun w => by kernel_rfl, by kernel_rfl, by kernel_rfl, by kernel_rfl, by kernel_rfl, by kernel_rfl, by kernel_rfl, by kernel_rfl⟩

section
variable {t e f : TypeId} (T : PairTy t e f)
include T

theorem PairTy.lits (p : Pr) : Try.prog.keyLits 3 e (enc p) = some (litsOf p.1.1 ++ litsOf p.2.1) := by
  obtain ⟨f0, f1, hu, t0, t1, o0, o1, n0, n1⟩ := T.he
  unfold Program.keyLits
  rw [hu]
  have hl := enc_len p
  have hce := T.ce
  have h0 : ((enc p).drop 0).take 20 = bcells p.1.1 := by
    have := idc_len p.1
    unfold enc
    rw [List.drop_zero, List.take_append_of_le_length (by omega), List.take_of_length_le (by omega)]; rfl
  have h1 : ((enc p).drop 20).take 20 = bcells p.2.1 := by
    have a := idc_len p.1
    have b := idc_len p.2
    unfold enc
    rw [List.drop_append_of_le_length (by omega), List.drop_of_length_le (by omega), List.nil_append, List.take_of_length_le (by omega)]; rfl
  have hcf : Try.prog.cellsOf f = 20 := T.hf.size
  have g0 := arr_lits T.hf Try.underlying5 p.1.1 p.1.2
  have g1 := arr_lits T.hf Try.underlying5 p.2.1 p.2.2
  simp only [hl, hce, List.mapM_cons, List.mapM_nil, t0, t1, o0, o1, hcf, h0, h1, g0, g1]
  simp [n0, n1]

theorem PairTy.eq_run (p q : Pr) (w : World) : (Op.equalIn 10000 e (.agg (encA p)) (.agg (encA q))).run Try.prog w = .ok (decide (p = q)) w := by
  obtain ⟨f0, f1, hu, -⟩ := T.he
  have hf : ∀ z : Pr, Value.formed Try.prog e (.agg (encA z)) = true := fun z => by
    unfold Value.formed
    rw [hu]
    simp [T.ce, encA, enc_len]
  obtain ⟨r, hr, hiff⟩ := equalIn_lits T.ke (by omega) (hf p) (hf q) (D := 3) (lx := litsOf p.1.1 ++ litsOf p.2.1) (ly := litsOf q.1.1 ++ litsOf q.2.1) (by simpa [encA] using T.lits p) (by simpa [encA] using T.lits q) w
  rw [hr]
  congr 1
  rw [Bool.eq_iff_iff, hiff, decide_eq_true_eq]
  refine ⟨fun h => ?_, fun h => by rw [h]⟩
  have h2 := List.append_inj h (by simp [litsOf, p.1.2, q.1.2])
  exact Prod.ext (Subtype.ext (lits_inj _ _ h2.1)) (Subtype.ext (lits_inj _ _ h2.2))

theorem PairTy.eqE : EqlAt Try.prog e (fun x : Pr => .agg (encA x)) (fun x y => decide (x = y)) :=
  ⟨fun x y w => by rw [run_eql_struct, T.eq_run]; rfl, GuardAt.agg _ T.ge⟩
theorem PairTy.neE : NeqAt Try.prog e (fun x : Pr => .agg (encA x)) (fun x y => decide (x = y)) :=
  ⟨fun x y w => by rw [run_neq_struct, T.eq_run]; rfl, GuardAt.agg _ T.ge⟩
theorem PairTy.eqF : EqlAt Try.prog f (fun x : Id20 => .agg (idA x)) (fun x y => decide (x = y)) :=
  ⟨fun x y w => by rw [run_eql_struct, eq_id_run T.hf]; rfl, GuardAt.agg _ T.gf⟩

/-- 's[k]' of pairs. -/
theorem PairTy.index (b o n cap k : Nat) (hk : k < n) (w : World) : (Instr.indexAt t (.slice (some ⟨b, o, none⟩) n cap) (.int .i64 (k : Int))).run Try.prog w = .ok (.pointer (some ⟨b, o + k * 40, none⟩)) w := by
  have he : Try.prog.elem t = e := by simp [Program.elem, T.ht]
  rw [run_indexAt_slice w t _ n cap .i64 k (by rw [he]; exact T.ht), if_pos ⟨by omega, by omega⟩, he, T.se]
  simp [Result.andThen, Addr.add_lit]

theorem PairTy.load (p : Pr) (b o : Nat) (w : World) (h : w.rangeAt b o (enc p)) : (Instr.loadAt e (.pointer (some ⟨b, o, none⟩))).run Try.prog w = .ok (.agg (encA p)) w := by
  obtain ⟨f0, f1, hu, -⟩ := T.he
  exact run_loadAt_mid w b o e (enc p) _ h hu rfl (by rw [enc_len]; exact T.ie)
theorem PairTy.loadId (x : Id20) (b o : Nat) (w : World) (h : w.rangeAt b o (idc x)) : (Instr.loadAt f (.pointer (some ⟨b, o, none⟩))).run Try.prog w = .ok (.agg (idA x)) w :=
  run_loadAt_mid w b o f (idc x) _ h T.hf.hu rfl (by rw [idc_len]; exact T.fi)

/-- 'T{x, y}' of a pair. -/
theorem PairTy.build (x y : Id20) (w : World) : (Instr.build e #[(0, .agg (idA x)), (1, .agg (idA y))]).run Try.prog w = .ok (.agg (encA (x, y))) w := by
  refine run_build w e _ _ ?_
  obtain ⟨f0, f1, hu, t0, t1, o0, o1, n0, n1⟩ := T.he
  obtain ⟨i, hi, hz0, hz1, hz2⟩ := info_parts T.hi
  have hfi := T.fi
  unfold Program.built
  rw [hi, hu]
  simp only [hz0, List.mapM_cons, List.mapM_nil, t0, t1, o0, o1]
  obtain ⟨j, hj⟩ : ∃ j, Try.prog.info? f = some j := by cases h : Try.prog.info? f with | none => rw [h] at hfi; cases hfi | some j => exact ⟨j, rfl⟩
  rw [hj] at hfi ⊢
  have hjs : j.size = 20 := by simpa using hfi
  simp only [Option.map_some, Option.pure_def, Option.bind_eq_bind, Option.bind_some, hjs]
  rw [fill_two (n := 20) (m := 20) (by simp) (by simp) (by simp [Value.cells, encA, enc_len]) (by simp [idA, idc_len]) (by simp [idA, idc_len])]
  simp [encA, enc, idA]

end
end Go.Proofs.Ytnlkanhakmkejaa
