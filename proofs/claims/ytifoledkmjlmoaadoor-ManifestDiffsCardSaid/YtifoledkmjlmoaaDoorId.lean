/-
  Sums of 20 bytes: their cells, their '=='. (Out of tpl4/XPairs.)
-/
import Derived.Test.YtifoledkmjlmoaaDoorCut
import Derived.Test.YtifoledkmjlmoaaDoorMix
import Derived.Deep.CutRange
import Derived.Deep.MidRow
import Derived.Laws.Rows
import Derived.Laws.Tables
import Derived.DeepKeys
import Derived.WideKeyArr
namespace Go.Proofs.YtifoledkmjlmoaaDoor
open Go.RowKit Go.Mix Go.WideMaps

abbrev Id20 := { l : List UInt8 // l.length = 20 }
def id0 : Id20 := ⟨List.replicate 20 0, by decide⟩
instance : Inhabited Id20 := ⟨id0⟩

def idc (x : Id20) : List Value := bcells x.1
def idA (x : Id20) : Array Value := (idc x).toArray
theorem idc_len (x : Id20) : (idc x).length = 20 := by unfold idc; rw [bcells_length]; exact x.2
theorem bcells_one (l : List UInt8) : ∀ u ∈ bcells l, u.oneCell' = true := by
  intro u hu
  simp [bcells] at hu
  obtain ⟨y, _, rfl⟩ := hu
  rfl
/-! '==' -/
theorem mapM_all {α β : Type} (f : α → Option β) (g : α → β) : ∀ l : List α, (∀ x ∈ l, f x = some (g x)) → l.mapM f = some (l.map g)
  | [], _ => rfl
  | x :: l, h => by rw [List.mapM_cons, h x (by simp), mapM_all f g l fun y hy => h y (by simp [hy])]; rfl

def litsOf (l : List UInt8) : List Lit := l.map fun x => Lit.int .u8 (x.toNat : Int)
theorem arr_lits {P : Program} {k e n : Nat} (A : ArrKey P k e n) (he : P.underlying e = some (.int .u8)) (l : List UInt8) (hl : l.length = n) : P.keyLits 2 k (bcells l) = some (litsOf l) := by
  have hsize := A.size
  have hone := A.one
  unfold Program.keyLits litsOf
  rw [A.hu]
  simp only [hsize, bcells_length, hl, if_true, hone]
  rw [mapM_all (g := fun i => [Lit.int .u8 ((l.getD i 0).toNat : Int)])]
  · simp only [Option.map_some]
    congr 1
    subst hl
    have e2 : ((List.range l.length).map fun i => [Lit.int .u8 ((l.getD i 0).toNat : Int)]).flatten = (List.range l.length).map fun i => Lit.int .u8 ((l.getD i 0).toNat : Int) := by
      generalize List.range l.length = r
      induction r with
      | nil => rfl
      | cons x r ih => simp only [List.map_cons, List.flatten_cons, ih]; rfl
    rw [e2]
    refine List.ext_getElem (by simp) fun j h1 h2 => ?_
    simp at h2
    simp [h2]
  · intro i hi
    rw [List.mem_range, ← hl] at hi
    have hi2 : i < (bcells l).length := by rw [bcells_length]; exact hi
    have e3 : ((bcells l).drop (i * 1)).take 1 = [Value.int .u8 ((l.getD i 0).toNat : Int)] := by
      rw [Nat.mul_one, List.drop_eq_getElem_cons hi2, List.take_succ_cons, List.take_zero]
      simp [bcells, hi]
    rw [e3]
    unfold Program.keyLits
    rw [he]
    have h := (l.getD i 0).toNat_lt
    generalize (l.getD i 0).toNat = z at *
    have hwf : (Lit.int .u8 (z : Int)).wf = true := by simp [Lit.wf, IntKind.min, IntKind.max, IntKind.signed, IntKind.bits]; omega
    simp only [hwf, and_self, if_true]
theorem lits_inj : ∀ l m : List UInt8, litsOf l = litsOf m → l = m
  | [], [], _ => rfl
  | [], _ :: _, h => by simp [litsOf] at h
  | _ :: _, [], h => by simp [litsOf] at h
  | x :: l, y :: m, h => by
    simp only [litsOf, List.map_cons, List.cons.injEq, Lit.int.injEq, true_and] at h
    have hxy : x = y := UInt8.toNat_inj.1 (by omega)
    rw [hxy, lits_inj l m h.2]

theorem arrG : ArrKey Tryd.prog 44 5 20 := ⟨Tryd.underlying44, by kernel_rfl, by kernel_rfl, by kernel_rfl⟩
theorem arrR : ArrKey Tryd.prog 43 5 20 := ⟨Tryd.underlying43, by kernel_rfl, by kernel_rfl, by kernel_rfl⟩

/-- What '==' gives where both sides' cells are told by lists of literals. -/
theorem equalIn_lits {P : Program} {k m D : Nat} (hk : P.keyTypeAt m k = true) (hm : m ≤ 10000) {X Y : Array Value} {lx ly : List Lit} (fx : Value.formed P k (.agg X) = true) (fy : Value.formed P k (.agg Y) = true)
    (hx : P.keyLits D k X.toList = some lx) (hy : P.keyLits D k Y.toList = some ly) (w : World) : ∃ r : Bool, (Op.equalIn 10000 k (.agg X) (.agg Y)).run P w = .ok r w ∧ (r = true ↔ lx = ly) := by
  have hE := run_equalIn_deep (P := P) (10000 - m) m k hk
  obtain ⟨r, hr, hiff⟩ := hE w D D (.agg X) (.agg Y) lx ly fx fy (by simpa [Value.cells] using hx) (by simpa [Value.cells] using hy)
  refine ⟨r, ?_, hiff⟩
  rw [show 10000 - m + m = 10000 by omega] at hr
  exact hr

set_option maxRecDepth 100000 in
theorem eq_id_run {k : Nat} (A : ArrKey Tryd.prog k 5 20) (x y : Id20) (w : World) : (Op.equalIn 10000 k (.agg (idA x)) (.agg (idA y))).run Tryd.prog w = .ok (decide (x = y)) w := by
  have hf : ∀ z : Id20, Value.formed Tryd.prog k (.agg (idA z)) = true := fun z => by
    unfold Value.formed
    rw [A.hu]
    simp [A.size, idA, idc_len]
  obtain ⟨r, hr, hiff⟩ := equalIn_lits (A.at 0) (by omega) (hf x) (hf y) (D := 2) (lx := litsOf x.1) (ly := litsOf y.1) (by simpa [idA, idc] using arr_lits A Tryd.underlying5 x.1 x.2) (by simpa [idA, idc] using arr_lits A Tryd.underlying5 y.1 y.2) w
  rw [hr]
  congr 1
  rw [Bool.eq_iff_iff, hiff, decide_eq_true_eq]
  exact ⟨fun h => Subtype.ext (lits_inj _ _ h), fun h => by rw [h]⟩


theorem idA_size (x : Id20) : (idA x).size = 20 := by simp [idA, idc_len]
theorem idA_one (x : Id20) : (idA x).all (·.oneCell') = true := all_oneCell_toArray (bcells_one _)
theorem load_id {k : Nat} (A : ArrKey Tryd.prog k 5 20) (hi : (Tryd.prog.info? k).map (·.size) = some 20) (x : Id20) (b o : Nat) (w : World) (h : w.rangeAt b o (idc x)) : (Instr.loadAt k (.pointer (some ⟨b, o, none⟩))).run Tryd.prog w = .ok (.agg (idA x)) w :=
  run_loadAt_mid w b o k (idc x) _ h A.hu rfl (by rw [idc_len]; exact hi)
end Go.Proofs.YtifoledkmjlmoaaDoor
