/-
  '==' of arrays of bytes.
-/
import Derived.Test.YtaapnjhkflpiiaaFixed
import Derived.DeepKeys
namespace Go.Proofs.Ytaapnjhkflpiiaa
open Go.RowKit Go.Mix Go.Maps Go.WideMaps

theorem arr_lits {P : Program} {k e n : Nat} (A : ArrKey P k e n) (he : P.underlying e = some (.int .u8)) (l : List UInt8) (hl : l.length = n) : P.keyLits 2 k (bcells l) = some (l.map fun x => Lit.int .u8 (x.toNat : Int)) := by
  have hsize := A.size
  have hone := A.one
  unfold Program.keyLits
  rw [A.hu]
  simp only [hsize, bcells_length, hl, if_true, hone]
  rw [mapM_all (g := fun i => [Lit.int .u8 ((l.getD i 0).toNat : Int)])]
  · simp only [Option.map_some]
    congr 1
    subst hl
    have e2 : ((List.range l.length).map fun i => [Lit.int .u8 ((l.getD i 0).toNat : Int)]).flatten = (List.range l.length).map fun i => Lit.int .u8 ((l.getD i 0).toNat : Int) := by
      generalize List.range l.length = r
      induction r with
      | nil => rfl
      | cons x r ih => simp only [List.map_cons, List.flatten_cons, ih]; rfl
    rw [e2]
    refine List.ext_getElem (by simp) fun j h1 h2 => ?_
    simp at h2
    simp [h2]
  · intro i hi
    rw [List.mem_range, ← hl] at hi
    have hi2 : i < (bcells l).length := by rw [bcells_length]; exact hi
    have e3 : ((bcells l).drop (i * 1)).take 1 = [Value.int .u8 ((l.getD i 0).toNat : Int)] := by
      rw [Nat.mul_one, List.drop_eq_getElem_cons hi2, List.take_succ_cons, List.take_zero]
      simp [bcells, hi]
    rw [e3]
    unfold Program.keyLits
    rw [he]
    have h := (l.getD i 0).toNat_lt
    generalize (l.getD i 0).toNat = z at *
    have hwf : (Lit.int .u8 (z : Int)).wf = true := by simp [Lit.wf, IntKind.min, IntKind.max, IntKind.signed, IntKind.bits]; omega
    simp only [hwf, and_self, if_true]

theorem lits_inj : ∀ l m : List UInt8, (l.map fun x => Lit.int .u8 (x.toNat : Int)) = (m.map fun x => Lit.int .u8 (x.toNat : Int)) → l = m
  | [], [], _ => rfl
  | [], _ :: _, h => by simp at h
  | _ :: _, [], h => by simp at h
  | x :: l, y :: m, h => by
    simp only [List.map_cons, List.cons.injEq, Lit.int.injEq, true_and] at h
    have hxy : x = y := UInt8.toNat_inj.1 (by omega)
    rw [hxy, lits_inj l m h.2]

/-- '==' of two arrays of n bytes. -/
theorem eql_arr {P : Program} {k e n : Nat} (A : ArrKey P k e n) (he : P.underlying e = some (.int .u8)) (l m : List UInt8) (hl : l.length = n) (hm : m.length = n) (X Y : Array Value) (hX : X.toList = bcells l) (hY : Y.toList = bcells m) (w : World) :
    (Op.equalIn 10000 k (.agg X) (.agg Y)).run P w = .ok (decide (l = m)) w := by
  have hE := run_equalIn_deep (P := P) 9998 2 k (A.at 0)
  have hf : ∀ (Z : Array Value) (z : List UInt8), Z.toList = bcells z → z.length = n → Value.formed P k (.agg Z) = true := fun Z z hZ hz => by
    unfold Value.formed
    rw [A.hu]
    have h1 : Z.size = n := by rw [← Array.length_toList, hZ, bcells_length, hz]
    simp [A.size, h1]
  have hc : ∀ (Z : Array Value) (z : List UInt8), Z.toList = bcells z → (Value.cells (.agg Z)).toList = bcells z := fun Z z hZ => by simp [Value.cells, hZ]
  obtain ⟨r, hr, hiff⟩ := hE w 2 2 (.agg X) (.agg Y) _ _ (hf X l hX hl) (hf Y m hY hm) (by rw [hc X l hX]; exact arr_lits A he l hl) (by rw [hc Y m hY]; exact arr_lits A he m hm)
  rw [show (10000 : Nat) = 9998 + 2 from rfl, hr]
  congr 1
  rw [Bool.eq_iff_iff, hiff, decide_eq_true_eq]
  exact ⟨fun h => lits_inj l m h, fun h => by rw [h]⟩

end Go.Proofs.Ytaapnjhkflpiiaa
