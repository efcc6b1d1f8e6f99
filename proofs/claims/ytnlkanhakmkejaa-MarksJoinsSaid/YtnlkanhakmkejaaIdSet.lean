/-
  Sets of sums: map[api.Id]bool.
-/
import Derived.Test.YtnlkanhakmkejaaKnown24
import Derived.Test.YtnlkanhakmkejaaMixT
import Derived.Maps.OwnSet
import Derived.Maps.OwnOps
import Derived.WideKeyArr2
namespace Go.Proofs.Ytnlkanhakmkejaa
open Go.RowKit Go.Mix Go.Maps Go.WideMaps

/-- What an array of bytes reads as, as a map's key. -/
theorem key_of_bytes {P : Program} {k e n : Nat} (A : ArrKey P k e n) (he : P.underlying e = some (.int .u8)) (hsz : ∃ m, P.types.size = m + 1) (l : List UInt8) (hl : l.length = n) : keyOf P k (.agg (bcells l).toArray) = some (.string l) := by
  have hkt := A.keyType hsz
  obtain ⟨m, hm⟩ := hsz
  have hsize := A.size
  have hone := A.one
  unfold keyOf
  rw [A.hu]
  have hf : Value.formed P k (.agg (bcells l).toArray) = true := by
    unfold Value.formed
    rw [A.hu]
    simp [hsize, bcells_length, hl]
  simp only [hkt, hf, Bool.and_self, if_true, hm]
  have hc : (Value.cells (.agg (bcells l).toArray)).toList = bcells l := by simp [Value.cells]
  rw [hc]
  unfold Program.keyLits
  rw [A.hu]
  simp only [hsize, bcells_length, hl, if_true, hone]
  rw [mapM_all (g := fun i => [Lit.int .u8 ((l.getD i 0).toNat : Int)])]
  · simp only [Option.map_some]
    congr 2
    subst hl
    unfold keyBytes
    have e2 : ((List.range l.length).map fun i => [Lit.int .u8 ((l.getD i 0).toNat : Int)]).flatten = (List.range l.length).map fun i => Lit.int .u8 ((l.getD i 0).toNat : Int) := by
      generalize List.range l.length = r
      induction r with
      | nil => rfl
      | cons x r ih => simp only [List.map_cons, List.flatten_cons, ih]; rfl
    have e1 : ((List.range l.length).map fun i => [Lit.int .u8 ((l.getD i 0).toNat : Int)]).flatten = l.map fun x => Lit.int .u8 (x.toNat : Int) := by
      rw [e2]
      refine List.ext_getElem (by simp) fun j h1 h2 => ?_
      simp at h2
      simp [h2]
    rw [e1]
    clear e1 e2 hc hf hsize hkt A
    induction l with
    | nil => rfl
    | cons x l ih =>
      simp only [List.map_cons, List.flatMap_cons]
      rw [ih]
      have hx : Lit.keyBytes (.int .u8 (x.toNat : Int)) = [x] := by
        have h := x.toNat_lt
        have e3 : ((x.toNat : Int) % 2 ^ IntKind.u8.bits).toNat = x.toNat := by
          show ((x.toNat : Int) % 256).toNat = x.toNat
          omega
        show bytesBE (IntKind.u8.bits / 8) ((x.toNat : Int) % 2 ^ IntKind.u8.bits).toNat = [x]
        rw [e3]
        show bytesBE 1 x.toNat = [x]
        simp [bytesBE, bytesLE]
      rw [hx]; rfl
  · intro i hi
    have hi' : i < l.length := by simpa [hl] using hi
    have e1 : ((bcells l).drop (i * 1)).take 1 = [Value.int .u8 (l[i].toNat : Int)] := by
      rw [Nat.mul_one, List.drop_eq_getElem_cons (by rw [bcells_length]; exact hi')]
      simp [bcells]
    rw [e1]
    unfold Program.keyLits
    rw [he]
    have hw : (Lit.int .u8 (l[i].toNat : Int)).wf = true := by
      have h := l[i].toNat_lt
      simp [Lit.wf, IntKind.min, IntKind.max, IntKind.signed, IntKind.bits]
      omega
    simp [hw, hi']

theorem plainElem_bool_inv {P : Program} {e : TypeId} (he : P.underlying e = some .bool) {v : Value} {z : DataW Unit × List MemPlace} (h : plainElem P e v = some z) : ∃ x, v = .bool x ∧ z = (.lit (.bool x), []) := by
  unfold plainElem at h
  rw [he] at h
  cases v <;> simp at h
  exact ⟨_, rfl, h.symm⟩
theorem zeroB (w : World) : (zeroValue 4).run Try.prog w = .ok (.bool false) w := by kernel_rfl
theorem idKeyed : Keyed Try.prog 30 := Keyed.of_law arrG.law
theorem key_id (x : Id20) : keyOf Try.prog 30 (.agg (idA x)) = some (.string x.1) := key_of_bytes arrG Try.underlying5 ⟨_, rfl⟩ x.1 x.2

/-- What the set of sums holds. -/
def IdsAre (D : DataW Unit) (S : Id20 → Bool) : Prop := IsMap D ∧ ∀ x : Id20, D.atKey (.string x.1) (.lit (.bool false)) = .lit (.bool (S x))
theorem ids_start : IdsAre (.map []) (fun _ => false) := ⟨isMap_empty, fun z => by simp; rfl⟩
theorem ids_put {D : DataW Unit} {S : Id20 → Bool} (h : IdsAre D S) (y : Id20) : IdsAre (D.put (.string y.1) (.lit (.bool true))) (fun x => S x || decide (x = y)) := by
  refine ⟨h.1.put _ _, fun x => ?_⟩
  by_cases hz : x = y
  · subst hz
    rw [atKey_put_same h.1 (show WideAt.IsKeyLit (.string x.1) from trivial)]
    simp
  · rw [atKey_put_other (fun e => hz (by injection e with e; exact Subtype.ext e)), h.2 x]
    simp [hz]
theorem ids_look {w : World} {MB n : Nat} {D : DataW Unit} {S : Id20 → Bool} (h : w.ownsMap Try.prog 30 (plainElem Try.prog 4) MB n D) (hD : IdsAre D S) (x : Id20) :
    (Instr.lookup 76 (.map (some MB)) (.agg (idA x)) false).run Try.prog w = .ok (.bool (S x)) w := by
  obtain ⟨v, ps, hrun, hv⟩ := h.lookup idKeyed Try.underlying76 (zeroB w) (plainElem_bool Try.underlying4 false) (key_id x)
  obtain ⟨b, rfl, hx⟩ := plainElem_bool_inv Try.underlying4 hv
  rw [hD.2 x] at hx
  simp only [Prod.mk.injEq] at hx
  have h1 := hx.1
  injection h1 with h1
  injection h1 with h1
  rw [hrun, ← h1]
end Go.Proofs.Ytnlkanhakmkejaa
