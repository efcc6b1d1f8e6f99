/-
  strings.Cut at a separator of one byte: the walk.
-/
import Derived.Test.YtifoledkmjlmoaaDoorSha18
import Derived.Test.YtifoledkmjlmoaaDoorStrOps
import Derived.Test.YtifoledkmjlmoaaDoorShelfT
import Derived.Lib.IndexLaws
import Derived.OwnWalk
namespace Go.Proofs.YtifoledkmjlmoaaDoor
open Go.RowKit Go.Mix Go.WideMaps Go.Proofs

/-- What Cut hands back. -/
def cutV (l : List UInt8) (c : UInt8) : Value := if Lib.indexByte l c < 0 then .tuple #[.string (strOf l), .string (strOf []), .bool false] else .tuple #[.string (strOf (l.take (Lib.indexByte l c).toNat)), .string (strOf (l.drop ((Lib.indexByte l c).toNat + 1))), .bool true]

set_option maxRecDepth 100000 in
set_option maxHeartbeats 2000000 in
theorem cut1_any (l : List UInt8) (c : UInt8) (hl : l.length ≤ 1000000000) (w : World) : Calls Tryd.prog 43 #[.string (strOf l), .string ⟨#[c]⟩] w fun e w' => e = .returned (cutV l c) ∧ Below w.heap.size w w' := by
  have C := Tryd.stringslite_Index_one (strOf l) c w
  change Calls _ _ _ _ (fun e w' => e = .returned (.int .i64 (Lib.indexByte l c)) ∧ w' = w) at C
  have hge := Lib.indexByte_ge l c
  have hsome := fun o => Lib.indexByte_some (l := l) (c := c) (o := o)
  obtain ⟨r, hr⟩ : ∃ r, r = Lib.indexByte l c := ⟨_, rfl⟩
  rw [← hr] at C hge
  have HS := Lib.hid hsome
  have HR := Lib.hid hr
  clear hr hsome
  go_enter Tryd.func43, Tryd.ntmps43
  go_wp2_with fail
  refine C.mono ?_
  rintro e w2 ⟨rfl, rfl⟩
  clear C
  by_cases hn : r < 0
  · have hv : cutV l c = .tuple #[.string (strOf l), .string (strOf []), .bool false] := by unfold cutV; rw [← HR.out, if_pos hn]
    have HV := Lib.hid hv
    have t1 : decide (r ≥ 0) = false := decide_eq_false (by omega)
    have t1' : decide (0 ≤ r) = false := decide_eq_false (by omega)
    clear hv
    go_wp2_with fail
    go_ret3
    exact ⟨by rw [HV.out]; rfl, Below.refl _ _⟩
  · obtain ⟨i, rfl⟩ := Int.eq_ofNat_of_zero_le (show 0 ≤ r by omega)
    have hv : cutV l c = .tuple #[.string (strOf (l.take i)), .string (strOf (l.drop (i + 1))), .bool true] := by unfold cutV; rw [← HR.out, if_neg hn]; rfl
    have HV := Lib.hid hv
    have hil : i < l.length := by
      have := (HS.out i HR.out.symm).1
      exact (List.getElem?_eq_some_iff.1 this).1
    have t1 : decide ((i : Int) ≥ 0) = true := decide_eq_true (by omega)
    have t1' : decide (0 ≤ (i : Int)) = true := decide_eq_true (by omega)
    have S1 := fun W => str_to Tryd.underlying9 l (i := i) (by omega) W
    have S2 := fun W => str_from Tryd.underlying9 l (i := i + 1) (by omega) W
    have W1 : IntKind.i64.wrap ((i : Int) + 1) = ((i + 1 : Nat) : Int) := by rw [IntWalk.i64_in _ (by omega)]; omega
    have hsz : (⟨#[c]⟩ : ByteArray).size = 1 := rfl
    clear hv hn hge
    generalize strOf (l.take i) = A1 at *
    generalize strOf (l.drop (i + 1)) = A2 at *
    generalize (⟨#[c]⟩ : ByteArray) = sep at *
    go_upto_region 3 with (fail)
    refine wp_region_mg [(0, 0), (1, 0), (2, 0), (3, 0), (4, 0), (5, 0), (6, 0), (7, 0), (8, 0), (9, 0), (10, 0), (11, 0)] (by kernel_rfl) (by kernel_rfl) ?_
    iterate 12 (first | (refine mg_slice rfl rfl _ _ _ _ _ rfl _ _ _ _ _ rfl rfl rfl rfl S1 ?_) | (refine mg_slice rfl rfl _ _ _ _ _ rfl _ _ _ _ _ rfl rfl rfl rfl S2 ?_) | (refine mg_calm rfl (fun K hK => ?_); go_simp; (refine hK _ ?_; clear hK K)))
    refine mg_nil fun w7 hw7 => ?_
    have HW7 : Hid (Below w2.heap.size w2 w7) := Lib.hid hw7
    clear hw7
    go_wp2_with fail
    go_ret3
    exact ⟨by rw [HV.out]; rfl, HW7.out⟩

set_option maxRecDepth 100000 in
set_option maxHeartbeats 2000000 in
theorem cut_any (l : List UInt8) (c : UInt8) (hl : l.length ≤ 1000000000) (w : World) : Calls Tryd.prog 27 #[.string (strOf l), .string ⟨#[c]⟩] w fun e w' => e = .returned (cutV l c) ∧ Below w.heap.size w w' := by
  have C := cut1_any l c hl w
  obtain ⟨p, q, b, hv⟩ : ∃ p q b, cutV l c = .tuple #[.string p, .string q, .bool b] := by
    unfold cutV; split
    · exact ⟨_, _, _, rfl⟩
    · exact ⟨_, _, _, rfl⟩
  rw [hv] at C
  have HV := Lib.hid hv
  clear hv
  go_enter Tryd.func27, Tryd.ntmps27
  go_wp2_with fail
  refine C.mono ?_
  rintro e w2 ⟨rfl, hb⟩
  have HB := Lib.hid hb
  clear C hb
  go_wp2_with fail
  go_ret3
  exact ⟨by rw [HV.out]; rfl, HB.out⟩
end Go.Proofs.YtifoledkmjlmoaaDoor
