/-
  strings.Cut at a separator of one byte: the walk.
-/
import Derived.Test.YtnlkanhakmkejaaRefParse
import Derived.Test.YtnlkanhakmkejaaPrint24
import Derived.Lib.IndexLaws
import Derived.OwnWalk
namespace Go.Proofs.Ytnlkanhakmkejaa
open Go.RowKit Go.Mix Go.WideMaps Go.Proofs

theorem mg_slice {P : Program} {ops : Array Oper} {Q : Act → World → Prop} {i : Nat} {r : List (Nat × Nat)} {o : Oper} {a : Act} {w : World} (ho : ops[i]? = some o) (hw : Region.wanted o (yielded ops a.tmps) = true)
    (ty : TypeId) (x : Operand) (lo hi mx : Option Operand) (hop : o.op = .slice ty x lo hi mx) (V : Value) (LO HI MX : Option Value) (v : Value) (hx : a.eval x = V) (h1 : lo.map a.eval = LO) (h2 : hi.map a.eval = HI) (h3 : mx.map a.eval = MX) (hl : ∀ y : World, (Instr.sliceAt ty V LO HI MX).run P y = .ok v y)
    (h : MG P ops Q r (a.put o.dst v) w) : MG P ops Q ((i, 0) :: r) a w := mg_calm ho fun K hK => by
  unfold calmStep
  rw [if_pos hw]
  refine ⟨v, fun y => ?_, hK _ h⟩
  unfold calmAt execOp
  simp only [hop, hx, h1, h2, h3, Sem.run_bind, Sem.run_pure, Result.andThen_ok, hl y.1]
  exact ⟨rfl, rfl⟩

theorem ext_take (x : List UInt8) (n : Nat) : (strOf x).extract 0 n = strOf (x.take n) := by
  unfold strOf
  apply ByteArray.ext
  rw [ByteArray.data_extract]
  simp
theorem ext_drop (x : List UInt8) (n : Nat) : (strOf x).extract n (strOf x).size = strOf (x.drop n) := by
  unfold strOf
  apply ByteArray.ext
  rw [ByteArray.data_extract]
  simp only [ByteArray.size]
  simp only [List.size_toArray, List.extract_toArray]
  congr 1
  simp only [List.extract_eq_take_drop]
  exact List.take_of_length_le (by rw [List.length_drop]; exact Nat.le_refl _)
theorem str_to {k : TypeId} (hu : Try.prog.underlying k = some .string) (x : List UInt8) {i : Nat} (hi : i ≤ x.length) (W : World) : (Instr.sliceAt k (.string (strOf x)) none (some (.int .i64 (i : Int))) none).run Try.prog W = .ok (.string (strOf (x.take i))) W := by
  rw [run_sliceAt_string W k _ _ _ _ hu, run_slice_string_h W k _ hu .i64 (i : Int) (by omega) (by rw [strOf_size]; omega), Int.toNat_natCast, ext_take]
theorem str_from {k : TypeId} (hu : Try.prog.underlying k = some .string) (x : List UInt8) {i : Nat} (hi : i ≤ x.length) (W : World) : (Instr.sliceAt k (.string (strOf x)) (some (.int .i64 (i : Int))) none none).run Try.prog W = .ok (.string (strOf (x.drop i))) W := by
  rw [run_sliceAt_string W k _ _ _ _ hu, run_slice_string_l W k _ hu .i64 (i : Int) (by omega) (by rw [strOf_size]; omega), Int.toNat_natCast, ext_drop]

/-- What Cut hands back. -/
def cutV (l : List UInt8) (c : UInt8) : Value := if Lib.indexByte l c < 0 then .tuple #[.string (strOf l), .string (strOf []), .bool false] else .tuple #[.string (strOf (l.take (Lib.indexByte l c).toNat)), .string (strOf (l.drop ((Lib.indexByte l c).toNat + 1))), .bool true]

set_option maxRecDepth 100000 in
set_option maxHeartbeats 2000000 in
theorem cut1_any (l : List UInt8) (c : UInt8) (hl : l.length ≤ 1000000000) (w : World) : Calls Try.prog 40 #[.string (strOf l), .string ⟨#[c]⟩] w fun e w' => e = .returned (cutV l c) ∧ Below w.heap.size w w' := by
  have C := Try.stringslite_Index_one (strOf l) c w
  change Calls _ _ _ _ (fun e w' => e = .returned (.int .i64 (Lib.indexByte l c)) ∧ w' = w) at C
  have hge := Lib.indexByte_ge l c
  have hsome := fun o => Lib.indexByte_some (l := l) (c := c) (o := o)
  obtain ⟨r, hr⟩ : ∃ r, r = Lib.indexByte l c := ⟨_, rfl⟩
  rw [← hr] at C hge
  have HS := Lib.hid hsome
  have HR := Lib.hid hr
  clear hr hsome
  go_enter Try.func40, Try.ntmps40
  go_wp2_with fail
  refine C.mono ?_
  rintro e w2 ⟨rfl, rfl⟩
  clear C
  by_cases hn : r < 0
  · have hv : cutV l c = .tuple #[.string (strOf l), .string (strOf []), .bool false] := by unfold cutV; rw [← HR.out, if_pos hn]
    have HV := Lib.hid hv
    have t1 : decide (r ≥ 0) = false := decide_eq_false (by omega)
    have t1' : decide (0 ≤ r) = false := decide_eq_false (by omega)
    clear hv
    go_wp2_with fail
    go_ret3
    exact ⟨by rw [HV.out]; rfl, Below.refl _ _⟩
  · obtain ⟨i, rfl⟩ := Int.eq_ofNat_of_zero_le (show 0 ≤ r by omega)
    have hv : cutV l c = .tuple #[.string (strOf (l.take i)), .string (strOf (l.drop (i + 1))), .bool true] := by unfold cutV; rw [← HR.out, if_neg hn]; rfl
    have HV := Lib.hid hv
    have hil : i < l.length := by
      have := (HS.out i HR.out.symm).1
      exact (List.getElem?_eq_some_iff.1 this).1
    have t1 : decide ((i : Int) ≥ 0) = true := decide_eq_true (by omega)
    have t1' : decide (0 ≤ (i : Int)) = true := decide_eq_true (by omega)
    have S1 := fun W => str_to Try.underlying9 l (i := i) (by omega) W
    have S2 := fun W => str_from Try.underlying9 l (i := i + 1) (by omega) W
    have W1 : IntKind.i64.wrap ((i : Int) + 1) = ((i + 1 : Nat) : Int) := by rw [IntWalk.i64_in _ (by omega)]; omega
    have hsz : (⟨#[c]⟩ : ByteArray).size = 1 := rfl
    clear hv hn hge
    generalize strOf (l.take i) = A1 at *
    generalize strOf (l.drop (i + 1)) = A2 at *
    generalize (⟨#[c]⟩ : ByteArray) = sep at *
    go_upto_region 3 with (fail)
    refine wp_region_mg [(0, 0), (1, 0), (2, 0), (3, 0), (4, 0), (5, 0), (6, 0), (7, 0), (8, 0), (9, 0), (10, 0), (11, 0)] (by kernel_rfl) (by kernel_rfl) ?_
    iterate 12 (first | (refine mg_slice rfl rfl _ _ _ _ _ rfl _ _ _ _ _ rfl rfl rfl rfl S1 ?_) | (refine mg_slice rfl rfl _ _ _ _ _ rfl _ _ _ _ _ rfl rfl rfl rfl S2 ?_) | (refine mg_calm rfl (fun K hK => ?_); go_simp; (refine hK _ ?_; clear hK K)))
    refine mg_nil fun w7 hw7 => ?_
    have HW7 : Hid (Below w2.heap.size w2 w7) := Lib.hid hw7
    clear hw7
    go_wp2_with fail
    go_ret3
    exact ⟨by rw [HV.out]; rfl, HW7.out⟩

set_option maxRecDepth 100000 in
set_option maxHeartbeats 2000000 in
theorem cut_any (l : List UInt8) (c : UInt8) (hl : l.length ≤ 1000000000) (w : World) : Calls Try.prog 32 #[.string (strOf l), .string ⟨#[c]⟩] w fun e w' => e = .returned (cutV l c) ∧ Below w.heap.size w w' := by
  have C := cut1_any l c hl w
  obtain ⟨p, q, b, hv⟩ : ∃ p q b, cutV l c = .tuple #[.string p, .string q, .bool b] := by
    unfold cutV; split
    · exact ⟨_, _, _, rfl⟩
    · exact ⟨_, _, _, rfl⟩
  rw [hv] at C
  have HV := Lib.hid hv
  clear hv
  go_enter Try.func32, Try.ntmps32
  go_wp2_with fail
  refine C.mono ?_
  rintro e w2 ⟨rfl, hb⟩
  have HB := Lib.hid hb
  clear C hb
  go_wp2_with fail
  go_ret3
  exact ⟨by rw [HV.out]; rfl, HB.out⟩
end Go.Proofs.Ytnlkanhakmkejaa
