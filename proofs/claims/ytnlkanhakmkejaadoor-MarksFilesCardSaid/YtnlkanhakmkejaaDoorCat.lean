/-
  Texts: joined, cut out.
-/
import Derived.Test.YtnlkanhakmkejaaDoorStrOps
import Derived.Laws.Concat
namespace Go.Proofs.YtnlkanhakmkejaaDoor
open Go.RowKit Go.Mix

theorem str_add (x y : List UInt8) (hx : x.length ≤ 8388608) (hy : y.length ≤ 8388608) (W : World) : (Op.stringOp .add (strOf x) (strOf y)).run Tryd.prog W = .ok (.string (strOf (x ++ y))) W :=
  Go.run_string_add_lists (P := Tryd.prog) W x y (by omega) (by omega)
theorem ext_mid (x : List UInt8) (i j : Nat) : (strOf x).extract i j = strOf ((x.take j).drop i) := by
  unfold strOf
  apply ByteArray.ext
  rw [ByteArray.data_extract]
  simp [List.extract_eq_take_drop, List.drop_take]
theorem ext_one (x : List UInt8) {i : Nat} (h : i < x.length) : (strOf x).extract i (i + 1) = strOf [x[i]] := by
  rw [ext_mid, List.take_succ_eq_append_getElem h, List.drop_append, List.drop_of_length_le (by rw [List.length_take]; omega), List.nil_append, List.length_take, Nat.min_eq_left (by omega), Nat.sub_self, List.drop_zero]
end Go.Proofs.YtnlkanhakmkejaaDoor
