/-
  Texts by their bytes.
-/
import Derived.Test.YtnlkanhakmkejaaDoorCut
import Derived.Test.YtnlkanhakmkejaaDoorMix
import Derived.Test.YtnlkanhakmkejaaDoorMixG
namespace Go.Proofs.YtnlkanhakmkejaaDoor
open Go.RowKit Go.Mix Go.WideMaps

def strOf (l : List UInt8) : ByteArray := ⟨l.toArray⟩
theorem strOf_size (l : List UInt8) : (strOf l).size = l.length := by simp [strOf, ByteArray.size]
theorem strOf_list (s : List UInt8) : (strOf s).toList = s := by rw [ByteArray.toList_eq]; rfl
theorem strOf_inj {a b : List UInt8} (h : strOf a = strOf b) : a = b := by rw [← strOf_list a, h, strOf_list]
theorem strOf_empty (s : List UInt8) : ((strOf s).toList.isEmpty) = decide (s = []) := by rw [strOf_list]; cases s <;> rfl
theorem strOf_eq (s : List UInt8) (t : List UInt8) : ((strOf s).toList == t) = decide (s = t) := by rw [strOf_list, Bool.eq_iff_iff, beq_iff_eq, decide_eq_true_eq]
theorem strOf_get (l : List UInt8) (i : Nat) (h : i < l.length) : (strOf l).get! i = l[i] := by
  have hs : i < (strOf l).size := by rw [strOf_size]; exact h
  have e : (strOf l).get! i = (strOf l)[i]'hs := by
    simp [ByteArray.get!, strOf, h]
    rfl
  rw [e]; rfl
end Go.Proofs.YtnlkanhakmkejaaDoor
