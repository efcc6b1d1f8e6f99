/-
  Plain Lean: what a zlib frame is. The walks of zlib.four and the document's Tail.
-/
import Derived.Test.YtaapnjhkflpiiaaInf13
import Derived.Test.YtaapnjhkflpiiaaAdler
import Derived.Test.YtaapnjhkflpiiaaBackPure
import Derived.Test.YtaapnjhkflpiiaaAppE
namespace Go.Proofs.Ytaapnjhkflpiiaa
open Go.RowKit Go.Mix

def fourOf (n : Nat) : List UInt8 := [UInt8.ofNat (n / 16777216), UInt8.ofNat (n / 65536 % 256), UInt8.ofNat (n / 256 % 256), UInt8.ofNat (n % 256)]
def tailOf (x : List UInt8) : List UInt8 := fourOf (adler 1 x)
def headBad (x y : Nat) : Bool := decide (x % 16 ≠ 8) || decide (7 < x / 16) || decide (y / 32 % 2 = 1) || decide ((256 * x + y) % 31 ≠ 0)
/-- What a frame's bytes are opened as: the bytes, how many were taken, the error. -/
def openOf (d : List UInt8) (most : Int) : List UInt8 × Nat × Nat :=
  if d.length < 2 then ([], 0, 3)
  else if headBad (d.getD 0 0).toNat (d.getD 1 0).toNat = true then ([], 0, 4)
  else if (rawOf (d.drop 2) most).2.2 ≠ 0 then ([], 0, (rawOf (d.drop 2) most).2.2)
  else if (d.drop (2 + (rawOf (d.drop 2) most).2.1)).length < 4 then ([], 0, 3)
  else if (d.drop (2 + (rawOf (d.drop 2) most).2.1)).take 4 ≠ tailOf (rawOf (d.drop 2) most).1 then ([], 0, 5)
  else ((rawOf (d.drop 2) most).1, (rawOf (d.drop 2) most).2.1 + 6, 0)
def wrapOf (b : List UInt8) : List UInt8 := [120, 156] ++ rawPackOf b ++ tailOf b

abbrev fourC (n : Nat) : Array Value := #[.int .u8 ((n / 16777216 : Nat) : Int), .int .u8 ((n / 65536 % 256 : Nat) : Int), .int .u8 ((n / 256 % 256 : Nat) : Int), .int .u8 ((n % 256 : Nat) : Int)]
theorem fourC_cells (n : Nat) (hn : n < 4294967296) : (fourC n).toList = bcells (fourOf n) := by
  simp [bcells, fourOf]; omega

theorem four_any (n : Nat) (ni : Int) (hni : ni = (n : Int)) (hn : n < 4294967296) (w : World) :
    Calls Try.prog 50 #[.int .u32 ni] w fun e w' => e = .returned (.agg (fourC n)) ∧ Below w.heap.size w w' := by
  subst hni
  have e1 : ((n / 16777216 : Nat) : Int) = (n : Int) / 16777216 := by omega
  have e2 : ((n / 65536 % 256 : Nat) : Int) = (n : Int) / 65536 % 256 := by omega
  have e3 : ((n / 256 % 256 : Nat) : Int) = (n : Int) / 256 % 256 := by omega
  have e4 : ((n % 256 : Nat) : Int) = (n : Int) % 256 := by omega
  have E := Lib.hid (And.intro e1 (And.intro e2 (And.intro e3 e4)))
  clear e1 e2 e3 e4
  go_enter Try.func50, Try.ntmps50
  go_wp2_with fail
  refine bodyPost_ret (v := .agg #[.int .u8 ((n : Int) / 16777216), .int .u8 ((n : Int) / 65536 % 256), .int .u8 ((n : Int) / 256 % 256), .int .u8 ((n : Int) % 256)]) (by simp [results, Try.results50, go_sem]) rfl ⟨?_, (Below.refl _ _).alloc (Nat.le_refl _) _⟩
  obtain ⟨e1, e2, e3, e4⟩ := E.out
  unfold fourC
  rw [e1, e2, e3, e4]

theorem tail_any {w : World} {a : Option Addr} {cap : Nat} {x : List UInt8} (hs : Sl w a cap x) (hl : x.length ≤ 1000000) :
    Calls Try.prog 31 #[.slice a x.length cap] w fun e w' => ∃ a2 c2, e = .returned (.slice a2 (tailOf x).length c2) ∧ Sl w' a2 c2 (tailOf x) ∧ Below w.heap.size w w' := by
  have hlt := adler_lt 1 x (by decide)
  have C1 := Lib.hid (refAdler_any a cap x 1 w (by decide) (by omega) hs.bs)
  have HT := Lib.hid (show tailOf x = fourOf (adler 1 x) from rfl)
  generalize tailOf x = t at *
  generalize adler 1 x = n at *
  go_enter Try.func31, Try.ntmps31
  go_wp2_with fail
  refine Calls.mono C1.out ?_
  rintro e w1 ⟨rfl, rfl⟩
  go_wp2_with fail
  go_ret
  have hc := fourC_cells n hlt
  have e1 : ((n / 16777216 : Nat) : Int) = (n : Int) / 16777216 := by omega
  have e2 : ((n / 65536 % 256 : Nat) : Int) = (n : Int) / 65536 % 256 := by omega
  have e3 : ((n / 256 % 256 : Nat) : Int) = (n : Int) / 256 % 256 := by omega
  have e4 : ((n % 256 : Nat) : Int) = (n : Int) % 256 := by omega
  unfold fourC at hc
  rw [e1, e2, e3, e4] at hc
  have ht := HT.out
  refine ⟨some ⟨w.heap.size, 0, none⟩, 4, by rw [ht]; rfl, ?_, (Below.refl _ _).alloc (Nat.le_refl _) _⟩
  rw [ht]
  refine ⟨.block (heap_alloc_last _ _ _ rfl) ?_, by show 4 ≤ 4; omega, by decide, by simp⟩
  rw [hc, List.take_of_length_le (by rw [bcells_length]; exact Nat.le_refl _)]
  rfl

theorem zadler_any {w : World} {a : Option Addr} {cap : Nat} {x : List UInt8} (hs : Sl w a cap x) (hl : x.length ≤ 1000000) :
    Calls Try.prog 51 #[.slice a x.length cap] w fun e w' => e = .returned (.int .u32 (adler 1 x : Nat)) ∧ w = w' := adler_any a cap x w (by omega) hs.bs

end Go.Proofs.Ytaapnjhkflpiiaa
