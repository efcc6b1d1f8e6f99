/-
  Helpers of law03's walks: Raw's contract by what it hands back; known.
-/
import Derived.Test.YtaapnjhkflpiiaaInf12
import Derived.Test.YtaapnjhkflpiiaaInfRoom
import Derived.Test.YtaapnjhkflpiiaaDefLaws
namespace Go.Proofs.Ytaapnjhkflpiiaa
open Go.RowKit Go.Mix

/-- 'min(len(b), k)' as one number. -/
theorem min_run (x y : Int) (q : Nat) (h : (if y < x then y else x) = (q : Int)) : ∀ (ts : Array TypeId) (t : TypeId) (w : World), (Builtin.min_ ts t #[.int .i64 x, .int .i64 y]).run Try.prog w = .ok (.int .i64 (q : Int)) w := fun ts t w => by
  rw [run_min_int2, h]

theorem raw_sl {d : List UInt8} {most : Int} {x : List UInt8} {n e : Nat} (hE : rawOf d most = (x, n, e)) {w : World} {a : Option Addr} {cap : Nat} (hs : Sl w a cap d) (hsm : d.length ≤ 100000000) (hroom : most ≤ 1000000) :
    Calls Try.prog 22 #[.slice a d.length cap, .int .i64 most] w fun en w' =>
      ∃ a2 c2, en = .returned (.tuple #[.slice a2 x.length c2, .int .i64 (n : Int), .int .i64 (e : Int)]) ∧ Sl w' a2 c2 x ∧ Below w.heap.size w w' := by
  refine (raw_any w a cap d most hs hsm hroom).mono fun en w' h => ?_
  obtain ⟨a2, c2, h1, h2, h3, _⟩ := h
  rw [hE] at h1 h2
  exact ⟨a2, c2, h1, h2, h3⟩

theorem raw_new {d : List UInt8} {most : Int} {x : List UInt8} {n e : Nat} (hE : rawOf d most = (x, n, e)) {w : World} {a : Option Addr} {cap : Nat} (hs : Sl w a cap d) (hsm : d.length ≤ 100000000) (hroom : most ≤ 1000000) :
    Calls Try.prog 22 #[.slice a d.length cap, .int .i64 most] w fun en w' =>
      ∃ a2 c2, en = .returned (.tuple #[.slice a2 x.length c2, .int .i64 (n : Int), .int .i64 (e : Int)]) ∧ Sl w' a2 c2 x ∧ Below w.heap.size w w' ∧ ∀ y, a2 = some y → w.heap.size ≤ y.block := by
  refine (raw_any w a cap d most hs hsm hroom).mono fun en w' h => ?_
  obtain ⟨a2, c2, h1, h2, h3, h4⟩ := h
  rw [hE] at h1 h2
  exact ⟨a2, c2, h1, h2, h3, h4⟩

theorem Sl.kept {w w' : World} {a : Option Addr} {cap : Nat} {l : List UInt8} (h : Sl w a cap l) {row : Option Nat} (g : w.grownBy w' row) (hr : ∀ x, a = some x → some x.block ≠ row) : Sl w' a cap l := by
  refine ⟨?_, h.le, h.max, h.non⟩
  rcases h.bs with h1 | ⟨b, off, rfl, hc⟩
  · exact .inl h1
  · refine .inr ⟨b, off, rfl, fun j hj => ?_⟩
    have h2 := hc j hj
    rw [← h2]
    exact World.cell?_of_block (a := ⟨b, off + j, none⟩) (g.block b (lt_of_cell h2) (hr _ rfl))

set_option maxRecDepth 100000 in
set_option maxHeartbeats 1000000 in
theorem known03_any (w : World) :
    Calls Try.prog 24 #[] w fun e w' => e = .returned (.bool true) ∧ Below w.heap.size w w' := by
  have e1 : rawOf [75, 4, 0] 9 = ([97], 3, 0) := by decide +kernel
  have e2 : rawOf [1, 1, 0, 254, 255, 97, 98] 9 = ([97], 6, 0) := by decide +kernel
  have e3 : rawOf [75, 76, 76, 4, 0] 2 = ([], 0, 2) := by decide +kernel
  have E1 := Lib.hid e1
  have E2 := Lib.hid e2
  have E3 := Lib.hid e3
  clear e1 e2 e3
  go_enter Try.func24, Try.ntmps24
  go_wp2_with fail
  have hs : Sl (w.alloc (.cells #[.int .u8 75, .int .u8 4, .int .u8 0] 5)) (some ⟨w.heap.size, 0, none⟩) 3 [75, 4, 0] := ⟨.block (heap_alloc_last _ _ _ rfl) rfl, by decide, by decide, by simp⟩
  have C1 := raw_sl E1.out hs (by simp) (by decide)
  rw [show ([75, 4, 0] : List UInt8).length = 3 from rfl] at C1
  refine C1.mono ?_
  clear C1
  rintro e w1 ⟨a1, c1, rfl, h1, g1⟩
  have G1 : Below w.heap.size w w1 := ((Below.refl _ _).alloc (Nat.le_refl _) _).trans (g1.mono (by simp))
  clear g1 hs
  rw [show ([97] : List UInt8).length = 1 from rfl]
  go_wp2_with fail
  have hs : Sl (w1.alloc (.cells #[.int .u8 1, .int .u8 1, .int .u8 0, .int .u8 254, .int .u8 255, .int .u8 97, .int .u8 98] 5)) (some ⟨w1.heap.size, 0, none⟩) 7 [1, 1, 0, 254, 255, 97, 98] := ⟨.block (heap_alloc_last _ _ _ rfl) rfl, by decide, by decide, by simp⟩
  have C2 := raw_sl E2.out hs (by simp) (by decide)
  rw [show ([1, 1, 0, 254, 255, 97, 98] : List UInt8).length = 7 from rfl] at C2
  refine C2.mono ?_
  clear C2
  rintro e w2 ⟨a2, c2, rfl, h2, g2⟩
  have g12 : Below w1.heap.size w1 w2 := ((Below.refl _ _).alloc (Nat.le_refl _) _).trans (g2.mono (by simp))
  have h12 := h1.below g12
  have G2 := G1.trans (g12.mono G1.size)
  clear g2 hs h1 G1 g12
  rw [show ([97] : List UInt8).length = 1 from rfl]
  go_wp2_with fail
  have hs : Sl (w2.alloc (.cells #[.int .u8 75, .int .u8 76, .int .u8 76, .int .u8 4, .int .u8 0] 5)) (some ⟨w2.heap.size, 0, none⟩) 5 [75, 76, 76, 4, 0] := ⟨.block (heap_alloc_last _ _ _ rfl) rfl, by decide, by decide, by simp⟩
  have C3 := raw_sl E3.out hs (by simp) (by decide)
  rw [show ([75, 76, 76, 4, 0] : List UInt8).length = 5 from rfl] at C3
  refine C3.mono ?_
  clear C3
  rintro e w3 ⟨a3, c3, rfl, h3, g3⟩
  have g13 : Below w2.heap.size w2 w3 := ((Below.refl _ _).alloc (Nat.le_refl _) _).trans (g3.mono (by simp))
  have h13 := h12.below g13
  have h23 := h2.below g13
  have G3 := G2.trans (g13.mono G2.size)
  have t1 := h13.str
  have t2 := h23.str
  rw [show ([97] : List UInt8).length = 1 from rfl] at t1 t2
  clear g3 hs h2 h12 G2 g13 h13 h23 h3
  go_wp2_with fail
  go_ret
  exact ⟨rfl, G3⟩

end Go.Proofs.Ytaapnjhkflpiiaa
