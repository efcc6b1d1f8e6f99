/-
  The law InflateRaw, walked; the document's Raw by its answer.
-/
import Derived.Test.YtaapnjhkflpiiaaRefR
import Derived.Test.YtaapnjhkflpiiaaDefSizesWalk
namespace Go.Proofs.Ytaapnjhkflpiiaa
open Go.RowKit Go.Mix

theorem min_runI (x y q : Int) (h : (if y < x then y else x) = q) : ∀ (ts : Array TypeId) (t : TypeId) (w : World), (Builtin.min_ ts t #[.int .i64 x, .int .i64 y]).run Try.prog w = .ok (.int .i64 q) w := fun ts t w => by
  rw [run_min_int2, h]

theorem refRaw_sl {d : List UInt8} {most : Int} {x : List UInt8} {n e : Nat} (hE : rawOf d most = (x, n, e)) {w : World} {a : Option Addr} {cap : Nat} (hs : Sl w a cap d) (hsm : d.length ≤ 100000000) (hroom : most ≤ 1000000) :
    Calls Try.prog 23 #[.slice a d.length cap, .int .i64 most] w fun en w' =>
      ∃ a2 c2, en = .returned (.tuple #[.slice a2 x.length c2, .int .i64 (n : Int), .int .i64 (e : Int)]) ∧ Sl w' a2 c2 x ∧ Below w.heap.size w w' := by
  refine (refRaw_any w a cap d most hs hsm hroom).mono fun en w' h => ?_
  obtain ⟨a2, c2, h1, h2, h3, _⟩ := h
  rw [hE] at h1 h2
  exact ⟨a2, c2, h1, h2, h3⟩

set_option maxRecDepth 100000 in
set_option maxHeartbeats 4000000 in
theorem inflateRaw_walk (a : Option Addr) (len cap : Nat) (zs : List Int) (most : Int) (w : World) (h : RowIn w a len cap zs) (_hw : (Lit.int .i64 most).wf = true) :
    Calls Try.prog 8 #[.slice a len cap, .int .i64 most] w fun e w' => e = .returned (.bool true) ∧ Below w.heap.size w w' := by
  obtain ⟨L, rfl, hL⟩ := open_sl h
  clear h
  have hLl := hL.le
  have hLm := hL.max
  obtain ⟨bq, hbq⟩ : ∃ bq, bq = min L.length 600 := ⟨_, rfl⟩
  obtain ⟨b, hb, hbl, hsb, hb1⟩ := hL.to (bq : Int) bq rfl (by omega)
  have hmin1 := min_run (L.length : Int) 600 bq (by split <;> omega)
  obtain ⟨mo, hmo⟩ : ∃ mo : Int, mo = if 3000 < most then 3000 else most := ⟨_, rfl⟩
  have hmin2 := min_runI most 3000 mo hmo.symm
  have hmo3 : mo ≤ 3000 := by rw [hmo]; split <;> omega
  have hb6 : b.length ≤ 600 := by omega
  clear hb hbl hL hbq hmo
  obtain ⟨x, n, e, hE⟩ : ∃ x n e, rawOf b mo = (x, n, e) := ⟨_, _, _, rfl⟩
  have HE := Lib.hid hE
  clear hE
  have C1 := raw_sl HE.out hsb (by omega) (by omega)
  have t1 := hsb.str
  go_enter Try.func8, Try.ntmps8
  go_wp2_with fail
  refine C1.mono ?_
  rintro e1 w1 ⟨a3, c3, rfl, h3, g1⟩
  clear C1 hb1 hmin1 hmin2 t1
  have hsb1 := hsb.below g1
  go_wp2_with fail
  refine (refRaw_sl HE.out hsb1 (by omega) (by omega)).mono ?_
  rintro e1 w2 ⟨a4, c4, rfl, h4, g2⟩
  have hsb2 := hsb1.below g2
  have h32 := h3.below g2
  have G2 := g1.trans (g2.mono g1.size)
  clear hsb hsb1 h3 g1 g2
  go_wp2_with fail
  refine (known03_any _).mono ?_
  rintro e1 w3 ⟨rfl, g3⟩
  have t1 := (hsb2.below g3).str
  have t2 := (h32.below g3).str
  have t3 := (h4.below g3).str
  have t4 : ((e : Int) == (e : Int)) = true := by simp
  have t5 : ((n : Int) == (n : Int)) = true := by simp
  have G3 := G2.trans (g3.mono G2.size)
  clear hsb2 h32 h4 G2 g3
  go_wp2_with fail
  go_ret
  exact ⟨rfl, G3⟩
end Go.Proofs.Ytaapnjhkflpiiaa
