/-
  The law ZlibHeads, walked.
-/
import Derived.Test.YtaapnjhkflpiiaaZlibRef
namespace Go.Proofs.Ytaapnjhkflpiiaa
open Go.RowKit Go.Mix

set_option maxRecDepth 100000 in
set_option maxHeartbeats 2000000 in
theorem zlibHeads_walk (x y : Int) (a : Option Addr) (len cap : Nat) (zs : List Int) (w : World) (hx : (Lit.int .u8 x).wf = true) (hy : (Lit.int .u8 y).wf = true) (h : RowIn w a len cap zs) :
    Calls Try.prog 17 #[.int .u8 x, .int .u8 y, .slice a len cap] w fun e w' => e = .returned (.bool true) ∧ Below w.heap.size w w' := by
  obtain ⟨X, hX⟩ : ∃ X : UInt8, x = (X.toNat : Int) := by
    have hx2 : 0 ≤ x ∧ x < 256 := by
      have h1 : IntKind.u8.min ≤ x ∧ x ≤ IntKind.u8.max := by simpa [Lit.wf] using hx
      have h2 : IntKind.u8.min = 0 := rfl
      have h3 : IntKind.u8.max = 255 := rfl
      omega
    exact ⟨UInt8.ofNat x.toNat, by simp; omega⟩
  obtain ⟨Y, hY⟩ : ∃ Y : UInt8, y = (Y.toNat : Int) := by
    have hx2 : 0 ≤ y ∧ y < 256 := by
      have h1 : IntKind.u8.min ≤ y ∧ y ≤ IntKind.u8.max := by simpa [Lit.wf] using hy
      have h2 : IntKind.u8.min = 0 := rfl
      have h3 : IntKind.u8.max = 255 := rfl
      omega
    exact ⟨UInt8.ofNat y.toNat, by simp; omega⟩
  subst hX hY
  clear hx hy
  obtain ⟨L, rfl, hL⟩ := open_sl h
  clear h
  have hLl := hL.le
  have hLm := hL.max
  obtain ⟨bq, hbq⟩ : ∃ bq, bq = min L.length 300 := ⟨_, rfl⟩
  obtain ⟨b, hb, hbl, hsb, hb1⟩ := hL.to (bq : Int) bq rfl (by omega)
  have hmin1 := min_run (L.length : Int) 300 bq (by split <;> omega)
  have hb3 : b.length ≤ 300 := by omega
  clear hb hbl hL hbq
  have hple : (rawPackOf b).length ≤ 10000 := by
    have h1 : (rawPackOf b).length ≤ (storedOf b).length := by
      unfold rawPackOf; split
      · assumption
      · exact Nat.le_refl _
    rw [storedOf_len] at h1; omega
  obtain ⟨r, hr⟩ : ∃ r, r = rawPackOf b ++ tailOf b := ⟨_, rfl⟩
  have hW : wrapOf b = 120 :: 156 :: r := by unfold wrapOf; rw [hr, List.append_assoc]; rfl
  have hrl : r.length ≤ 20000 := by rw [hr, List.length_append]; have : (tailOf b).length = 4 := rfl; omega
  obtain ⟨x3, n3, e3, hE⟩ : ∃ x3 n3 e3, openOf (X :: Y :: r) 300 = (x3, n3, e3) := ⟨_, _, _, rfl⟩
  have he3 : e3 = 0 ∨ e3 = 4 := by
    by_cases hh : headBad X.toNat Y.toNat = true
    · have : openOf (X :: Y :: r) 300 = ([], 0, 4) := by
        unfold openOf
        rw [if_neg (by simp), if_pos (by simpa using hh)]
      rw [this] at hE
      injection hE with h1 h2; injection h2 with h2 h3
      exact .inr h3.symm
    · have hH : headBad X.toNat Y.toNat = false := by simpa using hh
      have hrp := rawOf_pack b 300 (by omega)
      obtain ⟨-, -, E1, -, -⟩ := more_pure (rawPackOf b) 300 b _ hrp
      have hm : rawOf (rawPackOf b ++ (tailOf b ++ [])) 300 = (b, (rawPackOf b).length, 0) := by
        rw [List.take_length] at E1
        exact raw_roomier (E1 _) (by omega)
      have := open_frame X Y (rawPackOf b) (tailOf b) b [] 300 hH rfl hm
      rw [if_pos rfl, List.append_nil] at this
      have e : [X, Y] ++ rawPackOf b ++ tailOf b = X :: Y :: r := by rw [hr, List.append_assoc]; rfl
      rw [e, hE] at this
      injection this with h1 h2; injection h2 with h2 h3
      exact .inl h3
  have HE := Lib.hid hE
  have HW := Lib.hid hW
  have C1 := wrap_any hsb (by omega)
  rw [hW] at C1
  clear hE hW hr hple
  go_enter Try.func17, Try.ntmps17
  go_wp2_with fail
  refine C1.mono ?_
  rintro e w1 ⟨v, rfl, hrow⟩
  clear C1 hmin1 hb1 hsb
  obtain ⟨g, cg, rfl, hSg⟩ := hrow.block (by simp [bcells])
  rw [bcells_length] at hrow ⊢
  obtain ⟨n, hn⟩ : ∃ n, n = (120 :: 156 :: r : List UInt8).length := ⟨_, rfl⟩
  have hn2 : 2 ≤ n := by rw [hn]; simp
  have hnl : n = r.length + 2 := by rw [hn]; simp
  rw [← hn] at hrow ⊢
  have t1 : decide ((n : Int) < 2) = false := decide_eq_false (by omega)
  have t2 : decide (n < 2) = false := decide_eq_false (by omega)
  have HN := Lib.hid hn
  have hc0 : ∀ k, k < n → ∃ vo, w1.cell? ⟨g, k, none⟩ = some vo := fun k hk => by
    obtain ⟨a9, c9, e9, hc9, -⟩ := hrow.slice
    injection e9 with e9 e9a e9b
    subst e9
    have := hc9.2 k (by rw [bcells_length, ← HN.out]; exact hk)
    rw [elt_own] at this
    exact ⟨_, this⟩
  obtain ⟨v0, hv0⟩ := hc0 0 (by omega)
  have f0 := hrow.free 0
  obtain ⟨IK0, -⟩ := hrow.sl_of.2.at 0 0 rfl (by simp)
  obtain ⟨IK1, -⟩ := hrow.sl_of.2.at 1 1 rfl (by simp)
  simp only [elt_own] at IK0 IK1
  rw [← hn] at IK0 IK1
  obtain ⟨hr2, hg2⟩ := hrow.storedB 0 X (X.toNat : Int) rfl
  have f1 := hr2.free 1
  obtain ⟨v1, hv1⟩ : ∃ vo, (w1.setCell ⟨g, 0, none⟩ (.int .u8 (X.toNat : Int))).cell? ⟨g, 1, none⟩ = some vo := by
    obtain ⟨a9, c9, e9, hc9, -⟩ := hr2.slice
    injection e9 with e9 e9a e9b
    subst e9
    have := hc9.2 1 (by rw [bcells_length, List.length_set]; simp)
    rw [elt_own] at this
    exact ⟨_, this⟩
  obtain ⟨hr3, hg3⟩ := hr2.storedB 1 Y (Y.toNat : Int) rfl
  rw [show ((120 :: 156 :: r : List UInt8).set 0 X).set 1 Y = X :: Y :: r from rfl] at hr3
  have hn3 : (X :: Y :: r).length = n := by rw [hn]; rfl
  have hs3 := hr3.sl_of.2
  have G3 := hr3.frame.toBelow (fun k hk => hk)
  have HN3 := Lib.hid hn3
  clear hc0 hg2 hg3 hr2 hn hnl hn3 hr3 hrow
  go_wp2_with fail
  generalize (w1.setCell ⟨g, 0, none⟩ (.int .u8 (X.toNat : Int))).setCell ⟨g, 1, none⟩ (.int .u8 (Y.toNat : Int)) = w3 at *
  have C2 := zopen_sl HE.out hs3 (by simp; omega) (by decide)
  rw [HN3.out] at C2
  refine C2.mono ?_
  rintro e w4 ⟨a4, c4, rfl, -, g4⟩
  have hs4 := hs3.below g4
  have G4 := G3.trans (g4.mono G3.size)
  have C3 := refOpen_sl HE.out hs4 (by simp; omega) (by decide)
  rw [HN3.out] at C3
  clear C2 G3 g4 hs3
  go_wp2_with fail
  refine C3.mono ?_
  rintro e w5 ⟨a5, c5, rfl, -, g5⟩
  have G5 := G4.trans (g5.mono G4.size)
  clear C3 G4 g5 hs4
  go_wp2_with fail
  refine (known05_any _).mono ?_
  rintro e w6 ⟨rfl, g6⟩
  have G6 := G5.trans (g6.mono G5.size)
  have t4 : ((e3 : Int) == (e3 : Int)) = true := by simp
  rcases he3 with rfl | rfl
  · go_wp2_with fail
    go_ret
    exact ⟨rfl, G6⟩
  · go_wp2_with fail
    go_ret
    exact ⟨rfl, G6⟩
end Go.Proofs.Ytaapnjhkflpiiaa
