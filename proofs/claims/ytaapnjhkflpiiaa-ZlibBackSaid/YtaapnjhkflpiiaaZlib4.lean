/-
  zlib: known; plain laws of frames.
-/
import Derived.Test.YtaapnjhkflpiiaaZlib3
namespace Go.Proofs.Ytaapnjhkflpiiaa
open Go.RowKit Go.Mix

theorem zopen_sl {d : List UInt8} {most : Int} {x : List UInt8} {n e : Nat} (hE : openOf d most = (x, n, e)) {w : World} {a : Option Addr} {cap : Nat} (hs : Sl w a cap d) (hl : d.length ≤ 1000000) (hroom : most ≤ 1000000) :
    Calls Try.prog 28 #[.slice a d.length cap, .int .i64 most] w fun en w' =>
      ∃ a2 c2, en = .returned (.tuple #[.slice a2 x.length c2, .int .i64 (n : Int), .int .i64 (e : Int)]) ∧ Sl w' a2 c2 x ∧ Below w.heap.size w w' := by
  refine (open_any most hs hl hroom).mono fun en w' h => ?_
  unfold OpenEnds at h
  rw [hE] at h
  exact h

set_option maxRecDepth 100000 in
set_option maxHeartbeats 1000000 in
theorem known05_any (w : World) :
    Calls Try.prog 30 #[] w fun e w' => e = .returned (.bool true) ∧ Below w.heap.size w w' := by
  have e1 : openOf [120, 156, 75, 4, 0, 0, 98, 0, 98] 9 = ([97], 9, 0) := by decide +kernel
  have e2 : openOf [120, 156, 75, 4, 0, 0, 98, 0, 99] 9 = ([], 0, 5) := by decide +kernel
  have E1 := Lib.hid e1
  have E2 := Lib.hid e2
  clear e1 e2
  go_enter Try.func30, Try.ntmps30
  go_wp2_with fail
  have hs : Sl (w.alloc (.cells #[.int .u8 120, .int .u8 156, .int .u8 75, .int .u8 4, .int .u8 0, .int .u8 0, .int .u8 98, .int .u8 0, .int .u8 98] 5)) (some ⟨w.heap.size, 0, none⟩) 9 [120, 156, 75, 4, 0, 0, 98, 0, 98] := ⟨.block (heap_alloc_last _ _ _ rfl) rfl, by decide, by decide, by simp⟩
  have C1 := zopen_sl E1.out hs (by simp) (by decide)
  rw [show ([120, 156, 75, 4, 0, 0, 98, 0, 98] : List UInt8).length = 9 from rfl] at C1
  refine C1.mono ?_
  clear C1
  rintro e w1 ⟨a1, c1, rfl, h1, g1⟩
  have G1 : Below w.heap.size w w1 := ((Below.refl _ _).alloc (Nat.le_refl _) _).trans (g1.mono (by simp))
  clear g1 hs
  rw [show ([97] : List UInt8).length = 1 from rfl]
  go_wp2_with fail
  have hs : Sl (w1.alloc (.cells #[.int .u8 120, .int .u8 156, .int .u8 75, .int .u8 4, .int .u8 0, .int .u8 0, .int .u8 98, .int .u8 0, .int .u8 99] 5)) (some ⟨w1.heap.size, 0, none⟩) 9 [120, 156, 75, 4, 0, 0, 98, 0, 99] := ⟨.block (heap_alloc_last _ _ _ rfl) rfl, by decide, by decide, by simp⟩
  have C2 := zopen_sl E2.out hs (by simp) (by decide)
  rw [show ([120, 156, 75, 4, 0, 0, 98, 0, 99] : List UInt8).length = 9 from rfl] at C2
  refine C2.mono ?_
  clear C2
  rintro e w2 ⟨a2, c2, rfl, h2, g2⟩
  have g12 : Below w1.heap.size w1 w2 := ((Below.refl _ _).alloc (Nat.le_refl _) _).trans (g2.mono (by simp))
  have t1 := (h1.below g12).str
  have G2 := G1.trans (g12.mono G1.size)
  rw [show ([97] : List UInt8).length = 1 from rfl] at t1
  clear g2 hs h1 G1 g12 h2
  go_wp2_with fail
  go_ret
  exact ⟨rfl, G2⟩

theorem tail_len (x : List UInt8) : (tailOf x).length = 4 := rfl
theorem raw_roomier {d : List UInt8} {m m' : Int} {x : List UInt8} {n : Nat} (h : rawOf d m = (x, n, 0)) (hm : (x.length : Int) ≤ m') : rawOf d m' = (x, n, 0) := by
  rcases rawOf_cases d m with ⟨q, y, h1, h2, h3, h4⟩ | ⟨e, _, h2, h3, _⟩
  · rw [h2] at h
    simp only [Prod.mk.injEq] at h
    obtain ⟨rfl, rfl, -⟩ := h
    have r1 := rawGo_rm d m m' (8 * d.length + 1) 0 [] (by simp)
    rw [h1] at r1
    rw [rawOf_end, r1.1 (by simp only; omega)]
    rfl
  · rw [h2] at h
    simp only [Prod.mk.injEq] at h
    omega

/-- A frame is opened. -/
theorem open_frame (h0 h1 : UInt8) (p t : List UInt8) (x more : List UInt8) (most : Int) (hb : headBad h0.toNat h1.toNat = false) (ht : t.length = 4) (hr : rawOf (p ++ (t ++ more)) most = (x, p.length, 0)) :
    openOf ([h0, h1] ++ p ++ t ++ more) most = if t = tailOf x then (x, p.length + 6, 0) else ([], 0, 5) := by
  have hd2 : ([h0, h1] ++ p ++ t ++ more).drop 2 = p ++ (t ++ more) := by simp
  have hdn : ([h0, h1] ++ p ++ t ++ more).drop (2 + p.length) = t ++ more := by
    rw [← List.drop_drop, hd2, List.drop_left]
  unfold openOf
  rw [if_neg (by simp)]
  have g0 : ([h0, h1] ++ p ++ t ++ more).getD 0 0 = h0 := rfl
  have g1 : ([h0, h1] ++ p ++ t ++ more).getD 1 0 = h1 := rfl
  rw [g0, g1, hb, if_neg (by decide), hd2, hr]
  dsimp only
  rw [if_neg (by decide), hdn, if_neg (by rw [List.length_append]; omega), show (t ++ more).take 4 = t by rw [← ht, List.take_left]]
  by_cases h : t = tailOf x
  · rw [if_neg (fun h2 => h2 h), if_pos h]
  · rw [if_pos h, if_neg h]

/-- A frame of ours that is cut off. -/
theorem open_cut (b : List UInt8) (k : Nat) (hk : k < (wrapOf b).length) : openOf ((wrapOf b).take k) (b.length : Int) = ([], 0, 3) := by
  obtain ⟨p, hp⟩ : ∃ p, p = rawPackOf b := ⟨_, rfl⟩
  have hr := rawOf_pack b (b.length : Int) (Int.le_refl _)
  rw [← hp] at hr
  obtain ⟨-, -, E1, E2, -⟩ := more_pure p (b.length : Int) b p.length hr
  rw [List.take_length] at E1
  have hw : wrapOf b = [120, 156] ++ (p ++ tailOf b) := by unfold wrapOf; rw [← hp, List.append_assoc]
  have hwl : (wrapOf b).length = 2 + (p.length + 4) := by rw [hw, List.length_append, List.length_append, tail_len]; rfl
  unfold openOf
  have hlen : ((wrapOf b).take k).length = k := by rw [List.length_take]; omega
  rw [hlen]
  by_cases h2 : k < 2
  · rw [if_pos h2]
  · rw [if_neg h2]
    obtain ⟨j, rfl⟩ : ∃ j, k = j + 2 := ⟨k - 2, by omega⟩
    have ht : (wrapOf b).take (j + 2) = 120 :: 156 :: (p ++ tailOf b).take j := by rw [hw]; rfl
    rw [ht]
    have g0 : (120 :: 156 :: (p ++ tailOf b).take j : List UInt8).getD 0 0 = 120 := rfl
    have g1 : (120 :: 156 :: (p ++ tailOf b).take j : List UInt8).getD 1 0 = 156 := rfl
    have hd2 : (120 :: 156 :: (p ++ tailOf b).take j : List UInt8).drop 2 = (p ++ tailOf b).take j := rfl
    rw [g0, g1, hd2, if_neg (by decide)]
    by_cases hj : j < p.length
    · have h3 : (p ++ tailOf b).take j = p.take j := List.take_append_of_le_length (by omega)
      rw [h3, E2 j hj]
      rfl
    · have h3 : (p ++ tailOf b).take j = p ++ (tailOf b).take (j - p.length) := by rw [List.take_append, List.take_of_length_le (by omega)]
      rw [h3, E1]
      dsimp only
      rw [if_neg (by decide)]
      have h4 : ((120 :: 156 :: (p ++ (tailOf b).take (j - p.length)) : List UInt8).drop (2 + p.length)).length < 4 := by
        rw [List.length_drop, List.length_cons, List.length_cons, List.length_append, List.length_take, tail_len]
        omega
      rw [if_pos h4]

/-- With room for one byte fewer. -/
theorem open_less (b : List UInt8) (hb : b ≠ []) : openOf (wrapOf b) ((b.length : Int) - 1) = ([], 0, 2) := by
  obtain ⟨p, hp⟩ : ∃ p, p = rawPackOf b := ⟨_, rfl⟩
  have hr := rawOf_pack b (b.length : Int) (Int.le_refl _)
  rw [← hp] at hr
  obtain ⟨-, -, E1, -, -⟩ := more_pure p (b.length : Int) b p.length hr
  rw [List.take_length] at E1
  have hw : wrapOf b = 120 :: 156 :: (p ++ tailOf b) := by unfold wrapOf; rw [← hp, List.append_assoc]; rfl
  obtain ⟨-, -, -, -, E3⟩ := more_pure (p ++ tailOf b) (b.length : Int) b p.length (E1 _)
  rw [if_neg hb] at E3
  unfold openOf
  rw [hw]
  have g0 : (120 :: 156 :: (p ++ tailOf b) : List UInt8).getD 0 0 = 120 := rfl
  have g1 : (120 :: 156 :: (p ++ tailOf b) : List UInt8).getD 1 0 = 156 := rfl
  have hd2 : (120 :: 156 :: (p ++ tailOf b) : List UInt8).drop 2 = p ++ tailOf b := rfl
  rw [if_neg (by simp), g0, g1, hd2, if_neg (by decide), E3]
  rfl

/-- A frame of ours, with another sum, whatever stands behind. -/
theorem open_wrap (b t more : List UInt8) (ht : t.length = 4) : openOf ([120, 156] ++ rawPackOf b ++ t ++ more) (b.length : Int) = if t = tailOf b then (b, (rawPackOf b).length + 6, 0) else ([], 0, 5) := by
  have hr := rawOf_pack b (b.length : Int) (Int.le_refl _)
  obtain ⟨-, -, E1, -, -⟩ := more_pure (rawPackOf b) (b.length : Int) b _ hr
  rw [List.take_length] at E1
  exact open_frame 120 156 (rawPackOf b) t b more _ (by decide) ht (E1 _)

end Go.Proofs.Ytaapnjhkflpiiaa
