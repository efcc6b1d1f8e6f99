/-
  The law DeflateShort, walked.
-/
import Derived.Test.YtaapnjhkflpiiaaDefSizesWalk
import Derived.Test.YtaapnjhkflpiiaaAppE
namespace Go.Proofs.Ytaapnjhkflpiiaa
open Go.RowKit Go.Mix

/-- A row of bytes, so many times. -/
def many (l : List UInt8) (k : Nat) : List UInt8 := (List.replicate k l).flatten
theorem many_succ (l : List UInt8) (k : Nat) : many l (k + 1) = many l k ++ l := by unfold many; rw [List.replicate_succ']; simp
theorem many_len (l : List UInt8) (k : Nat) : (many l k).length = k * l.length := by
  induction k with
  | zero => simp [many]
  | succ k ih => rw [many_succ, List.length_append, ih, Nat.succ_mul]

set_option maxRecDepth 100000 in
set_option maxHeartbeats 1000000 in
theorem few04_any (L : List UInt8) (times : Int) : ∃ l : List UInt8, l.length ≤ 2400 ∧ ∀ (w : World) (a : Option Addr) (cap : Nat), Sl w a cap L →
    Calls Try.prog 18 #[.slice a L.length cap, .int .i64 times] w fun e w' => ∃ v, e = .returned v ∧ RowB (· < w.heap.size) w w' v l := by
  obtain ⟨m, hm, em0⟩ := u64_mod times 4 (by decide) (by decide)
  have em : wrap64 ((IntKind.u64.wrap times).tmod 4) = (m : Int) := em0
  clear em0
  refine ⟨many (L.take 600) (m + 1), by rw [many_len, List.length_take]; exact Nat.le_trans (Nat.mul_le_mul (show m + 1 ≤ 4 by omega) (show min 600 L.length ≤ 600 by omega)) (by decide), fun w a cap hs => ?_⟩
  have hle := hs.le
  have hmx := hs.max
  obtain ⟨q, hq⟩ : ∃ q, q = min L.length 600 := ⟨_, rfl⟩
  obtain ⟨l2, hl2, hl2n, hs2, hsl⟩ := hs.to (if L.length ≤ 600 then (L.length : Int) else 600) q (by split <;> omega) (by omega)
  have e600 : L.take 600 = l2 := by
    rw [hl2, hq]
    rcases Nat.lt_or_ge L.length 600 with h | h
    · rw [Nat.min_eq_left (by omega), List.take_of_length_le (by omega), List.take_of_length_le (Nat.le_refl _)]
    · rw [Nat.min_eq_right h]
  have hl600 : l2.length ≤ 600 := by omega
  rw [e600]
  clear e600 hl2 hl2n hq
  by_cases h6 : L.length ≤ 600
  all_goals
    first | rw [if_pos h6] at hsl | rw [if_neg h6] at hsl
    first | (have hmin : min (L.length : Int) 600 = (L.length : Int) := by omega) | (have hmin : min (L.length : Int) 600 = 600 := by omega)
    go_enter Try.func18, Try.ntmps18
    go_wp2_with fail
    go_loopw [5, 6] (fun v i wr => ∃ k : Nat, i = .int .i64 k ∧ k ≤ m + 1 ∧ RowB (· < w.heap.size) w wr v (many l2 k)) (fun _ i _ => m + 1 - (intOf i).toNat)
    case atStart => exact ⟨0, rfl, by omega, Row.nil (FrameS.refl (fun k hk => hk))⟩
    case round =>
      obtain ⟨k, rfl, hk, hb⟩ := hrel
      have hml : (many l2 k).length ≤ 2400 := by
        rw [many_len]
        have : k * l2.length ≤ 4 * 600 := Nat.mul_le_mul (by omega) hl600
        omega
      by_cases hkm : k ≤ m
      · have hk1 : decide ((k : Int) ≤ (m : Int)) = true := decide_eq_true (by omega)
        have ms := Lib.hid (many_succ l2 k)
        have hs3 := hs2.below (hb.frame.toBelow (fun k hk => hk))
        go_wp2_with (at_builtin; refine wpList_append_b rfl (.tmp 20) (.tmp 21) rfl u5 _ rfl hb a cap l2 rfl hs3 (by omega) ?_; intro v3 w3 hb3 hgr3)
        go_roundw
        case rel => exact ⟨k + 1, by go_num, by omega, by rw [ms.out]; exact hb3⟩
        case measure => simp [intOf]; omega
      · obtain rfl : k = m + 1 := by omega
        have hk1 : decide (((m + 1 : Nat) : Int) ≤ (m : Int)) = false := decide_eq_false (by omega)
        go_wp2_with fail
        go_ret
        exact ⟨_, rfl, hb⟩

set_option maxRecDepth 100000 in
set_option maxHeartbeats 4000000 in
theorem deflateShort_walk (a : Option Addr) (len cap : Nat) (zs : List Int) (times : Int) (w : World) (h : RowIn w a len cap zs) (_hw : (Lit.int .i64 times).wf = true) :
    Calls Try.prog 3 #[.slice a len cap, .int .i64 times] w fun e w' => e = .returned (.bool true) ∧ Below w.heap.size w w' := by
  obtain ⟨L, rfl, hL⟩ := open_sl h
  obtain ⟨l, hl, hf⟩ := few04_any L times
  have hle : (rawPackOf l).length ≤ (storedOf l).length := by
    unfold rawPackOf; split
    · assumption
    · exact Nat.le_refl _
  clear h
  go_enter Try.func3, Try.ntmps3
  go_wp2_with fail
  refine (hf _ _ _ hL).mono ?_
  rintro e w1 ⟨v, rfl, hr⟩
  obtain ⟨a1, c1, rfl, hs1⟩ := hr.sl
  have g1 := hr.frame.toBelow (fun k hk => hk)
  clear hf hr hL
  go_wp2_with fail
  refine (rawpack_ret hs1 (by omega)).mono ?_
  rintro e w2 ⟨a2, c2, rfl, hs2, g2⟩
  have hs12 := hs1.below g2
  have G2 := g1.trans (g2.mono g1.size)
  have R := fun (W : World) (x : Option Addr) (c : Nat) (h : Sl W x c l) => rawpack_ret h (by omega)
  have T := fun (W : World) (h : Sl W a1 c1 l) => stored_ret h (by omega)
  have RR := Lib.hid R
  have TT := Lib.hid T
  clear hs1 g1 g2 R T
  generalize rawPackOf l = p at *
  generalize storedOf l = s at *
  have ht : decide ((p.length : Int) ≤ (s.length : Int)) = true := decide_eq_true (by omega)
  have ht2 : decide (p.length ≤ s.length) = true := decide_eq_true (by omega)
  go_wp2_with fail
  have hps := fun x : Later w2 => (hs2.below x.2).str
  refine wp_region_mix [(0, 0), (1, 0), (2, 0), (3, 0), (4, 0), (5, 1), (6, 0), (7, 0), (8, 0), (9, 0), (10, 0), (11, 0), (13, 0), (12, 1), (14, 1), (15, 1), (16, 0), (17, 0), (18, 0), (19, 0)] (by kernel_rfl) (by kernel_rfl) ?_
  refine mix_calm rfl (fun K hK => ?_)
  go_simp
  apply Exists.intro
  refine ⟨fun x => known04_any x.1, hK _ ?_⟩
  clear hK K
  iterate 4 (refine mix_calm rfl (fun K hK => ?_); go_simp; (refine hK _ ?_; clear hK K))
  refine mix_loud rfl rfl (fun w3 hw3 K hK => ?_)
  go_wp2_with fail
  refine (TT.out _ (hs12.below hw3)).mono ?_
  rintro e w4 ⟨a4, c4, rfl, -, g4⟩
  have g24 := hw3.trans g4
  go_wp2_with fail
  refine hK _ _ g4 ?_
  clear hK K hw3 g4 hps
  have hps := fun x : Later w4 => (hs2.below (g24.trans x.2)).str
  iterate 7 (refine mix_calm rfl (fun K hK => ?_); go_simp; (refine hK _ ?_; clear hK K))
  clear hps
  refine mix_loud rfl rfl (fun w5 hw5 K hK => ?_)
  go_wp2_with fail
  have g56 : Grow w5 (w5.alloc (.cells #[] 5)) := (Below.refl _ _).alloc (Nat.le_refl _) _
  refine hK _ _ g56 ?_
  clear hK K
  have g26 := g24.trans (hw5.trans g56)
  have hblk := heap_alloc_last w5 (.cells #[] 5) _ rfl
  generalize w5.alloc (.cells #[] 5) = w6 at *
  clear hw5 g56 g24
  refine mix_loud rfl rfl (fun w7 hw7 K hK => ?_)
  refine wpList_append_empty (.tmp 23) (.tmp 24) rfl rfl _ rfl ((hw7.block _ (lt_of_block hblk)).trans hblk) a1 c1 l rfl (hs12.below (g26.trans hw7)) (by omega) (fun a8 c8 w8 h8 g8 => ?_)
  have g28 := g26.trans (hw7.trans g8)
  go_wp2_with fail
  refine hK _ _ g8 ?_
  clear hK K hw7 g8 g26 hblk
  refine mix_loud rfl rfl (fun w9 hw9 K hK => ?_)
  go_wp2_with fail
  refine (RR.out _ _ _ (h8.below hw9)).mono ?_
  rintro e w10 ⟨a10, c10, rfl, h10, g10⟩
  have gA := g28.trans (hw9.trans g10)
  go_wp2_with fail
  refine hK _ _ g10 ?_
  clear hK K hw9 g10 g28 h8
  have hps := fun x : Later w10 => (h10.below x.2).str
  iterate 4 (refine mix_calm rfl (fun K hK => ?_); go_simp; (refine hK _ ?_; clear hK K))
  refine mix_nil fun wz hwz => ?_
  have gz := G2.trans ((gA.trans hwz).mono G2.size)
  go_wp2_with fail
  go_ret
  exact ⟨rfl, gz⟩

end Go.Proofs.Ytaapnjhkflpiiaa
