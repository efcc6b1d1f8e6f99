/-
  The law InflateAhead, walked.
-/
import Derived.Test.YtaapnjhkflpiiaaInf13
import Derived.Test.YtaapnjhkflpiiaaDefSizesWalk
namespace Go.Proofs.Ytaapnjhkflpiiaa
open Go.RowKit Go.Mix

theorem c_empty : (#[.int .u8 0, .int .u8 0, .int .u8 0, .int .u8 255, .int .u8 255] : Array Value).toList = bcells emptyB := rfl

set_option maxRecDepth 100000 in
set_option maxHeartbeats 4000000 in
theorem inflateAhead_walk (a : Option Addr) (len cap : Nat) (zs : List Int) (times : Int) (w : World) (h : RowIn w a len cap zs) (_hw : (Lit.int .i64 times).wf = true) :
    Calls Try.prog 12 #[.slice a len cap, .int .i64 times] w fun e w' => e = .returned (.bool true) ∧ Below w.heap.size w w' := by
  obtain ⟨L, rfl, hL⟩ := open_sl h
  clear h
  have hLl := hL.le
  have hLm := hL.max
  obtain ⟨bq, hbq⟩ : ∃ bq, bq = min L.length 600 := ⟨_, rfl⟩
  obtain ⟨b, hb, hbl, hsb, hb1⟩ := hL.to (bq : Int) bq rfl (by omega)
  have hmin1 := min_run (L.length : Int) 600 bq (by split <;> omega)
  have hb6 : b.length ≤ 600 := by omega
  clear hb hbl hL hbq
  obtain ⟨t, ht, em0⟩ := u64_mod times 20 (by decide) (by decide)
  have em : wrap64 ((IntKind.u64.wrap times).tmod 20) = (t : Int) := em0
  clear em0
  obtain ⟨x, n, e, hE⟩ : ∃ x n e, rawOf b 3000 = (x, n, e) := ⟨_, _, _, rfl⟩
  have hA := ahead_pure t b 3000
  rw [hE] at hA
  have hn0 : (rawOf b 3000).2.1 ≤ 600 ∧ ((rawOf b 3000).2.2 = 0 ∨ 2 ≤ (rawOf b 3000).2.2) := by
    rcases rawOf_cases b 3000 with ⟨q, y, h1, h2, h3, h4⟩ | ⟨e, h1, h2, h3, h4⟩
    · rw [h2]; exact ⟨by simp only; omega, .inl rfl⟩
    · rw [h2]; exact ⟨by simp, .inr h3⟩
  rw [hE] at hn0
  simp only at hA hn0
  have hn6 := hn0.1
  obtain ⟨m, hm⟩ : ∃ m, m = if e = 0 then 5 * t + n else 0 := ⟨_, rfl⟩
  rw [← hm] at hA
  have HE := Lib.hid hE
  have HA := Lib.hid hA
  have HM := Lib.hid hm
  have HN0 := Lib.hid hn0.2
  clear hE hA hm hn0
  go_enter Try.func12, Try.ntmps12
  go_wp2_with fail
  clear hb1 hmin1
  go_loopw [5, 6] (fun v i wr => ∃ k : Nat, i = .int .i64 k ∧ k ≤ t ∧ RowB (· < w.heap.size) w wr v (empties k)) (fun _ i _ => t - (intOf i).toNat)
  case atStart => exact ⟨0, rfl, by omega, Row.nil (FrameS.refl fun k hk => hk)⟩
  case round =>
    obtain ⟨k, rfl, hk, hrow⟩ := hrel
    have hel := empties_len k
    by_cases hkt : k < t
    · have t1 : decide ((k : Int) < (t : Int)) = true := decide_eq_true (by omega)
      have HN := Lib.hid (empties_snoc k)
      have hel2 : (empties k).length ≤ 100 := by omega
      clear hel
      go_wp2_with (at_builtin; refine wpList_append_n rfl (.tmp 27) (.tmp 28) rfl _ (empties k) rfl hrow _ emptyB c_empty 5 5 rfl rfl (by show _ + 5 ≤ _; omega) ?_; intro v5 w5 hb5 hgr5)
      go_roundw
      case rel => exact ⟨k + 1, by go_num, by omega, by rw [HN.out]; exact hb5⟩
      case measure => simp [intOf]; omega
    · obtain rfl : k = t := by omega
      have t1 : decide ((k : Int) < (k : Int)) = false := decide_eq_false (by omega)
      have hsb1 := hsb.below (hrow.frame.toBelow (fun k hk => hk))
      have HEL := Lib.hid hel
      have hel2 : (empties k).length ≤ 100 := by omega
      clear hel hsb
      obtain ⟨ac, cc, rfl, hsc⟩ := hrow.sl
      generalize empties k = c at *
      go_wp2_with fail
      refine (raw_new HE.out hsb1 (by omega) (by decide)).mono ?_
      rintro en w2 ⟨a2, c2, rfl, h2, g2, hnew⟩
      have hap : ∀ y, a2 = some y → some y.block ≠ (Value.slice ac c.length cc).ownBlock := fun y hy hh => by
        have h7 := hrow.lt y.block hh.symm
        have h8 := hnew y hy
        omega
      have hrow2 := hrow.later g2
      have hsb2 := hsb1.below g2
      have hcb : (c ++ b).length ≤ 1000 := by rw [List.length_append]; omega
      clear hrow hsc hsb1 em hnew
      go_wp2_with (at_builtin; refine wpList_append_b rfl (.tmp 39) (.tmp 40) rfl _ c rfl hrow2 a cap b rfl hsb2 (by omega) ?_; intro v5 w5 hb5 hgr5; generalize c ++ b = bb at *; obtain ⟨a5, c5, hv5, hs5⟩ := hb5.sl; subst hv5; have h25 := h2.kept hgr5 hap)
      have g25 := hb5.frame.toBelow (fun k hk => hk)
      clear hrow2 hsb2 hgr5 hb5 h2 hap g2
      refine (raw_sl HA.out hs5 (by omega) (by decide)).mono ?_
      rintro en w6 ⟨a6, c6, rfl, h6, g6⟩
      have h26 := h25.below g6
      have G6 := g25.trans (g6.mono g25.size)
      clear h25 g25 g6 hs5
      go_wp2_with fail
      refine (known03_any _).mono ?_
      rintro en w7 ⟨rfl, g7⟩
      have u1 := (h26.below g7).str
      have u2 := (h6.below g7).str
      have G7 := G6.trans (g7.mono G6.size)
      clear h26 h6 G6 g7
      by_cases he : e = 0
      · have v1 : ((m : Int) == (n : Int) + (c.length : Int)) = true := by rw [beq_iff_eq, HM.out, if_pos he]; have := HEL.out; omega
        have v2 : ((e : Int) != 0) = false := by rw [bne_eq_false_iff_eq]; omega
        have v3 : ((e : Int) == 0) = true := by rw [beq_iff_eq]; omega
        clear he
        go_wp2_with fail
        go_ret
        exact ⟨rfl, G7⟩
      · have v1 : ((m : Int) == 0) = true := by rw [beq_iff_eq, HM.out, if_neg he]; rfl
        have v2 : ((e : Int) != 0) = true := by rw [bne_iff_ne]; omega
        have v3 : ((e : Int) == 0) = false := by rw [beq_eq_false_iff_ne]; omega
        clear he
        go_wp2_with fail
        go_ret
        exact ⟨rfl, G7⟩

end Go.Proofs.Ytaapnjhkflpiiaa
