/-
  The law's few: the walk.
-/
import Derived.Test.YtnlkanhakmkejaaPs
import Derived.WalkSmall
namespace Go.Proofs.Ytnlkanhakmkejaa
open Go.RowKit Go.Mix Go.WideMaps

theorem take_succ {l : List Pr} {i : Nat} (h : i < l.length) : l.take (i + 1) = l.take i ++ [l[i]!] := by
  rw [List.take_add_one, List.getElem?_eq_getElem h, getElem!_pos l i h]; rfl

set_option maxRecDepth 100000 in
set_option maxHeartbeats 2000000 in
theorem few_any {w : World} {l : List Pr} {a : Option Addr} {cap : Nat} (hg : PsAt w a cap l) :
    Calls Try.prog 7 #[.slice a l.length cap] w fun e w' => ∃ v, e = .returned v ∧ OwnP 32 w w' v (l.take 40) := by
  obtain ⟨n, hn⟩ : ∃ n, n = l.length := ⟨_, rfl⟩
  have HN := Lib.hid hn
  have HG := Lib.hid hg
  rw [← hn]
  obtain ⟨m, hm⟩ : ∃ m, m = min n 40 := ⟨_, rfl⟩
  clear hn hg
  have hF0 : Below w.heap.size w w := Below.refl _ _
  go_enter Try.func7, Try.ntmps7
  go_wp2_with fail
  go_loopw [3, 4] (fun s3 s4 wr => ∃ i : Nat, s4 = .int .i64 (i : Int) ∧ i ≤ m ∧ OwnP 32 w wr s3 (l.take i)) (fun _ s4 _ => m - (intOf s4).toNat)
  case atStart => exact ⟨0, rfl, Nat.zero_le _, OwnP.nil hF0⟩
  case round =>
    obtain ⟨i, rfl, hi, hrow⟩ := hrel
    by_cases him : i < m
    · have t1 : decide ((i : Int) < (n : Int)) = true := decide_eq_true (by omega)
      have t1' : decide (i < n) = true := decide_eq_true (by omega)
      have t2 : decide ((i : Int) < 40) = true := decide_eq_true (by omega)
      have t2' : decide (i < 40) = true := decide_eq_true (by omega)
      have hil : i < l.length := by rw [← HN.out]; omega
      obtain ⟨b, q, IX, -, L0, L1⟩ := (HG.out.below hrow.frame).at tyR (i : Int) i rfl hil
      rw [← HN.out] at IX
      have L0' : ∀ y : Later wr, (Instr.loadAt 29 (.pointer (some ⟨b, q, none⟩))).run Try.prog y.1 = .ok (.agg (idA l[i]!.1)) y.1 := fun y => L0 y.1 y.2
      have L1' : ∀ y : Later wr, (Instr.loadAt 29 (.pointer (some ⟨b, q + 20, none⟩))).run Try.prog y.1 = .ok (.agg (idA l[i]!.2)) y.1 := fun y => L1 y.1 y.2
      have B := fun W : World => tyG.build l[i]!.1 l[i]!.2 W
      have B1 := fun W : World => tyG.one (l[i]!.1, l[i]!.2) W
      have HS := Lib.hid (take_succ hil)
      have HL := Lib.hid (show (l.take i).length ≤ 40 by rw [List.length_take]; omega)
      clear L0 L1
      generalize l[i]! = p at *
      generalize l.take i = xs at *
      obtain ⟨x, y⟩ := p
      simp only [] at L0' L1' B B1
      clear hil
      go_upto_region 5 with (fail)
      refine wp_region_mix [(0, 0), (1, 0), (2, 0), (3, 0), (4, 0), (5, 0), (6, 0), (7, 0), (8, 0), (9, 0), (10, 0), (11, 0), (12, 1), (13, 2), (14, 0)] (by kernel_rfl) (by kernel_rfl) ?_
      iterate 5 (refine mix_calm rfl (fun K hK => ?_); go_simp; (refine hK _ ?_; clear hK K))
      refine mix_load rfl rfl _ _ rfl _ _ rfl L0' ?_
      iterate 4 (refine mix_calm rfl (fun K hK => ?_); go_simp; (refine hK _ ?_; clear hK K))
      refine mix_load rfl rfl _ _ rfl _ _ rfl L1' ?_
      refine mix_build rfl rfl _ _ rfl [(0, .agg (idA x)), (1, .agg (idA y))] _ rfl B ?_
      refine mix_loud rfl rfl (fun w8 hw8 K hK => ?_)
      have hrow8 := hrow.later hw8
      refine wpList_buildSlice_at rfl _ _ _ rfl [(0, .agg (encA (x, y)))] _ rfl (B1 w8) ?_
      refine hK _ _ ((Below.refl _ _).alloc (Nat.le_refl _) _) ?_
      clear hK K
      have hp9 := PsAt.one w8 32 (x, y)
      have hrow9 := hrow8.later ((Below.refl _ _).alloc (Nat.le_refl _) (.cells (encA (x, y)) 32))
      generalize w8.alloc (.cells (encA (x, y)) 32) = w9 at *
      clear L0' L1' IX B B1 hrow hrow8 hw8
      refine mix_sync rfl rfl (fun w10 hw10 K hK => ?_)
      have hrow10 := hrow9.later hw10
      have hp10 := hp9.below hw10
      clear hrow9 hp9 hw10
      refine wpList_append_p tyG rfl (.tmp 15) (.tmp 27) rfl _ xs rfl hrow10 (some ⟨w8.heap.size, 0, none⟩) 1 1 [(x, y)] rfl rfl hp10 (by have := HL.out; simp; omega) ?_
      intro v5 w5 hb5 hgr5 hgr0
      rw [← HS.out] at hb5
      clear hgr5 hgr0 hrow10 hp10
      go_wp2_with fail
      iterate 1 (refine mix_calm rfl (fun K hK => ?_); go_simp; (refine hK _ ?_; clear hK K))
      refine mix_nil fun w12 hw12 => ?_
      have hb12 := hb5.later hw12
      clear hb5 hw12
      go_wp2_with fail
      go_roundw
      case rel => exact ⟨i + 1, by go_num, by omega, hb12⟩
      case measure => simp [intOf]; omega
    · obtain rfl : i = m := by omega
      have e : l.take i = l.take 40 := by
        rw [hm, HN.out]
        rcases Nat.lt_or_ge l.length 40 with h | h
        · rw [show min l.length 40 = l.length by omega, List.take_of_length_le (Nat.le_refl _), List.take_of_length_le (by omega)]
        · rw [show min l.length 40 = 40 by omega]
      have hres := hrow
      rw [e] at hres
      have HRES := Lib.hid hres
      clear hres hrow
      by_cases hin : i < n
      · have t1 : decide ((i : Int) < (n : Int)) = true := decide_eq_true (by omega)
        have t1' : decide (i < n) = true := decide_eq_true hin
        have t2 : decide ((i : Int) < 40) = false := decide_eq_false (by omega)
        have t2' : decide (i < 40) = false := decide_eq_false (by omega)
        go_wp2_with fail
        go_ret
        exact ⟨_, rfl, HRES.out⟩
      · have t1 : decide ((i : Int) < (n : Int)) = false := decide_eq_false (by omega)
        have t1' : decide (i < n) = false := decide_eq_false hin
        go_wp2_with fail
        go_ret
        exact ⟨_, rfl, HRES.out⟩
end Go.Proofs.Ytnlkanhakmkejaa
