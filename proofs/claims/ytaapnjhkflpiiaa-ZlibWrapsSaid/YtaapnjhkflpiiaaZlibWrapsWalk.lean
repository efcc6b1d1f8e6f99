/-
  The law ZlibWraps, walked.
-/
import Derived.Test.YtaapnjhkflpiiaaZlib4
namespace Go.Proofs.Ytaapnjhkflpiiaa
open Go.RowKit Go.Mix

set_option maxRecDepth 100000 in
set_option maxHeartbeats 2000000 in
theorem zlibWraps_walk (a : Option Addr) (len cap : Nat) (zs : List Int) (w : World) (h : RowIn w a len cap zs) :
    Calls Try.prog 15 #[.slice a len cap] w fun e w' => e = .returned (.bool true) ∧ Below w.heap.size w w' := by
  obtain ⟨L, rfl, hL⟩ := open_sl h
  clear h
  have hLl := hL.le
  have hLm := hL.max
  obtain ⟨bq, hbq⟩ : ∃ bq, bq = min L.length 2000 := ⟨_, rfl⟩
  obtain ⟨b, hb, hbl, hsb, hb1⟩ := hL.to (bq : Int) bq rfl (by omega)
  have hmin1 := min_run (L.length : Int) 2000 bq (by split <;> omega)
  have hb6 : b.length ≤ 2000 := by omega
  clear hb hbl hL hbq
  have hpl : (rawPackOf b).length ≤ 20000 := by
    have h1 : (rawPackOf b).length ≤ (storedOf b).length := by
      unfold rawPackOf; split
      · assumption
      · exact Nat.le_refl _
    have h2 := storedOf_len b
    omega
  have CP := Lib.hid (fun (W : World) (h : Sl W a cap b) => rawpack_ret h (by omega))
  have CT := Lib.hid (fun (W : World) (h : Sl W a cap b) => tail_any h (by omega))
  have CW := Lib.hid (fun (W : World) (h : Sl W a cap b) => wrap_any h (by omega))
  have HW := Lib.hid (show wrapOf b = [120, 156] ++ rawPackOf b ++ tailOf b from rfl)
  have htl := tail_len b
  generalize wrapOf b = R at *
  generalize rawPackOf b = p at *
  generalize tailOf b = t at *
  have HTL := Lib.hid htl
  have htl4 : t.length ≤ 4 := by omega
  clear htl
  go_enter Try.func15, Try.ntmps15
  go_wp2_with fail
  clear hb1 hmin1
  have gA : Below w.heap.size w (w.alloc (.cells #[.int .u8 120, .int .u8 156] 5)) := (Below.refl _ _).alloc (Nat.le_refl _) _
  have hA : (w.alloc (.cells #[.int .u8 120, .int .u8 156] 5)).heap[w.heap.size]? = some (.cells #[.int .u8 120, .int .u8 156] 5 (0, 0)) := heap_alloc_last _ _ _ rfl
  have hrA : RowB (· < w.heap.size) w (w.alloc (.cells #[.int .u8 120, .int .u8 156] 5)) (.slice (some ⟨w.heap.size, 0, none⟩) 2 2) [120, 156] :=
    Row.lit ((FrameS.refl fun k hk => hk).below gA) hA c_head (by simp [bcells]) (by decide) (by show ¬ _ < _; omega)
  have hsA := hsb.below gA
  generalize w.alloc (.cells #[.int .u8 120, .int .u8 156] 5) = wa at *
  clear hA
  refine Calls.mono (CP.out _ hsA) ?_
  rintro e w1 ⟨a1, c1, rfl, h1, g1⟩
  have hr1 := hrA.later g1
  have hs1 := hsA.below g1
  have G1 := gA.trans (g1.mono gA.size)
  clear hrA hsA gA g1
  go_wp2_with (at_builtin; refine wpList_append_b rfl (.tmp 9) (.tmp 11) rfl _ [120, 156] rfl hr1 a1 c1 p rfl h1 (by show 2 + _ ≤ _; omega) ?_; intro v2 w2 hb2 hgr2; obtain ⟨a2, c2, hv2, hs2⟩ := hb2.sl; obtain ⟨n2, hn2⟩ : ∃ n2, n2 = ([120, 156] ++ p).length := ⟨_, rfl⟩; rw [← hn2] at hv2; subst hv2; clear hn2)
  have hsb2 := hsb.below (hb2.frame.toBelow (fun k hk => hk))
  refine Calls.mono (CT.out _ hsb2) ?_
  rintro e w3 ⟨a3, c3, rfl, h3, g3⟩
  have hb3 := hb2.later g3
  clear hb2 hs2 hs1 hr1 h1 hgr2 hsb2 g3
  go_wp2_with (at_builtin; refine wpList_append_b rfl (.tmp 12) (.tmp 14) rfl _ _ rfl hb3 a3 c3 t rfl h3 (by rw [List.length_append]; show 2 + _ + _ ≤ _; omega) ?_; intro v4 w4 hb4 hgr4)
  rw [← HW.out] at hb4
  obtain ⟨a4, c4, rfl, hs4⟩ := hb4.sl
  have hsb4 := hsb.below (hb4.frame.toBelow (fun k hk => hk))
  have G4 := hb4.frame.toBelow (fun k hk => hk)
  clear hb3 h3 hgr4 hb4 G1 hsb
  have hps := fun x : Later w4 => (hs4.below x.2).str
  refine wp_region_mix [(0, 0), (1, 0), (2, 0), (5, 0), (6, 0), (3, 1), (4, 0), (7, 0), (8, 0), (9, 0)] (by kernel_rfl) (by kernel_rfl) ?_
  refine mix_calm rfl (fun K hK => ?_)
  go_simp
  apply Exists.intro
  refine ⟨fun x => known05_any x.1, hK _ ?_⟩
  clear hK K
  iterate 4 (refine mix_calm rfl (fun K hK => ?_); go_simp; (refine hK _ ?_; clear hK K))
  clear hps
  refine mix_loud rfl rfl (fun w5 hw5 K hK => ?_)
  go_wp2_with fail
  refine Calls.mono (CW.out _ (hsb4.below hw5)) ?_
  rintro e w6 ⟨v6, rfl, hb6'⟩
  obtain ⟨a6, c6, rfl, hs6⟩ := hb6'.sl
  have g6 := hb6'.frame.toBelow (fun k hk => hk)
  clear hb6'
  go_wp2_with fail
  refine hK _ _ g6 ?_
  clear hK K
  have g5 : Below w4.heap.size w4 w5 := hw5
  have G5 : Below w.heap.size w w5 := G4.trans (g5.mono G4.size)
  have G6 : Below w.heap.size w w6 := G5.trans (g6.mono G5.size)
  clear g6 hw5 g5 G5 G4 hsb4 hs4
  have hps := fun x : Later w6 => (hs6.below x.2).str
  iterate 4 (refine mix_calm rfl (fun K hK => ?_); go_simp; (refine hK _ ?_; clear hK K))
  refine mix_nil fun wz hwz => ?_
  have Gz : Below w.heap.size w wz := G6.trans ((hwz : Below w6.heap.size w6 wz).mono G6.size)
  go_wp2_with fail
  go_ret
  exact ⟨rfl, Gz⟩

end Go.Proofs.Ytaapnjhkflpiiaa
