/-
  The law ZlibAny, walked.
-/
import Derived.Test.YtaapnjhkflpiiaaZlib4
namespace Go.Proofs.Ytaapnjhkflpiiaa
open Go.RowKit Go.Mix

theorem c_head2 : (#[Value.int .u8 120, .int .u8 218] : Array Value).toList = bcells [120, 218] := rfl

set_option maxRecDepth 100000 in
set_option maxHeartbeats 4000000 in
theorem zlibAny_walk (a : Option Addr) (len cap : Nat) (zs : List Int) (a2 : Option Addr) (len2 cap2 : Nat) (zs2 : List Int) (w : World) (h : RowIn w a len cap zs) (h2 : RowIn w a2 len2 cap2 zs2) :
    Calls Try.prog 14 #[.slice a len cap, .slice a2 len2 cap2] w fun e w' => e = .returned (.bool true) ∧ Below w.heap.size w w' := by
  obtain ⟨L, rfl, hL⟩ := open_sl h
  obtain ⟨M, rfl, hM⟩ := open_sl h2
  clear h h2
  have hLl := hL.le
  have hLm := hL.max
  have hMl := hM.le
  have hMm := hM.max
  obtain ⟨bq, hbq⟩ : ∃ bq, bq = min L.length 600 := ⟨_, rfl⟩
  obtain ⟨mq, hmq⟩ : ∃ mq, mq = min M.length 100 := ⟨_, rfl⟩
  obtain ⟨b, hb, hbl, hsb, hb1⟩ := hL.to (bq : Int) bq rfl (by omega)
  obtain ⟨m, hm, hml, hsm, hm1⟩ := hM.to (mq : Int) mq rfl (by omega)
  have hmin1 := min_run (L.length : Int) 600 bq (by split <;> omega)
  have hmin2 := min_run (M.length : Int) 100 mq (by split <;> omega)
  have hb6 : b.length ≤ 600 := by omega
  have hm6 : m.length ≤ 100 := by omega
  clear hb hbl hm hml hL hM hbq hmq
  obtain ⟨x, n, e, hE⟩ : ∃ x n e, rawOf b 3000 = (x, n, e) := ⟨_, _, _, rfl⟩
  have hcs : (rawOf b 3000).2.2 = 0 ∨ 2 ≤ (rawOf b 3000).2.2 := by
    rcases rawOf_cases b 3000 with ⟨q, y, _, h2, _, _⟩ | ⟨e, _, h2, h3, _⟩
    · rw [h2]; exact .inl rfl
    · rw [h2]; exact .inr h3
  rw [hE] at hcs
  simp only at hcs
  have C1 := Lib.hid (fun (W : World) (h : Sl W a cap b) => raw_sl hE h (by omega) (by decide))
  go_enter Try.func14, Try.ntmps14
  go_wp2_with fail
  refine wp_region_mix [(0, 0), (1, 0), (2, 0), (3, 0), (4, 0), (5, 0), (6, 0), (7, 0), (8, 0), (9, 0), (10, 0), (11, 0)] (by kernel_rfl) (by kernel_rfl) ?_
  iterate 12 (refine mix_calm rfl (fun K hK => ?_); go_simp; (refine hK _ ?_; clear hK K))
  refine mix_nil fun w0 hw0 => ?_
  have g0 : Below w.heap.size w w0 := hw0
  have hsb0 := hsb.below g0
  have hsm0 := hsm.below g0
  clear hb1 hm1 hmin1 hmin2 hsb hsm hw0
  rcases hcs with he | he
  · subst he
    obtain ⟨hn1, hn2, E1, -, -⟩ := more_pure b 3000 x n hE
    have hx3 : x.length ≤ 3000 := by
      have := rawOf_len b 3000
      rw [hE] at this
      exact this
    have hfr := open_frame 120 218 (b.take n) (tailOf x) x m 3000 (by decide) rfl (by
      have h9 := raw_roomier (E1 (tailOf x ++ m)) (m' := 3000) (by omega)
      rw [h9]
      congr 2
      rw [List.length_take]; omega)
    rw [if_pos rfl] at hfr
    have hlt : (b.take n).length = n := by rw [List.length_take]; omega
    obtain ⟨l1, hl1, hl1n, hs1, hc1⟩ := hsb0.to (n : Int) n rfl hn2
    rw [hlt, ← hl1] at hfr
    have hfl : ([120, 218] ++ l1 ++ tailOf x).length = l1.length + 6 := by rw [List.length_append, List.length_append, tail_len]; show 2 + _ + 4 = _; omega
    have CT := Lib.hid (fun (W : World) (A : Option Addr) (C : Nat) (h : Sl W A C x) => tail_any h (by omega))
    have htl := tail_len x
    generalize tailOf x = t at *
    have HFR := Lib.hid hfr
    have HFL := Lib.hid hfl
    have hl16 : l1.length ≤ 600 := by omega
    have ht4 : t.length ≤ 4 := by omega
    have HLN := Lib.hid hl1n
    clear hE E1 hfr hlt hl1 hl1n hfl htl hn1
    go_wp2_with fail
    refine Calls.mono (C1.out _ hsb0) ?_
    rintro e w1 ⟨a3, c3, rfl, h3, g1⟩
    have hs11 := hs1.below g1
    have hsm1 := hsm0.below g1
    have G1 := g0.trans (g1.mono g0.size)
    clear hsb0 hsm0 hs1 g1
    go_wp2_with fail
    refine (known05_any _).mono ?_
    rintro e w2 ⟨rfl, g2⟩
    have hs12 := hs11.below g2
    have hsm2 := hsm1.below g2
    have h32 := h3.below g2
    have G2 := G1.trans (g2.mono G1.size)
    clear hs11 hsm1 h3 G1 g2
    have gA : Below w2.heap.size w2 (w2.alloc (.cells #[.int .u8 120, .int .u8 218] 5)) := (Below.refl _ _).alloc (Nat.le_refl _) _
    have hA : (w2.alloc (.cells #[.int .u8 120, .int .u8 218] 5)).heap[w2.heap.size]? = some (.cells #[.int .u8 120, .int .u8 218] 5 (0, 0)) := heap_alloc_last _ _ _ rfl
    have hrA : RowB (· < w2.heap.size) w2 (w2.alloc (.cells #[.int .u8 120, .int .u8 218] 5)) (.slice (some ⟨w2.heap.size, 0, none⟩) 2 2) [120, 218] :=
      Row.lit ((FrameS.refl fun k hk => hk).below gA) hA c_head2 (by simp [bcells]) (by decide) (by show ¬ _ < _; omega)
    go_wp2_with (at_builtin; refine wpList_append_b (S := (· < w2.heap.size)) (w0 := w2) rfl (.tmp 35) (.tmp 38) rfl _ [120, 218] rfl hrA a cap l1 rfl (hs12.below gA) (by show 2 + _ ≤ _; omega) ?_; intro v4 w4 hb4 hgr4; obtain ⟨a4, c4, hv4, hs4⟩ := hb4.sl; obtain ⟨n4, hn4⟩ : ∃ n4, n4 = ([120, 218] ++ l1).length := ⟨_, rfl⟩; rw [← hn4] at hv4; subst hv4; clear hn4)
    have gB := hb4.frame.toBelow (fun k hk => hk)
    have h34 := h32.below gB
    have hsm4 := hsm2.below gB
    have G4 := G2.trans (gB.mono G2.size)
    refine Calls.mono (CT.out _ _ _ h34) ?_
    rintro e w5 ⟨a5, c5, rfl, h5, g5⟩
    have hb5 := hb4.later g5
    have h35 := h34.below g5
    have hsm5 := hsm4.below g5
    have G5 := G4.trans (g5.mono G4.size)
    clear hrA hA gA hs12 gB h34 hsm4 hsm5 h35 G5 G4 g5 hs4 hgr4 hb4 hc1
    go_wp2_with (first
      | (at_builtin; refine wpList_append_b rfl (.tmp 39) (.tmp 41) rfl _ _ rfl hb5 a5 c5 t rfl h5 (by rw [List.length_append]; show 2 + _ + _ ≤ _; omega) ?_; intro v6 w6 hb6' hgr6; obtain ⟨a6, c6, hv6, hs6⟩ := hb6'.sl; have g6 := hb6'.frame.toBelow (fun k hk => hk); obtain ⟨f, hf⟩ : ∃ f, f = [120, 218] ++ l1 ++ t := ⟨_, rfl⟩; rw [← hf] at hv6 hs6 hb6'; subst hv6; have HF := Lib.hid hf; have hfl6 : f.length ≤ 606 := (by have h1 := HFL.out; rw [← hf] at h1; omega); clear hf hb6')
      | (at_builtin; refine wpList_append_b (S := (· < w6.heap.size)) (w0 := w6) rfl (.tmp 44) (.tmp 45) rfl _ [] rfl (Row.made (FrameS.refl fun k hk => hk)) a6 c6 f rfl (hs6.below ((Below.refl _ _).alloc (Nat.le_refl _) _)) (by simp; omega) ?_; intro v7 w7 hb7 hgr7; rw [List.nil_append] at hb7)
      | (at_builtin; refine wpList_append_b (S := (· < w6.heap.size)) (w0 := w6) rfl (.tmp 46) (.tmp 47) rfl v7 f rfl hb7 a2 cap2 m rfl ((hsm2.below g6).below (hb7.frame.toBelow (fun k hk => hk))) (by omega) ?_; intro v8 w8 hb8 hgr8))
    obtain ⟨a8, c8, rfl, hs8⟩ := hb8.sl
    have g8 := hb8.frame.toBelow (fun k hk => hk)
    have h38 := (h32.below g6).below g8
    have G8 := G2.trans ((g6.trans (g8.mono g6.size)).mono G2.size)
    have hfm : (f ++ m).length ≤ 800 := by rw [List.length_append]; omega
    have HFR2 := Lib.hid (show openOf (f ++ m) 3000 = (x, f.length, 0) by
      have h1 := HFR.out
      have h2 := HF.out
      have h3 := HFL.out
      rw [← h2] at h1 h3
      rw [h1, h3]
      rw [HLN.out])
    clear hb8 hgr8 hgr6 hgr7 hb7 hs6 hb5 h5 h32 hsm2 G2 g6 g8
    refine (zopen_sl HFR2.out hs8 (by omega) (by decide)).mono ?_
    rintro e w9 ⟨a9, c9, rfl, h9, g9⟩
    have u1 := (h38.below g9).str
    have u2 := h9.str
    have G9 := G8.trans (g9.mono G8.size)
    clear h38 h9 hs8 G8 g9
    go_wp2_with fail
    go_ret
    exact ⟨rfl, G9⟩
  · have HE := Lib.hid he
    have t1 : ((e : Int) != 0) = true := by rw [bne_iff_ne]; omega
    clear hE he
    go_wp2_with fail
    refine Calls.mono (C1.out _ hsb0) ?_
    rintro en w1 ⟨a3, c3, rfl, -, g1⟩
    have G1 := g0.trans (g1.mono g0.size)
    clear hsb0 hsm0 g1
    go_wp2_with fail
    refine (known05_any _).mono ?_
    rintro en w2 ⟨rfl, g2⟩
    have G2 := G1.trans (g2.mono G1.size)
    go_wp2_with fail
    refine (known05_any _).mono ?_
    rintro en w3 ⟨rfl, g3⟩
    have G3 := G2.trans (g3.mono G2.size)
    go_wp2_with fail
    go_ret
    exact ⟨rfl, G3⟩

end Go.Proofs.Ytaapnjhkflpiiaa
