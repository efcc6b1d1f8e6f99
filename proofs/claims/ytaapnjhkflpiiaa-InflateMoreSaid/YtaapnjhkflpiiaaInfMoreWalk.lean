/-
  The law InflateMore, walked.
-/
import Derived.Test.YtaapnjhkflpiiaaInf13
import Derived.Test.YtaapnjhkflpiiaaDefSizesWalk
namespace Go.Proofs.Ytaapnjhkflpiiaa
open Go.RowKit Go.Mix

set_option maxRecDepth 100000 in
set_option maxHeartbeats 4000000 in
theorem inflateMore_walk (a : Option Addr) (len cap : Nat) (zs : List Int) (a2 : Option Addr) (len2 cap2 : Nat) (zs2 : List Int) (less : Int) (w : World) (h : RowIn w a len cap zs) (h2 : RowIn w a2 len2 cap2 zs2) (_hw : (Lit.int .i64 less).wf = true) :
    Calls Try.prog 9 #[.slice a len cap, .slice a2 len2 cap2, .int .i64 less] w fun e w' => e = .returned (.bool true) ∧ Below w.heap.size w w' := by
  obtain ⟨L, rfl, hL⟩ := open_sl h
  obtain ⟨M, rfl, hM⟩ := open_sl h2
  clear h h2
  have hLl := hL.le
  have hLm := hL.max
  have hMl := hM.le
  have hMm := hM.max
  obtain ⟨bq, hbq⟩ : ∃ bq, bq = min L.length 600 := ⟨_, rfl⟩
  obtain ⟨mq, hmq⟩ : ∃ mq, mq = min M.length 600 := ⟨_, rfl⟩
  obtain ⟨b, hb, hbl, hsb, hb1⟩ := hL.to (bq : Int) bq rfl (by omega)
  obtain ⟨m, hm, hml, hsm, hm1⟩ := hM.to (mq : Int) mq rfl (by omega)
  have hmin1 := min_run (L.length : Int) 600 bq (by split <;> omega)
  have hmin2 := min_run (M.length : Int) 600 mq (by split <;> omega)
  have hb6 : b.length ≤ 600 := by omega
  have hm6 : m.length ≤ 600 := by omega
  clear hb hbl hm hml hL hM hbq hmq
  rcases rawOf_cases b 3000 with ⟨q, x, -, hE, hq1, hq2⟩ | ⟨e, -, hE, he1, he2⟩
  · have hxl := rawOf_len b 3000
    rw [hE] at hxl
    obtain ⟨n, hn⟩ : ∃ n, n = (q + 7) / 8 := ⟨_, rfl⟩
    rw [← hn] at hE
    obtain ⟨hn1, hn2, E1, E2, E3⟩ := more_pure b 3000 x n hE
    have hx3 : x.length ≤ 3000 := hxl
    clear hn hxl
    obtain ⟨l1, hl1, hl1n, hs1, hc1⟩ := hsb.to (n : Int) n rfl hn2
    obtain ⟨k, hk, ek0⟩ := u64_mod less n (by omega) (by omega)
    have en : IntKind.u64.wrap (n : Int) = (n : Int) := by rw [IntKind.wrap_u64]; omega
    have hn0 : ¬ (n : Int) = 0 := by omega
    obtain ⟨l3, hl3, hl3n, hs3, hc3⟩ := hsb.to (k : Int) k rfl (by omega)
    have E4 := Lib.hid (E1 m)
    rw [← hl1] at E4
    have E5 := Lib.hid (E2 k hk)
    rw [← hl3] at E5
    have HE := Lib.hid hE
    have HE3 := Lib.hid E3
    have EK := Lib.hid (And.intro ek0 en)
    have HC3 := Lib.hid hc3
    have hl16 : l1.length ≤ 600 := by omega
    have hl36 : l3.length ≤ 600 := by omega
    clear hE E1 E2 E3 hl1 hl3 ek0 en hc3 hl1n hl3n
    have C1 := raw_sl HE.out hsb (by omega) (by decide)
    go_enter Try.func9, Try.ntmps9
    go_wp2_with fail
    refine C1.mono ?_
    rintro e w1 ⟨a3, c3, rfl, h3, g1⟩
    clear C1 hb1 hm1 hmin1 hmin2
    have hsb1 := hsb.below g1
    have hsm1 := hsm.below g1
    have hs11 := hs1.below g1
    have hs31 := hs3.below g1
    clear hsb hsm hs1 hs3
    go_wp2_with fail
    refine (known03_any _).mono ?_
    rintro e w2 ⟨rfl, g2⟩
    have hsb2 := hsb1.below g2
    have hsm2 := hsm1.below g2
    have hs12 := hs11.below g2
    have hs32 := hs31.below g2
    have h32 := h3.below g2
    have G2 := g1.trans (g2.mono g1.size)
    clear hsb1 hsm1 hs11 hs31 h3 g1 g2
    go_wp2_with (first
      | (at_builtin; refine wpList_append_b (S := (· < w2.heap.size)) (w0 := w2) rfl (.tmp 53) (.tmp 56) rfl _ [] rfl (Row.made (FrameS.refl fun k hk => hk)) a cap l1 rfl (hs12.below ((Below.refl _ _).alloc (Nat.le_refl _) _)) (by simp; omega) ?_; intro v5 w5 hb5 hgr5; rw [List.nil_append] at hb5)
      | (at_builtin; refine wpList_append_b (S := (· < w2.heap.size)) (w0 := w2) rfl (.tmp 57) (.tmp 58) rfl _ l1 rfl hb5 a2 cap2 m rfl (hsm2.below (hb5.frame.toBelow (fun k hk => hk))) (by omega) ?_; intro v6 w6 hb6 hgr6))
    obtain ⟨a7, c7, rfl, hs7⟩ := hb6.sl
    have g6 := hb6.frame.toBelow (fun k hk => hk)
    have hlen7 : (l1 ++ m).length ≤ 1200 := by rw [List.length_append]; omega
    generalize l1 ++ m = bb at *
    have hsb6 := hsb2.below g6
    have hs36 := hs32.below g6
    have h36 := h32.below g6
    have G6 := G2.trans (g6.mono G2.size)
    clear hsb2 hsm2 hs12 hs32 h32 hgr5 hgr6 hb5 hb6 G2 g6 hc1
    go_wp2_with fail
    refine (raw_sl E4.out hs7 (by omega) (by omega)).mono ?_
    rintro e w8 ⟨a8, c8, rfl, h8, g8⟩
    have hsb8 := hsb6.below g8
    have hs38 := hs36.below g8
    have h38 := h36.below g8
    have G8 := G6.trans (g8.mono G6.size)
    have t1 := h8.str
    have t2 := h38.str
    have t3 : ((n : Int) != (n : Int)) = false := by simp
    have ek := EK.out.1
    have en := EK.out.2
    have hc3 := HC3.out
    clear hs7 hsb6 hs36 h36 G6 g8
    go_wp2_with fail
    refine (raw_sl E5.out hs38 (by omega) (by decide)).mono ?_
    rintro e w9 ⟨a9, c9, rfl, -, g9⟩
    have hsb9 := hsb8.below g9
    have G9 := G8.trans (g9.mono G8.size)
    clear t1 t2 t3 hc3 hsb8 hs38 h38 h8 G8 g9 ek en
    by_cases hx0 : x = []
    · have HE4 := Lib.hid (HE3.out.trans (if_pos hx0))
      have hxl : x.length = 0 := by rw [hx0]; rfl
      have t4 : ((x.length : Int) == 0) = true := by rw [beq_iff_eq]; omega
      have C9 := Lib.hid (raw_sl HE4.out hsb9 (by omega) (by omega))
      clear hx0 hxl
      go_wp2_with fail
      refine Calls.mono C9.out ?_
      rintro e w10 ⟨a10, c10, rfl, -, g10⟩
      have G10 := G9.trans (g10.mono G9.size)
      clear hsb9 G9 g10
      go_wp2_with fail
      go_ret
      exact ⟨rfl, G10⟩
    · have HE4 := Lib.hid (HE3.out.trans (if_neg hx0))
      have hxl : x.length ≠ 0 := fun h => hx0 (List.length_eq_zero_iff.1 h)
      have t4 : ((x.length : Int) == 0) = false := by rw [beq_eq_false_iff_ne]; omega
      have C9 := Lib.hid (raw_sl HE4.out hsb9 (by omega) (by omega))
      clear hx0 hxl
      go_wp2_with fail
      refine Calls.mono C9.out ?_
      rintro e w10 ⟨a10, c10, rfl, -, g10⟩
      have G10 := G9.trans (g10.mono G9.size)
      clear hsb9 G9 g10
      go_wp2_with fail
      go_ret
      exact ⟨rfl, G10⟩
  · have HE := Lib.hid hE
    have t1 : ((e : Int) != 0) = true := by rw [bne_iff_ne]; omega
    have t2 : ((e : Int) == 0) = false := by rw [beq_eq_false_iff_ne]; omega
    have C1 := Lib.hid (raw_sl HE.out hsb (by omega) (by decide))
    clear hE
    go_enter Try.func9, Try.ntmps9
    go_wp2_with fail
    refine Calls.mono C1.out ?_
    rintro e w1 ⟨a3, c3, rfl, -, g1⟩
    clear C1 hb1 hm1 hmin1 hmin2 hsb hsm
    rw [List.length_nil]
    go_wp2_with fail
    refine (known03_any _).mono ?_
    rintro e w2 ⟨rfl, g2⟩
    have G2 := g1.trans (g2.mono g1.size)
    go_wp2_with fail
    refine (known03_any _).mono ?_
    rintro e w3 ⟨rfl, g3⟩
    have G3 := G2.trans (g3.mono G2.size)
    go_wp2_with fail
    go_ret
    exact ⟨rfl, G3⟩

end Go.Proofs.Ytaapnjhkflpiiaa
