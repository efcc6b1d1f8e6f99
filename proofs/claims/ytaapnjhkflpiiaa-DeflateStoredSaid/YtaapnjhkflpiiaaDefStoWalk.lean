/-
  The law DeflateStored, walked.
-/
import Derived.Test.YtaapnjhkflpiiaaInf13
import Derived.Test.YtaapnjhkflpiiaaInfSto
import Derived.Test.YtaapnjhkflpiiaaDefShortWalk
namespace Go.Proofs.Ytaapnjhkflpiiaa
open Go.RowKit Go.Mix

theorem one_byte (j : Nat) (hj : j < 256) : (#[Value.int .u8 (j : Int)] : Array Value).toList = bcells [UInt8.ofNat j] := by simp [bcells]; omega
theorem want_last (n : Nat) (hn : n ≤ 65535) : (#[Value.int .u8 1, .int .u8 ((n : Int) % 256), .int .u8 ((n : Int) / 256), .int .u8 ((65535 - (n : Int)) % 256), .int .u8 ((65535 - (n : Int)) / 256)] : Array Value).toList = bcells (storedHead n 1) := by
  simp [bcells, storedHead]; omega
theorem want_full : (#[Value.int .u8 0, .int .u8 255, .int .u8 255, .int .u8 0, .int .u8 0] : Array Value).toList = bcells (storedHead 65535 0) := rfl

theorem rawOf_stored (b : List UInt8) (most : Int) (hm : (b.length : Int) ≤ most) : rawOf (storedOf b) most = (b, (storedOf b).length, 0) := by
  unfold storedOf
  rw [storedE_F]
  exact rawOf_storedE 65535 (by decide) (by decide) _ b (Nat.lt_succ_self _) most hm

set_option maxRecDepth 100000 in
set_option maxHeartbeats 4000000 in
theorem deflateStored_walk (a : Option Addr) (len cap : Nat) (zs : List Int) (times long : Int) (w : World) (h : RowIn w a len cap zs) (_hw : (Lit.int .i64 times).wf = true) (_hw2 : (Lit.int .i64 long).wf = true) :
    Calls Try.prog 6 #[.slice a len cap, .int .i64 times, .int .i64 long] w fun e w' => e = .returned (.bool true) ∧ Below w.heap.size w w' := by
  obtain ⟨L, rfl, hL⟩ := open_sl h
  obtain ⟨l, hl, hf⟩ := few04_any L times
  obtain ⟨k, hk, em0⟩ := u64_mod long 12 (by decide) (by decide)
  have em : wrap64 ((IntKind.u64.wrap long).tmod 12) = (k : Int) := em0
  clear h em0
  go_enter Try.func6, Try.ntmps6
  go_wp2_with fail
  refine (hf _ _ _ hL).mono ?_
  rintro e w1 ⟨v, rfl, hr⟩
  clear hf hL
  obtain ⟨B, hB⟩ : ∃ B, B = (decide (k < 8) && decide (0 < l.length)) := ⟨_, rfl⟩
  obtain ⟨a1, c1, rfl, hs1⟩ := hr.sl
  have HB := Lib.hid hB
  clear hB
  go_upto_region 3 with (fail)
  simp only [em]
  clear em
  go_cut [30] from 24 to 53 (fun s30 wc => s30 = .bool B ∧ wc = w1)
  case first =>
    by_cases hk8 : k < 8
    · have t1 : decide ((k : Int) < 8) = true := decide_eq_true (by omega)
      by_cases h0 : 0 < l.length
      · have t2 : decide ((0 : Int) < (l.length : Int)) = true := decide_eq_true (by omega)
        have t3 : decide (0 < l.length) = true := decide_eq_true (by omega)
        have HB2 := Lib.hid (show B = true by rw [HB.out, decide_eq_true hk8, decide_eq_true h0]; rfl)
        go_wp2_with fail
        go_meet
        exact ⟨by rw [HB2.out], rfl⟩
      · have t2 : decide ((0 : Int) < (l.length : Int)) = false := decide_eq_false (by omega)
        have t3 : decide (0 < l.length) = false := decide_eq_false (by omega)
        have HB2 := Lib.hid (show B = false by rw [HB.out, decide_eq_true hk8, decide_eq_false h0]; rfl)
        go_wp2_with fail
        go_meet
        exact ⟨by rw [HB2.out], rfl⟩
    · have t1 : decide ((k : Int) < 8) = false := decide_eq_false (by omega)
      have HB2 := Lib.hid (show B = false by rw [HB.out, decide_eq_false hk8]; rfl)
      go_wp2_with fail
      go_meet
      exact ⟨by rw [HB2.out], rfl⟩
  case rest =>
  obtain ⟨rfl, rfl⟩ := hcut
  go_upto_if 30 with (fail)
  go_cut [0] from 24 to 53 (fun s0 wc => ∃ l2 : List UInt8, l2.length ≤ 65540 ∧ RowB (· < w.heap.size) w wc s0 l2)
  case first =>
    cases hBB : B with
    | false =>
      subst hBB
      go_wp2_with fail
      go_meet
      exact ⟨l, by omega, hr⟩
    | true =>
      have hk8 : k < 8 ∧ 0 < l.length := by have := HB.out; rw [hBB] at this; simpa using this.symm
      obtain ⟨hk8, hl0⟩ := hk8
      clear HB
      subst hBB
      go_wp2_with fail
      go_loopw [0] (fun s0 wr => ∃ l2 : List UInt8, 0 < l2.length ∧ l2.length ≤ 65531 ∧ RowB (· < w.heap.size) w wr s0 l2) (fun s0 _ => 65531 - (match s0 with | .slice _ n _ => n | _ => 0))
      case atStart => exact ⟨l, hl0, by omega, hr⟩
      case round =>
        obtain ⟨l2, hl20, hl2, hrow⟩ := hrel
        clear hr hs1
        obtain ⟨a2, c2, rfl, hs2⟩ := hrow.sl
        by_cases hlt : l2.length < 65531
        · have t1 : decide ((l2.length : Int) < 65531) = true := decide_eq_true (by omega)
          have t2 : decide (l2.length < 65531) = true := decide_eq_true (by omega)
          obtain ⟨q, hq⟩ : ∃ q, q = min l2.length (65531 - l2.length) := ⟨_, rfl⟩
          have hmin := min_run (l2.length : Int) (65531 - (l2.length : Int)) q (by split <;> omega)
          obtain ⟨l3, hl3, hl3n, hs3, hsl3⟩ := hs2.to (q : Int) q rfl (by omega)
          have hl3q : 0 < l3.length ∧ l2.length + l3.length ≤ 65531 := by omega
          have HQ := Lib.hid hl3q
          have hl36 : l3.length ≤ 65531 := by omega
          clear hl3 hl3n hq hl3q
          go_wp2_with (at_builtin; refine wpList_append_b rfl (.tmp 34) (.tmp 42) rfl _ l2 rfl hrow a2 c2 l3 rfl hs3 (by omega) ?_; intro v5 w5 hb5 hgr5; obtain ⟨a5, c5, hv5, hs5⟩ := hb5.sl; obtain ⟨n5, hn5⟩ : ∃ n5, n5 = (l2 ++ l3).length := ⟨_, rfl⟩; rw [← hn5] at hv5; subst hv5; have HN5 := Lib.hid hn5; clear hn5)
          go_roundw
          case rel => exact ⟨l2 ++ l3, by rw [List.length_append]; omega, by rw [List.length_append]; exact HQ.out.2, hb5⟩
          case measure => have h1 := HN5.out; rw [List.length_append] at h1; have h2 := HQ.out; show 65531 - n5 < 65531 - l2.length; omega
        · have t1 : decide ((l2.length : Int) < 65531) = false := decide_eq_false (by omega)
          have t2 : decide (l2.length < 65531) = false := decide_eq_false (by omega)
          go_wp2_with fail
          obtain ⟨wo, rfl⟩ : ∃ wo : World, wo = wr := ⟨_, rfl⟩
          go_loopw [0, 8] (fun s0 s8 wr => ∃ (j : Nat) (l4 : List UInt8), s8 = .int .i64 (j : Int) ∧ j ≤ k ∧ l4.length ≤ 65531 + j ∧ RowB (· < w.heap.size) w wr s0 l4) (fun _ s8 _ => k - (intOf s8).toNat)
          case atStart => exact ⟨0, l2, rfl, by omega, by omega, hrow⟩
          case round =>
            obtain ⟨j, l4, rfl, hj, hl4, hrow4⟩ := hrel
            clear hrow hs2 t1 t2
            by_cases hjk : j < k
            · have t1 : decide ((j : Int) < (k : Int)) = true := decide_eq_true (by omega)
              go_wp2_with (at_builtin; refine wpList_append_n rfl (.tmp 49) (.tmp 52) rfl _ l4 rfl hrow4 _ [UInt8.ofNat j] (one_byte j (by omega)) 1 1 rfl rfl (by simp; omega) ?_; intro v5 w5 hb5 hgr5)
              go_roundw
              case rel => exact ⟨j + 1, l4 ++ [UInt8.ofNat j], by go_num, by omega, by rw [List.length_append, List.length_singleton]; omega, hb5⟩
              case measure => simp [intOf]; omega
            · have t1 : decide ((j : Int) < (k : Int)) = false := decide_eq_false (by omega)
              go_wp2_with fail
              go_meet
              exact ⟨l4, by omega, hrow4⟩
  case rest =>
    clear hr hs1
    obtain ⟨l2, hl2, hr⟩ := hcut
    obtain ⟨a2, c2, rfl, hs2⟩ := hr.sl
    have g2 := hr.frame.toBelow (fun k hk => hk)
    clear hr
    have HS := Lib.hid (show storedF (l2.length + 1) l2 = storedOf l2 from rfl)
    have HR := Lib.hid (rawOf_stored l2 (l2.length : Int) (Int.le_refl _))
    have hsl : (storedOf l2).length ≤ 1000000 := by rw [storedOf_len]; omega
    generalize storedOf l2 = S at *
    go_wp2_with fail
    go_loopw [9, 10] (fun s9 s10 wr => ∃ (a3 : Option Addr) (c3 : Nat) (l3 o : List UInt8) (f : Nat), s10 = .slice a3 l3.length c3 ∧ Sl wc a3 c3 l3 ∧ l3.length ≤ 65540 ∧ l3.length < f ∧ o ++ storedF f l3 = S ∧ o.length + 2 * l3.length ≤ 1000000 ∧ RowB (· < wc.heap.size) wc wr s9 o) (fun _ s10 _ => match s10 with | .slice _ n _ => n | _ => 0)
    case atStart => exact ⟨a2, c2, l2, [], l2.length + 1, rfl, hs2, hl2, by omega, HS.out, by simp; omega, Row.nil (FrameS.refl fun k hk => hk)⟩
    case round =>
      obtain ⟨a3, c3, l3, o, f, rfl, hs3, hl3, hf, hgo, ho, hrow⟩ := hrel
      obtain ⟨f, rfl⟩ : ∃ g, f = g + 1 := ⟨f - 1, by omega⟩
      simp only [storedF] at hgo
      have hle3 := hs3.le
      have hmx3 := hs3.max
      by_cases hlast : l3.length ≤ 65535
      · rw [show min l3.length 65535 = l3.length from by omega, if_pos rfl] at hgo
        have t1 : decide ((65535 : Int) < (l3.length : Int)) = false := decide_eq_false (by omega)
        have t2 : decide (65535 < l3.length) = false := decide_eq_false (by omega)
        obtain ⟨l4, hl4, hl4n, hs4, hsl4⟩ := hs3.to l3.length l3.length rfl (Nat.le_refl _)
        obtain ⟨a5, l5, cap5, -, -, hsl5⟩ := hs3.from l3.length l3.length rfl (Nat.le_refl _)
        rw [← hl4, ← List.append_assoc] at hgo
        have HG := Lib.hid hgo
        have HL := Lib.hid hl4n
        clear hgo hl4 hl4n
        go_wp2_with (first
          | (at_builtin; refine wpList_append_n rfl (.tmp 59) (.tmp 75) rfl _ o rfl hrow _ (storedHead l3.length 1) (want_last l3.length hlast) 5 5 rfl rfl (by simp [storedHead]; omega) ?_; intro v5 w5 hb5 hgr5)
          | (at_builtin; refine wpList_append_b rfl (.tmp 77) (.tmp 80) rfl v5 _ rfl hb5 a3 c3 l4 rfl (hs4.below (hb5.frame.toBelow (fun k hk => hk))) (by have := HL.out; simp [storedHead]; omega) ?_; intro v6 w6 hb6 hgr6))
        have hwant : o ++ storedHead l3.length 1 ++ l4 = S := HG.out
        rw [hwant] at hb6
        obtain ⟨a6, c6, rfl, hs6⟩ := hb6.sl
        have g6 := hb6.frame.toBelow (fun k hk => hk)
        have hs26 := hs2.below g6
        have G6 := g2.trans (g6.mono g2.size)
        have HSE := Lib.hid (show storedF (l2.length + 1) l2 = S from HS.out)
        clear hb5 hb6 hgr5 hgr6 hrow hs3 hs4 hsl4 hsl5 hs2 g6 hwant HG HL
        have hst := stored_ret hs26 (by omega)
        rw [show storedOf l2 = S from HSE.out] at hst
        refine hst.mono ?_
        rintro e w7 ⟨a7, c7, rfl, h7, g7⟩
        have hs27 := hs26.below g7
        have hs67 := hs6.below g7
        have G7 := G6.trans (g7.mono G6.size)
        clear hst hs26 hs6 G6 g7
        go_wp2_with fail
        refine (raw_sl HR.out h7 (by omega) (by omega)).mono ?_
        rintro e w8 ⟨a8, c8, rfl, h8, g8⟩
        have hs28 := hs27.below g8
        have hs68 := hs67.below g8
        have h78 := h7.below g8
        have G8 := G7.trans (g8.mono G7.size)
        clear hs27 hs67 h7 G7 g8
        go_wp2_with fail
        refine (known04_any _).mono ?_
        rintro e w9 ⟨rfl, g9⟩
        have u1 := (hs28.below g9).str
        have u2 := (hs68.below g9).str
        have u3 := (h78.below g9).str
        have u4 := (h8.below g9).str
        have G9 := G8.trans (g9.mono G8.size)
        clear hs28 hs68 h78 h8 G8 g9
        go_wp2_with fail
        go_ret
        exact ⟨rfl, G9⟩
      · rw [show min l3.length 65535 = 65535 from by omega, if_neg (by omega)] at hgo
        have t1 : decide ((65535 : Int) < (l3.length : Int)) = true := decide_eq_true (by omega)
        have t2 : decide (65535 < l3.length) = true := decide_eq_true (by omega)
        obtain ⟨l4, hl4, hl4n, hs4, hsl4⟩ := hs3.to 65535 65535 rfl (by omega)
        obtain ⟨a5, l5, cap5, hl5, hs5, hsl5⟩ := hs3.from 65535 65535 rfl (by omega)
        have hl5n : l5.length + 65535 = l3.length := by rw [hl5, List.length_drop]; omega
        rw [← hl4, ← hl5] at hgo
        have HG := Lib.hid (show o ++ storedHead 65535 0 ++ l4 ++ storedF f l5 = S by rw [← hgo]; simp)
        have HL := Lib.hid (And.intro hl4n hl5n)
        clear hgo hl4 hl4n hl5 hl5n
        go_wp2_with (first
          | (at_builtin; refine wpList_append_n rfl (.tmp 59) (.tmp 75) rfl _ o rfl hrow _ (storedHead 65535 0) want_full 5 5 rfl rfl (by simp [storedHead]; omega) ?_; intro v5 w5 hb5 hgr5)
          | (at_builtin; refine wpList_append_b rfl (.tmp 77) (.tmp 80) rfl v5 _ rfl hb5 a3 c3 l4 rfl (hs4.below (hb5.frame.toBelow (fun k hk => hk))) (by have := HL.out; simp [storedHead]; omega) ?_; intro v6 w6 hb6 hgr6))
        go_roundw
        case rel => exact ⟨a5, cap5, l5, _, f, rfl, hs5, by have := HL.out; omega, by have := HL.out; omega, HG.out, by have := HL.out; simp [storedHead]; omega, hb6⟩
        case measure => have := HL.out; show l5.length < l3.length; omega

end Go.Proofs.Ytaapnjhkflpiiaa
