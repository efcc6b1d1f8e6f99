/-
  The document's change: the walks, a kind each. (Printed by gen/gen_rfchange.py.)
-/
import Derived.Test.YthjjdcfkdmhmlaaDoorRf1
import Derived.Test.YthjjdcfkdmhmlaaDoorActDo
import Derived.Deep.CutRange
namespace Go.Proofs.YthjjdcfkdmhmlaaDoor
open Go.RowKit Go.Mix Go.WideMaps

set_option maxRecDepth 100000 in
set_option maxHeartbeats 8000000 in
theorem rfWrite_any {Q : Nat → Prop} {w : World} {t Z : Nat} {v : Value} {S : StP} {left : Int} (h : RefAt Q w t v S.quota S.files left S.down) (hQ : ∀ k, w.heap.size ≤ k → Q k) (ok : OkS Z S) (hZ : Z ≤ 100000)
    (path dst : Bytes) (num : Int) (ba ka : Option Addr) (bn bc kn kc : Nat) (b : Bytes) (hbn : bn = b.length) (hbs : Sl w ba bc b) (hbl : b.length ≤ 300) (hpl : path.length ≤ 300) (hdl : dst.length ≤ 300) (hwf : -9223372036854775808 ≤ num ∧ num ≤ 9223372036854775807) :
    Calls Tryd.prog 38 #[ptr t, .agg (recA encA ⟨0, path, dst, num, ba, bn, bc, ka, kn, kc⟩)] w fun e w' => ChgLeft Q w t S left (writeS S path num b) e w' := by
  obtain ⟨w1, hw1⟩ : ∃ w1, w1 = w.alloc (.cells (recA encA ⟨0, path, dst, num, ba, bn, bc, ka, kn, kc⟩) 49) := ⟨_, rfl⟩
  have hb1 : Below w.heap.size w w1 := by rw [hw1]; exact (Below.refl _ _).alloc (Nat.le_refl _) _
  obtain ⟨k0, k1, k2, k3, k4, -⟩ := act_cells (x := ⟨0, path, dst, num, ba, bn, bc, ka, kn, kc⟩) (w := w1) (b := w.heap.size) (q := 0) (by rw [hw1]; exact recBox (heap_alloc_last _ _ _ rfl))
  have h1 := h.below hb1
  have hQ1 : ∀ k, w1.heap.size ≤ k → Q k := fun k hk => hQ k (Nat.le_trans hb1.size hk)
  obtain ⟨c0, c1, c2, c3⟩ := h1.cells
  have hfew := ok.few
  have CF := rfFind_any h1 (by omega) path
  have H0 := Lib.hid (And.intro h1 (And.intro hQ1 (And.intro hb1 (And.intro ok (And.intro h.tlt (And.intro hpl hdl))))))
  have HBS := Lib.hid (And.intro (hbs.below hb1) (And.intro hbn hbl))
  have hbn3 : bn ≤ 300 := by omega
  clear hbs hbn hbl
  clear h hQ h1 hQ1 hb1 ok hpl hdl
  dsimp only at k0 k1 k2 k3 k4
  obtain ⟨G, hG⟩ : ∃ G, G = w.heap.size := ⟨_, rfl⟩
  have HGG := Lib.hid hG
  unfold ptr at *
  go_enter Tryd.func38, Tryd.ntmps38
  go_upto_region 1 with (fail)
  rw [← hw1]
  rw [← hG] at k0 k1 k2 k3 k4 ⊢
  clear hw1 hG
  by_cases hd : S.down = true
  · rw [hd] at c3
    have HD := Lib.hid hd
    clear hd CF c0 c1 c2
    go_wp2_with fail
    go_ret
    exact ⟨by unfold writeS; rw [if_pos HD.out]; rfl, v, by unfold writeS; rw [if_pos HD.out]; exact H0.out.1, (FrameS.ofBelow H0.out.2.2.1 (Nat.le_refl _)).sub fun _ hj => hj.1⟩
  have hd2 : S.down = false := by simpa using hd
  rw [hd2] at c3
  have HD := Lib.hid hd
  clear hd hd2
  go_wp2_with fail
  refine CF.mono ?_
  clear CF
  rintro e w2 ⟨⟨o, rfl, hfo⟩, rfl⟩
  have CR := rfRight_any path (by have := H0.out.2.2.2.2.2.1; omega) w1
  obtain ⟨rr, hrr⟩ : ∃ r, r = rightF path := ⟨_, rfl⟩
  rw [← hrr] at CR
  have HRR := Lib.hid hrr
  have CC := fun (W : World) (hW : Below w1.heap.size w1 W) => rfClash_any (H0.out.1.below hW) (by omega) path path
  obtain ⟨fr, hfr⟩ : ∃ r, r = freeF S.files path path := ⟨_, rfl⟩
  rw [← hfr] at CC
  have HFR := Lib.hid hfr
  have CCH := Lib.hid CC
  have HFO := Lib.hid hfo
  clear hrr CC hfr hfo
  have hoz : -1 ≤ atF o ∧ atF o ≤ 100000 := by
    cases o with
    | none => exact ⟨by decide, by decide⟩
    | some k => obtain ⟨h, -⟩ := HFO.out; exact ⟨by show (-1 : Int) ≤ (k : Int); omega, by show (k : Int) ≤ 100000; omega⟩
  obtain ⟨oi, hoi⟩ : ∃ oi, oi = atF o := ⟨_, rfl⟩
  have HOI := Lib.hid hoi
  rw [← hoi] at hoz ⊢
  clear hoi
  go_wp2_with fail
  refine CR.mono ?_
  clear CR
  rintro e w4 ⟨rfl, hb4⟩
  have H4 := Lib.hid hb4
  have k0 := (hb4.cell (lt_of_cell k0)).trans k0
  have k1 := (hb4.cell (lt_of_cell k1)).trans k1
  have k3 := (hb4.cell (lt_of_cell k3)).trans k3
  have k4 := (hb4.cell (lt_of_cell k4)).trans k4
  have c0 := (hb4.cell (lt_of_cell c0)).trans c0
  have c1 := (hb4.cell (lt_of_cell c1)).trans c1
  clear hb4 k2 c2 c3
  cases rr
  · go_wp2_with fail
    go_ret
    have hr : writeS S path num b = (S, 1) := by
      unfold writeS
      rw [if_neg HD.out, ← HRR.out]
      rfl
    rw [hr]
    exact ⟨rfl, _, H0.out.1.below H4.out, (FrQ.of H0.out.2.2.1).trans (FrQ.of H4.out)⟩
  by_cases cn : num < 0
  · have tn : decide (num < 0) = true := decide_eq_true cn
    have HR := Lib.hid (show writeS S path num b = (S, 1) by
      unfold writeS
      rw [if_neg HD.out, ← HRR.out, tn]
      rfl)
    clear cn
    go_wp2_with fail
    go_ret
    rw [HR.out]
    exact ⟨rfl, _, H0.out.1.below H4.out, (FrQ.of H0.out.2.2.1).trans (FrQ.of H4.out)⟩
  have tn : decide (num < 0) = false := decide_eq_false cn
  have CC := CCH.out w4 H4.out
  have HCN := Lib.hid cn
  clear cn CCH
  go_wp2_with fail
  refine CC.mono ?_
  clear CC
  rintro e w5 ⟨rfl, rfl⟩
  cases fr
  · have HR := Lib.hid (show writeS S path num b = (S, 9) by
      unfold writeS
      rw [if_neg HD.out, ← HRR.out, ← HFR.out, tn]
      rfl)
    go_wp2_with fail
    go_ret
    rw [HR.out]
    exact ⟨rfl, _, H0.out.1.below H4.out, (FrQ.of H0.out.2.2.1).trans (FrQ.of H4.out)⟩
  clear tn
  obtain ⟨m, rfl⟩ : ∃ m : Nat, num = (m : Int) := ⟨num.toNat, by have := HCN.out; omega⟩
  obtain ⟨now, hnow⟩ : ∃ now, now = ((getF S.files path).getD file0).now := ⟨_, rfl⟩
  have hnowZ : now.length ≤ 100000 := by
    cases hg : getF S.files path with
    | none => rw [hnow, hg]; simp [file0]
    | some f => rw [hnow, hg]; have := (H0.out.2.2.2.1.ok _ (getF_mem hg)).2.2.1; dsimp only at this; simp only [Option.getD_some]; omega
  have HNOW := Lib.hid hnow
  obtain ⟨n1, hn1⟩ : ∃ n1, n1 = now.length := ⟨_, rfl⟩
  have HN1 := Lib.hid hn1
  have hn1z : n1 ≤ 100000 := by omega
  clear hnow hnowZ hn1
  obtain ⟨BO, hBO⟩ : ∃ BO, BO = decide ((0 : Int) ≤ oi) := ⟨_, rfl⟩
  have tBO : decide ((0 : Int) ≤ oi) = BO := hBO.symm
  have HBO := Lib.hid hBO
  clear hBO
  go_upto_if 39 with (fail)
  go_cut [6] from 40 to 47 (fun s6 wx => ∃ (wa : Option Addr) (wc : Nat), s6 = .slice wa n1 wc ∧ BsAt (Pof Q w4.heap.size t v) w4 ⟨wa, n1, wc⟩ now ∧ w4 = wx)
  case first =>
    cases o with
    | none =>
      have ho : oi = -1 := HOI.out
      have hb0 : BO = false := by rw [HBO.out, ho]; rfl
      subst ho hb0
      have hg : getF S.files path = none := HFO.out
      have hno : now = [] := by rw [HNOW.out, hg]; rfl
      have hn0 : n1 = 0 := by rw [HN1.out, hno]; rfl
      have HNO := Lib.hid (And.intro hno hn0)
      clear hg hno hn0
      go_wp2_with fail
      go_meet
      rw [HNO.out.1, HNO.out.2]
      exact ⟨none, 0, rfl, BsAt.nil _ _, rfl⟩
    | some k =>
      obtain ⟨hk, hkp⟩ := HFO.out
      have ho : oi = (k : Int) := HOI.out
      have hb0 : BO = true := by rw [HBO.out, ho]; exact decide_eq_true (by omega)
      subst ho hb0
      have h4 := H0.out.1.below H4.out
      obtain ⟨g, c, xk, rfl, IX, R, hx⟩ := h4.place hk
      have hgf : getF S.files path = some S.files[k].2 := by rw [← hkp]; exact getF_idx H0.out.2.2.2.1.sorted hk
      have hno : now = S.files[k].2.now := by rw [HNOW.out, hgf]; rfl
      obtain ⟨nl, hnl⟩ : ∃ n, n = S.files.length := ⟨_, rfl⟩
      rw [← hnl] at IX c1
      have hkn : k < nl := by rw [hnl]; exact hk
      obtain ⟨-, f1, -, -⟩ := rf_cells R
      have hnn : xk.now.n = n1 := by rw [HN1.out, hno]; exact hx.now.n
      unfold rowV at f1
      rw [hnn] at f1
      have hbw := hx.now
      rw [← hno] at hbw
      have HBW := Lib.hid (And.intro hbw hnn)
      have hkz : k ≤ 10000 := by omega
      have tge : decide ((0 : Int) ≤ (k : Int)) = true := decide_eq_true (by omega)
      clear hbw hnn hnl R hx h4 hgf hno hkp
      go_wp2_with fail
      go_meet
      refine ⟨xk.now.a, xk.now.c, rfl, ?_, rfl⟩
      have := HBW.out.1
      rw [← HBW.out.2]
      exact this
  case rest =>
    obtain ⟨wa, wc, rfl, hbw, rfl⟩ := hcut
    have HBW := Lib.hid hbw
    clear hbw
    by_cases cm : n1 < m
    · have tm : decide ((n1 : Int) < (m : Int)) = true := decide_eq_true (by omega)
      have tm' : decide (n1 < m) = true := decide_eq_true cm
      have HR := Lib.hid (show writeS S path (m : Int) b = (S, 1) by
        unfold writeS
        rw [if_neg HD.out, ← HRR.out, ← HFR.out, decide_eq_false (show ¬ (m : Int) < 0 by omega), ← HNOW.out, ← HN1.out]
        rw [if_neg (by simp), if_neg (by simp), if_pos (by omega)])
      clear cm
      go_wp2_with fail
      go_ret
      rw [HR.out]
      exact ⟨rfl, _, H0.out.1.below H4.out, (FrQ.of H0.out.2.2.1).trans (FrQ.of H4.out)⟩
    have tm : decide ((n1 : Int) < (m : Int)) = false := decide_eq_false (by omega)
    have tm' : decide (n1 < m) = false := decide_eq_false cm
    have hmn : m ≤ n1 := by omega
    have HWE := Lib.hid (write_eq H0.out.2.2.2.1 HD.out path m b HRR.out.symm HFR.out.symm (by rw [← HNOW.out, ← HN1.out]; exact hmn))
    have HBM := Lib.hid (Buf.made (B := w4.heap.size) (w0 := w4) (w := w4) (Below.refl _ _) (Nat.le_refl _))
    clear cm
    have HC := Lib.hid (And.intro k0 (And.intro k1 (And.intro k3 (And.intro k4 (And.intro c0 c1)))))
    go_upto_region 15 with (refine wpList_append_buf rfl (.tmp 53) (.tmp 54) rfl _ [] rfl HBM.out wa wc now (by show _ = Value.slice wa now.length wc; rw [← HN1.out]; rfl) (HBW.out.sl.bs.below HBM.out.2.1) HBW.out.sl.non (by rw [← HN1.out]; simp; omega) ?_; intro v6 w6 hb6 hg6; have HB6 := Lib.hid hb6; clear hb6 hg6)
    clear k0 k1 k3 k4 c0 c1 tm tm'
    go_wp2_with fail
    go_loopw [7, 8] (fun s7 s8 wr => ∃ (i : Nat) (u : Value), u = s7 ∧ s8 = .int .i64 (i : Int) ∧ i ≤ bn ∧ Buf w4.heap.size w4 wr u (onI now b m i)) (fun _ s8 _ => bn - (intOf s8).toNat)
    case atStart => exact ⟨0, v6, rfl, rfl, Nat.zero_le _, by rw [onI_zero]; exact HB6.out⟩
    case round =>
      obtain ⟨i, u, rfl, rfl, hi, hbuf⟩ := hrel
      have hL := onI_len now b (m := m) (i := i) (by rw [← HN1.out]; exact hmn) (by rw [← HBS.out.2.1]; exact hi)
      rw [← HN1.out] at hL
      have k3 := (hbuf.2.1.cell (lt_of_cell HC.out.2.2.1)).trans HC.out.2.2.1
      have k4 := (hbuf.2.1.cell (lt_of_cell HC.out.2.2.2.1)).trans HC.out.2.2.2.1
      have hsl := HBS.out.1.below (H4.out.trans (hbuf.2.1.mono H4.out.size))
      obtain ⟨ua, uc, rfl, -, -, -, -⟩ := hbuf.1.bs
      obtain ⟨li, hli⟩ : ∃ li, li = max n1 (m + i) := ⟨_, rfl⟩
      rw [hL, ← hli]
      rw [hL, ← hli] at hbuf
      rw [← hli] at hL
      have hliz : li ≤ 1000000 := by omega
      have HLI := Lib.hid hli
      have HBUF := Lib.hid hbuf
      have HSL := Lib.hid hsl
      have hw7 : IntKind.i64.wrap ((m : Int) + (i : Int)) = (m : Int) + (i : Int) := IntWalk.i64_in _ (by omega)
      have hw8 : wrap64 ((m : Int) + (i : Int)) = (m : Int) + (i : Int) := IntWalk.wrap64_in _ ⟨by omega, by omega⟩
      have HL := Lib.hid hL
      clear hbuf hsl hL hli
      by_cases hib : i < bn
      · have t1 : decide ((i : Int) < (bn : Int)) = true := decide_eq_true (by omega)
        have t1' : decide (i < bn) = true := decide_eq_true hib
        have hib2 : i < b.length := by rw [← HBS.out.2.1]; exact hib
        obtain ⟨ch, hch⟩ : ∃ ch, ch = b[i] := ⟨_, rfl⟩
        have HCH := Lib.hid (And.intro hch hib2)
        rcases HSL.out.bs with h0 | ⟨b9, o9, rfl, hc9⟩
        · rw [h0] at hib2; exact absurd hib2 (Nat.not_lt_zero _)
        have IXB := u8_index ⟨b9, o9, none⟩ bn bc i hib
        have hcb : wr.cell? ⟨b9, o9 + i, none⟩ = some (.int .u8 (ch.toNat : Int)) := by rw [hc9 i hib2, hch]
        rw [Addr.add_mid] at IXB
        clear hc9 hch
        by_cases hlt : m + i < n1
        · have t2 : decide ((m : Int) + (i : Int) < (li : Int)) = true := decide_eq_true (by have := HLI.out; omega)
          have t2' : decide (m + i < li) = true := decide_eq_true (by have := HLI.out; omega)
          obtain ⟨g9, c9, e9, -, -⟩ := HBUF.out.form (by rw [HL.out]; have := HLI.out; omega)
          injection e9 with e1 e2 e3
          subst e1
          have hmi : m + i < (onI now b m i).length := by rw [HL.out]; have := HLI.out; omega
          have IXU := u8_index ⟨g9, 0, none⟩ li uc (m + i) (by have := HLI.out; omega)
          rw [Addr.add_mid, Nat.zero_add] at IXU
          rw [show ((m + i : Nat) : Int) = (m : Int) + (i : Int) from rfl] at IXU
          have M3 : ∀ y : Later wr, y.1.cell? ⟨G, 3, none⟩ = some (.int .i64 (m : Int)) := fun y => load_later k3 y
          have M4 : ∀ y : Later wr, y.1.cell? ⟨G, 4, none⟩ = some (.slice (some ⟨b9, o9, none⟩) bn bc) := fun y => load_later k4 y
          have M5 : ∀ y : Later wr, y.1.cell? ⟨b9, o9 + i, none⟩ = some (.int .u8 (ch.toNat : Int)) := fun y => load_later hcb y
          have HMI := Lib.hid hmi
          clear e2 e3 hmi hlt
          go_upto_region 19 with (fail)
          clear t1 t1' t2 t2'
          refine wp_region_mg [(0, 0), (1, 0), (2, 0), (3, 0), (4, 0), (5, 0), (6, 0), (7, 0), (8, 0), (9, 0), (10, 0), (11, 2)] (by kernel_rfl) (by kernel_rfl) ?_
          iterate 11 (refine mg_calm rfl (fun K hK => ?_); go_simp; (refine hK _ ?_; clear hK K))
          refine mg_sync rfl rfl (fun w10 hw10 K hK => ?_)
          obtain ⟨hs1, hs2, hs3⟩ := (HBUF.out.later hw10).set HL.out.symm HMI.out ch
          have HS := Lib.hid hs1
          clear M3 M4 M5 hs1 hw10 k3 k4 hcb
          go_wp2_with fail
          refine mg_nil fun w12 hw12 => ?_
          have H12 := Lib.hid (HS.out.later hw12)
          clear hw12 hs2 hs3 IXU IXB
          go_wp2_with fail
          go_roundw
          case rel =>
            refine ⟨i + 1, _, rfl, by go_num, by omega, ?_⟩
            rw [onI_set now b (by rw [← HN1.out]; exact hmn) HCH.out.2 (by rw [← HN1.out]; have h1 := HMI.out; rw [HL.out, HLI.out] at h1; omega), ← HCH.out.1]
            exact H12.out
          case measure => simp [intOf]; omega
        · have hli2 : li = m + i := by have := HLI.out; omega
          have t2 : decide ((m : Int) + (i : Int) < (li : Int)) = false := decide_eq_false (by omega)
          have t2' : decide (m + i < li) = false := decide_eq_false (by omega)
          have HGE := Lib.hid (show n1 ≤ m + i by omega)
          have hcon := const_bytes wr [ch] (by simp) (0, 0)
          have HCON := Lib.hid hcon
          have HBU2 := Lib.hid (HBUF.out.later ((Below.refl _ _).alloc (Nat.le_refl _) (.cells #[.int .u8 (ch.toNat : Int)] 5)))
          clear hli2 hlt hcon
          go_wp2_with (refine wpList_append_buf rfl (.tmp 81) (.tmp 87) rfl _ (onI now b m i) rfl HBU2.out (some ⟨wr.heap.size, 0, none⟩) 1 [ch] rfl HCON.out.bs (fun h => nomatch h) (by rw [HL.out]; simp; omega) ?_; intro v8 w8 hb8 hg8; have HB8 := Lib.hid hb8; clear hb8 hg8)
          go_roundw
          case rel =>
            refine ⟨i + 1, _, rfl, by go_num, by omega, ?_⟩
            rw [onI_snoc now b HCH.out.2 (by rw [← HN1.out]; exact HGE.out), ← HCH.out.1]
            exact HB8.out
          case measure => simp [intOf]; omega
      · obtain rfl : i = bn := by omega
        have t1 : decide ((i : Int) < (i : Int)) = false := decide_eq_false (by omega)
        have t1' : decide (i < i) = false := decide_eq_false (by omega)
        have hib : i = b.length := HBS.out.2.1
        have HIB := Lib.hid hib
        have c0 := (HBUF.out.2.1.cell (lt_of_cell HC.out.2.2.2.2.1)).trans HC.out.2.2.2.2.1
        have c1 := (HBUF.out.2.1.cell (lt_of_cell HC.out.2.2.2.2.2)).trans HC.out.2.2.2.2.2
        have hr4 := H0.out.1.below (H4.out.trans (HBUF.out.2.1.mono H4.out.size))
        have HR4 := Lib.hid hr4
        obtain ⟨L0, ra, rc, rfl, -, -, -⟩ := hr4.rs
        obtain ⟨nl, hnl⟩ : ∃ n, n = S.files.length := ⟨_, rfl⟩
        have HNL := Lib.hid hnl
        have hnlz : nl ≤ 10000 := by omega
        rw [← hnl] at c1
        have hsf : sumF S.files ≤ 1000000000 := by
          have h1 := sumF_le Z S.files fun p hp => (H0.out.2.2.2.1.ok p hp).2.2.1
          have h2 : Z * S.files.length ≤ 100000 * 10000 := Nat.mul_le_mul hZ hfew
          omega
        have CU : ∀ z : Later wr, Calls Tryd.prog 39 #[.pointer (some ⟨t, 0, none⟩)] z.1 fun e w' => e = .returned (.int .i64 (sumF S.files : Nat)) ∧ Below z.1.heap.size z.1 w' := fun z =>
          (rfUsed_any (hr4.below z.2) hfew hsf).mono fun e w' h => ⟨h.1, by rw [← h.2]; exact Below.refl _ _⟩
        obtain ⟨su, hsu⟩ : ∃ su, su = sumF S.files := ⟨_, rfl⟩
        have HSU := Lib.hid hsu
        rw [← hsu] at CU hsf
        have hn1z2 : n1 ≤ 100000 := hn1z
        have w1e : IntKind.i64.wrap ((su : Int) - (n1 : Int)) = (su : Int) - (n1 : Int) := IntWalk.i64_in _ (by omega)
        have w2e : IntKind.i64.wrap ((su : Int) - (n1 : Int) + (li : Int)) = (su : Int) - (n1 : Int) + (li : Int) := IntWalk.i64_in _ (by omega)
        have w1f : wrap64 ((su : Int) - (n1 : Int)) = (su : Int) - (n1 : Int) := IntWalk.wrap64_in _ ⟨by omega, by omega⟩
        have w2f : wrap64 ((su : Int) - (n1 : Int) + (li : Int)) = (su : Int) - (n1 : Int) + (li : Int) := IntWalk.wrap64_in _ ⟨by omega, by omega⟩
        obtain ⟨q0, hq0⟩ : ∃ q0, q0 = S.quota := ⟨_, rfl⟩
        rw [← hq0] at c0
        have HQ0 := Lib.hid hq0
        obtain ⟨F, hF⟩ : ∃ F, F = fullB S path n1 li := ⟨_, rfl⟩
        have HF := Lib.hid hF
        have K0 : ∀ y : Later wr, y.1.cell? ⟨t, 0, none⟩ = some (.int .i64 q0) := fun y => load_later c0 y
        have K1 : ∀ y : Later wr, y.1.cell? ⟨t, 1, none⟩ = some (.slice ra nl rc) := fun y => load_later c1 y
        clear hib hr4 hnl hsu hq0 hF hw7 hw8
        go_upto_region 21 with (fail)
        clear t1 t1' c0 c1 k3 k4
        go_cut [127] from 89 to 127 (fun s wx => s = .bool F ∧ Below wr.heap.size wr wx)
        case first =>
          have hFe : F = ((decide (n1 < li) && (decide (q0 < 0) || decide (q0 < (su : Int) - n1 + li))) || ((getF S.files path).isNone && decide (10000 ≤ nl))) := by rw [HF.out, HSU.out, HQ0.out, HNL.out]; rfl
          have hDe : decide (oi < 0) = (getF S.files path).isNone := by
            rw [HOI.out]
            cases o with
            | none => have hg : getF S.files path = none := HFO.out; rw [hg]; rfl
            | some k =>
              obtain ⟨hk, hkp⟩ := HFO.out
              have hg : getF S.files path = some S.files[k].2 := by rw [← hkp]; exact getF_idx H0.out.2.2.2.1.sorted hk
              rw [hg]
              exact decide_eq_false (by show ¬ (k : Int) < 0; omega)
          rw [← hDe] at hFe
          clear hDe
          have a1 : decide ((n1 : Int) < (li : Int)) = decide (n1 < li) := by rw [Bool.eq_iff_iff, decide_eq_true_eq, decide_eq_true_eq]; omega
          have e1 : decide ((10000 : Int) ≤ (nl : Int)) = decide (10000 ≤ nl) := by rw [Bool.eq_iff_iff, decide_eq_true_eq, decide_eq_true_eq]; omega
          obtain ⟨A, hA⟩ : ∃ A, A = decide (n1 < li) := ⟨_, rfl⟩
          obtain ⟨Bq, hBq⟩ : ∃ B, B = decide (q0 < 0) := ⟨_, rfl⟩
          obtain ⟨C, hC⟩ : ∃ C, C = decide (q0 < (su : Int) - n1 + li) := ⟨_, rfl⟩
          obtain ⟨D, hD⟩ : ∃ D, D = decide (oi < 0) := ⟨_, rfl⟩
          obtain ⟨E, hE⟩ : ∃ E, E = decide (10000 ≤ nl) := ⟨_, rfl⟩
          rw [← hA, ← hBq, ← hC, ← hD, ← hE] at hFe
          rw [← hA] at a1
          rw [← hE] at e1
          have a2 := hA.symm
          have b2 := hBq.symm
          have c2 := hC.symm
          have d2 := hD.symm
          have e2 := hE.symm
          have HFF := Lib.hid hFe
          clear hA hBq hC hD hE hFe
          cases A
          case false =>
            cases D
            case false =>
              refine wp_region_mg [(0, 0), (1, 0), (2, 0), (3, 0), (4, 0), (5, 0), (6, 0), (7, 0), (8, 0), (9, 0), (10, 0), (11, 0), (12, 0), (13, 0), (14, 0), (15, 0), (16, 0), (17, 0), (18, 0), (19, 0), (20, 0), (21, 0), (22, 0), (23, 0), (24, 0), (25, 0), (26, 0), (27, 0), (28, 0), (29, 0), (30, 0), (31, 0), (32, 0), (33, 0), (34, 0), (35, 0), (36, 0), (37, 0), (38, 0)] (by kernel_rfl) (by kernel_rfl) ?_
              iterate 39 (refine mg_calm rfl (fun K hK => ?_); go_simp; (refine hK _ ?_; clear hK K))
              refine mg_nil fun w9 hw9 => ?_
              have H9 := Lib.hid hw9
              clear hw9
              go_wp2_with fail
              go_meet
              exact ⟨by rw [HFF.out]; simp, H9.out⟩
            case true =>
              refine wp_region_mg [(0, 0), (1, 0), (2, 0), (3, 0), (4, 0), (5, 0), (6, 0), (7, 0), (8, 0), (9, 0), (10, 0), (11, 0), (12, 0), (13, 0), (14, 0), (15, 0), (16, 0), (17, 0), (18, 0), (19, 0), (20, 0), (21, 0), (22, 0), (23, 0), (24, 0), (25, 0), (26, 0), (27, 0), (28, 0), (29, 0), (30, 0), (31, 0), (32, 0), (33, 0), (34, 0), (35, 0), (36, 0), (37, 0), (38, 0)] (by kernel_rfl) (by kernel_rfl) ?_
              iterate 39 (refine mg_calm rfl (fun K hK => ?_); go_simp; (refine hK _ ?_; clear hK K))
              refine mg_nil fun w9 hw9 => ?_
              have H9 := Lib.hid hw9
              clear hw9
              go_wp2_with fail
              go_meet
              exact ⟨by rw [HFF.out]; simp, H9.out⟩
          case true =>
            cases Bq
            case true =>
              refine wp_region_mg [(0, 0), (1, 0), (2, 0), (3, 0), (4, 0), (5, 0), (6, 0), (7, 0), (8, 0), (9, 0), (10, 0), (11, 0), (12, 0), (13, 0), (14, 0), (15, 0), (16, 0), (17, 0), (18, 0), (19, 0), (20, 0), (21, 0), (22, 0), (23, 0), (24, 0), (25, 0), (26, 0), (27, 0), (28, 0), (29, 0), (30, 0), (31, 0), (32, 0), (33, 0), (34, 0), (35, 0), (36, 0), (37, 0), (38, 0)] (by kernel_rfl) (by kernel_rfl) ?_
              iterate 39 (refine mg_calm rfl (fun K hK => ?_); go_simp; (refine hK _ ?_; clear hK K))
              refine mg_nil fun w9 hw9 => ?_
              have H9 := Lib.hid hw9
              clear hw9
              go_wp2_with fail
              go_meet
              exact ⟨by rw [HFF.out]; simp, H9.out⟩
            case false =>
              cases C
              case true =>
                refine wp_region_mg [(0, 0), (1, 0), (2, 0), (3, 0), (4, 0), (5, 0), (6, 0), (7, 0), (8, 0), (9, 0), (10, 0), (11, 0), (12, 0), (13, 0), (14, 0), (15, 0), (16, 0), (17, 0), (18, 0), (19, 0), (20, 0), (21, 0), (22, 0), (23, 0), (24, 0), (25, 0), (26, 0), (27, 0), (28, 0), (29, 0), (30, 0), (31, 0), (32, 0), (33, 0), (34, 0), (35, 0), (36, 0), (37, 0), (38, 0)] (by kernel_rfl) (by kernel_rfl) ?_
                iterate 13 (refine mg_calm rfl (fun K hK => ?_); go_simp; (refine hK _ ?_; clear hK K))
                (refine mg_calm rfl (fun K hK => ?_); go_simp; apply Exists.intro; refine ⟨fun z => CU z, hK _ ?_⟩; clear hK K)
                iterate 25 (refine mg_calm rfl (fun K hK => ?_); go_simp; (refine hK _ ?_; clear hK K))
                refine mg_nil fun w9 hw9 => ?_
                have H9 := Lib.hid hw9
                clear hw9
                go_wp2_with fail
                go_meet
                exact ⟨by rw [HFF.out]; simp, H9.out⟩
              case false =>
                cases D
                case false =>
                  refine wp_region_mg [(0, 0), (1, 0), (2, 0), (3, 0), (4, 0), (5, 0), (6, 0), (7, 0), (8, 0), (9, 0), (10, 0), (11, 0), (12, 0), (13, 0), (14, 0), (15, 0), (16, 0), (17, 0), (18, 0), (19, 0), (20, 0), (21, 0), (22, 0), (23, 0), (24, 0), (25, 0), (26, 0), (27, 0), (28, 0), (29, 0), (30, 0), (31, 0), (32, 0), (33, 0), (34, 0), (35, 0), (36, 0), (37, 0), (38, 0)] (by kernel_rfl) (by kernel_rfl) ?_
                  iterate 13 (refine mg_calm rfl (fun K hK => ?_); go_simp; (refine hK _ ?_; clear hK K))
                  (refine mg_calm rfl (fun K hK => ?_); go_simp; apply Exists.intro; refine ⟨fun z => CU z, hK _ ?_⟩; clear hK K)
                  iterate 25 (refine mg_calm rfl (fun K hK => ?_); go_simp; (refine hK _ ?_; clear hK K))
                  refine mg_nil fun w9 hw9 => ?_
                  have H9 := Lib.hid hw9
                  clear hw9
                  go_wp2_with fail
                  go_meet
                  exact ⟨by rw [HFF.out]; simp, H9.out⟩
                case true =>
                  refine wp_region_mg [(0, 0), (1, 0), (2, 0), (3, 0), (4, 0), (5, 0), (6, 0), (7, 0), (8, 0), (9, 0), (10, 0), (11, 0), (12, 0), (13, 0), (14, 0), (15, 0), (16, 0), (17, 0), (18, 0), (19, 0), (20, 0), (21, 0), (22, 0), (23, 0), (24, 0), (25, 0), (26, 0), (27, 0), (28, 0), (29, 0), (30, 0), (31, 0), (32, 0), (33, 0), (34, 0), (35, 0), (36, 0), (37, 0), (38, 0)] (by kernel_rfl) (by kernel_rfl) ?_
                  iterate 13 (refine mg_calm rfl (fun K hK => ?_); go_simp; (refine hK _ ?_; clear hK K))
                  (refine mg_calm rfl (fun K hK => ?_); go_simp; apply Exists.intro; refine ⟨fun z => CU z, hK _ ?_⟩; clear hK K)
                  iterate 25 (refine mg_calm rfl (fun K hK => ?_); go_simp; (refine hK _ ?_; clear hK K))
                  refine mg_nil fun w9 hw9 => ?_
                  have H9 := Lib.hid hw9
                  clear hw9
                  go_wp2_with fail
                  go_meet
                  exact ⟨by rw [HFF.out]; simp, H9.out⟩
        case rest =>
          obtain ⟨rfl, hb9⟩ := hcut
          have H9 := Lib.hid hb9
          clear hb9 K0 K1 w1e w2e w1f w2f
          have hwe := HWE.out
          rw [← HNOW.out, ← HN1.out, ← HIB.out, ← HLI.out, ← HF.out] at hwe
          have hbw : Below w4.heap.size w4 wc := HBUF.out.2.1.trans (H9.out.mono HBUF.out.2.1.size)
          have k1 := (hbw.cell (lt_of_cell HC.out.2.1)).trans HC.out.2.1
          have h9 := HR4.out.below H9.out
          have c1 := h9.cells.2.1
          rw [← HNL.out] at c1
          have hsz19 : w1.heap.size ≤ wc.heap.size := Nat.le_trans H4.out.size hbw.size
          have hrow : ∀ j, (Value.slice ra S.files.length rc).ownBlock = some j → j < w1.heap.size := fun j e => by
            obtain ⟨L, hL, -⟩ := H0.out.1.row
            exact row_lt hL e
          have hnb : BsAt (Pof Q wc.heap.size t (.slice ra S.files.length rc)) wc ⟨ua, li, uc⟩ (onI now b m i) := by
            have hb8 := HBUF.out.later H9.out
            obtain ⟨a8, c8, e8, hsl8⟩ := hb8.1.sl
            injection e8 with e1 e2 e3
            refine ⟨HL.out.symm, by rw [e1, e3]; exact hsl8, fun y hy => ?_⟩
            rcases hb8.1.2 with ⟨hv, _⟩ | ⟨g8, cap, cur, hv, hg8, hh, _⟩
            · injection hv with hv; rw [hv] at hy; cases hy
            · injection hv with hv
              rw [hv] at hy
              injection hy with hy
              subst hy
              have h1 : w1.heap.size ≤ g8 := Nat.le_trans H4.out.size hg8
              have h2 := lt_of_block hh
              exact ⟨H0.out.2.1 g8 h1, h2, by have := H0.out.1.tlt; show g8 ≠ t; omega, fun e => by have := hrow g8 e; omega⟩
          have HW := Lib.hid (And.intro hwe (And.intro hbw (And.intro h9 (And.intro hsz19 (And.intro hrow hnb)))))
          have hfrw : FrQ Q w wc := ((FrQ.of H0.out.2.2.1).trans (FrQ.of H4.out)).trans ((FrQ.of HBUF.out.2.1).trans (FrQ.of H9.out))
          have HFR9 := Lib.hid hfrw
          clear hwe hbw h9 hsz19 hrow hnb hfrw
          cases F
          case true =>
            clear k1 c1
            go_wp2_with fail
            go_ret
            have hr : writeS S path (m : Int) b = (S, 7) := by rw [HW.out.1]; exact if_pos (by first | rfl | trivial)
            rw [hr]
            exact ⟨rfl, _, HW.out.2.2.1, HFR9.out⟩
          case false =>
          have BF := fun W : World => buildF path W
          obtain ⟨ZF, hZF⟩ : ∃ Z : Array Value, Z = #[.string ByteArray.empty, .slice none 0 0, .slice none 0 0, .slice none 0 0] := ⟨_, rfl⟩
          have z : ∀ w, (zeroValue 79).run Tryd.prog w = .ok (.agg ZF) w := fun w => by rw [hZF]; kernel_rfl
          have hzs : ZF.size = 4 := by rw [hZF]; rfl
          clear hZF
          go_upto_region 24 with (first | (refine wpList_build_at rfl _ _ rfl [(0, .string (strOf path))] _ rfl (BF _) ?_) | (refine wpList_store_bxf rfl _ _ rfl wc ((Below.refl _ _).alloc (Nat.le_refl _) _) wc.heap.size (rfa0 path) rfl rfl (Nat.le_refl _) _ (heap_alloc_last _ _ _ rfl) hzs ?_; intro w5 hb5; have H5 := Lib.hid hb5; clear hb5))
          clear BF z hzs
          obtain ⟨GF, hGF⟩ : ∃ GF, GF = wc.heap.size := ⟨_, rfl⟩
          have HGF := Lib.hid hGF
          obtain ⟨Q', hQ'⟩ : ∃ Q' : Nat → Prop, Q' = fun j => Q j ∧ j ≠ GF := ⟨_, rfl⟩
          have HQ := Lib.hid (And.intro (show ∀ j, Q' j → Q j from fun j hj => by rw [hQ'] at hj; exact hj.1) (And.intro (show ∀ j, Q' j → j ≠ GF from fun j hj => by rw [hQ'] at hj; exact hj.2) (show ∀ j, wc.heap.size < j → Q' j from fun j hj => by rw [hQ']; exact ⟨H0.out.2.1 j (by have := HW.out.2.2.2.1; omega), by omega⟩)))
          have HP9 := Lib.hid (show ∀ (W : World) (u : Value), wc.heap.size ≤ W.heap.size → (∀ g, u.ownBlock = some g → wc.heap.size ≤ g ∨ (Value.slice ra S.files.length rc).ownBlock = some g) → ∀ j, Pof Q wc.heap.size t (.slice ra S.files.length rc) j → Pof Q' W.heap.size t u j from fun _ _ hs hu j hp => ⟨by rw [hQ']; exact ⟨hp.1, by have := hp.2.1; omega⟩, by have := hp.2.1; omega, hp.2.2.1, fun e => by
            rcases hu j e with h | h
            · have := hp.2.1; omega
            · exact hp.2.2.2 h⟩)
          have hra : ∀ (W : World), Below wc.heap.size wc W → RefAt Q' W t (.slice ra S.files.length rc) S.quota S.files left S.down := fun _ hb => HW.out.2.2.1.keep hb.size fun j hq hj => ⟨by rw [hQ']; exact ⟨hq, by omega⟩, hb.block j hj⟩
          have HRA := Lib.hid hra
          rw [← hGF]
          clear hQ' hGF hra
          have tBO : decide ((0 : Int) ≤ oi) = BO := HBO.out.symm
          go_upto_if 132 with (fail)
          clear tBO
          go_cut [] from 133 to 142 (fun wx => ∃ (v' : Value) (xk : RfA), wx.heap[GF]? = some (.cells (recA encF xk) 79 (0, 0)) ∧ RefAt Q' wx t v' S.quota (delF S.files path) left S.down ∧ RfIs (Pof Q' wx.heap.size t v') wx xk (path, (getF S.files path).getD file0) ∧ BsAt (Pof Q' wx.heap.size t v') wx ⟨ua, li, uc⟩ (onI now b m i) ∧ (∀ j, v'.ownBlock = some j → j < wx.heap.size) ∧ FrQ Q wc wx ∧ GF < wx.heap.size)
          case first =>
            cases o with
            | none =>
              have hg : getF S.files path = none := HFO.out
              have hb0 : BO = false := by rw [HBO.out, HOI.out]; rfl
              subst hb0
              have HG9 := Lib.hid hg
              clear hg
              go_wp2_with fail
              go_meet
              refine ⟨.slice ra S.files.length rc, rfa0 path, by rw [HGF.out]; exact H5.out.blk, by rw [delF_none HG9.out]; exact HRA.out _ H5.out.frame, ?_, HW.out.2.2.2.2.2.keep fun j hp => ⟨HP9.out _ _ H5.out.frame.size (fun g h => .inr h) j hp, H5.out.frame.block j hp.2.1⟩, fun j e => by have := HW.out.2.2.2.2.1 j e; have := HW.out.2.2.2.1; have := H5.out.frame.size; omega, FrQ.of H5.out.frame, by rw [HGF.out]; exact lt_of_block H5.out.blk⟩
              rw [HG9.out]
              exact ⟨rfl, BsAt.nil _ _, BsAt.nil _ _, SnAt.nil _ _⟩
            | some k =>
              obtain ⟨hk, hkp⟩ := HFO.out
              have ho : oi = (k : Int) := HOI.out
              have hb0 : BO = true := by rw [HBO.out, ho]; exact decide_eq_true (by omega)
              subst ho hb0
              obtain ⟨g, c, xk, hv, IX, R, hx⟩ := HW.out.2.2.1.place hk
              injection hv with e1 e2 e3
              subst e1 e3
              have hgf : getF S.files path = some S.files[k].2 := by rw [← hkp]; exact getF_idx H0.out.2.2.2.1.sorted hk
              rw [← HNL.out] at IX
              have LX := tyF.load xk g (k * 4) w5 (rangeR_below R H5.out.frame)
              have c15 := (H5.out.frame.cell (lt_of_cell c1)).trans c1
              have hbz : w5.heap[GF]? = some (.cells (recA encF (rfa0 path)) 79 (0, 0)) := by rw [HGF.out]; exact H5.out.blk
              have hfarG : wc.heap.size ≤ GF := by rw [HGF.out]; exact Nat.le_refl _
              have hkn : k < nl := by rw [HNL.out]; exact hk
              have hkz : k ≤ 10000 := by omega
              have HK9 := Lib.hid (And.intro hkp (And.intro hgf (And.intro hx (del_key H0.out.2.2.2.1.sorted hk hkp))))
              clear hkp hgf hx R e2 c1
              go_upto_region 26 with (first | (refine wpList_load_at rfl _ _ rfl _ _ rfl LX ?_) | (refine wpList_store_bxf rfl _ _ rfl wc H5.out.frame GF xk rfl rfl hfarG _ hbz rfl ?_; intro w6 hb6; have H6 := Lib.hid hb6; clear hb6))
              have CO := rfOut_any (HRA.out _ H6.out.frame) (fun j hj => HQ.out.2.2 j (by have := lt_of_block H6.out.blk; rw [← HGF.out]; omega)) (by omega) hk
              clear LX c15 hbz hfarG IX
              go_wp2_with fail
              refine CO.mono ?_
              clear CO
              rintro e w7 ⟨rfl, v7, h7, hb7, hf7⟩
              have H7 := Lib.hid (And.intro h7 (And.intro hb7 hf7))
              clear h7 hb7 hf7
              go_wp2_with fail
              go_meet
              have htw : t < wc.heap.size := HW.out.2.2.1.tlt
              have hs67 := H7.out.2.1.size
              have hsc6 := H6.out.frame.size
              have hGt : GF ≠ t := by rw [HGF.out]; omega
              have hkeep : ∀ j, Pof Q wc.heap.size t (.slice (some ⟨g, 0, none⟩) S.files.length rc) j → Pof Q' w7.heap.size t v7 j ∧ w7.heap[j]? = wc.heap[j]? := fun j hp =>
                ⟨HP9.out _ _ (Nat.le_trans hsc6 hs67) (fun g9 h9 => .inl (Nat.le_trans hsc6 (H7.out.2.2 g9 h9))) j hp, (H7.out.2.1.keep j (by have := hp.2.1; omega) hp.2.2.1).trans (H6.out.frame.block j hp.2.1)⟩
              refine ⟨v7, xk, (H7.out.2.1.keep GF (lt_of_block H6.out.blk) hGt).trans H6.out.blk, by rw [HK9.out.2.2.2]; exact H7.out.1, ?_, HW.out.2.2.2.2.2.keep hkeep, fun j e => ?_, (FrQ.of H6.out.frame).trans (FrQ.but H7.out.2.1 H0.out.1.tq), Nat.lt_of_lt_of_le (lt_of_block H6.out.blk) hs67⟩
              · rw [HK9.out.2.1]
                have h8 := HK9.out.2.2.1.keep hkeep
                exact ⟨h8.path.trans HK9.out.1, h8.now, h8.kept, h8.since⟩
              · obtain ⟨L, hL, -⟩ := H7.out.1.row
                exact row_lt hL e
          case rest =>
            obtain ⟨v7, xk, hbk7, h7, hx7, hb7, hv7, hf7, hG7⟩ := hcut
            have hQ7 : ∀ j, wc.heap.size ≤ j → Q' j := fun j hj => HQ.out.2.2 j (by rw [← HGF.out]; omega)
            have F1 := free_blk hbk7 1
            have f1 : wc.cell? ⟨GF, 1, none⟩ = some (.slice xk.now.a xk.now.n xk.now.c) := cell_of_row _ _ _ _ _ _ hbk7
            have H7 := Lib.hid (And.intro hbk7 (And.intro h7 (And.intro hx7 (And.intro hb7 (And.intro hv7 (And.intro hf7 (And.intro hG7 hQ7)))))))
            clear hbk7 h7 hx7 hb7 hv7 hf7 hG7 hQ7 c1 k1
            go_upto_region 28 with (fail)
            have hbk8 : (wc.setCell ⟨GF, 1, none⟩ (.slice ua li uc)).heap[GF]? = some (.cells (recA encF { xk with now := ⟨ua, li, uc⟩ }) 79 (0, 0)) := by rw [Go.heap_setCell_same wc GF 1 _ _ _ H7.out.1]; rfl
            have hoth8 : ∀ j, j ≠ GF → (wc.setCell ⟨GF, 1, none⟩ (.slice ua li uc)).heap[j]? = wc.heap[j]? := fun j hj => Below.heap_setCell _ _ _ _ hj
            have hsz8 : (wc.setCell ⟨GF, 1, none⟩ (.slice ua li uc)).heap.size = wc.heap.size := by simp [World.setCell]
            have hfr8 : FrQ Q wc (wc.setCell ⟨GF, 1, none⟩ (.slice ua li uc)) := ⟨rfl, rfl, rfl, by rw [hsz8]; exact Nat.le_refl _, fun j hj => ⟨hj.1, hoth8 j fun e => hj.2 (by rw [e]; exact H0.out.2.1 GF (by have := HW.out.2.2.2.1; rw [HGF.out]; exact this))⟩⟩
            have hkp8 : ∀ j, Pof Q' wc.heap.size t v7 j → Pof Q' (wc.setCell ⟨GF, 1, none⟩ (.slice ua li uc)).heap.size t v7 j ∧ (wc.setCell ⟨GF, 1, none⟩ (.slice ua li uc)).heap[j]? = wc.heap[j]? := fun j hp => ⟨⟨hp.1, by rw [hsz8]; exact hp.2.1, hp.2.2⟩, hoth8 j (HQ.out.2.1 j hp.1)⟩
            have H8 := Lib.hid (And.intro hbk8 (And.intro (H7.out.2.1.keep (Q' := Q') (w' := wc.setCell ⟨GF, 1, none⟩ (.slice ua li uc)) (by rw [hsz8]; exact Nat.le_refl _) fun j hq _ => ⟨hq, hoth8 j (HQ.out.2.1 j hq)⟩) (And.intro (H7.out.2.2.1.keep hkp8) (And.intro (H7.out.2.2.2.1.keep hkp8) (And.intro (show ∀ j, v7.ownBlock = some j → j < (wc.setCell ⟨GF, 1, none⟩ (.slice ua li uc)).heap.size from fun j e => by rw [hsz8]; exact H7.out.2.2.2.2.1 j e) (And.intro (H7.out.2.2.2.2.2.1.trans hfr8) (show ∀ j, (wc.setCell ⟨GF, 1, none⟩ (.slice ua li uc)).heap.size ≤ j → Q' j from fun j hj => H7.out.2.2.2.2.2.2.2 j (by rw [← hsz8]; exact hj))))))))
            clear hbk8 hoth8 hsz8 hfr8 hkp8 F1 f1
            generalize wc.setCell ⟨GF, 1, none⟩ (.slice ua li uc) = w8 at *
            obtain ⟨M, hM1, hM2, hM3⟩ := H8.out.2.2.1.since.ex
            have hMl : M.length ≤ 100000 := by
              rw [hM3.length, sinceL_len]
              cases hg : getF S.files path with
              | none => simp [file0]
              | some f => have := (H0.out.2.2.2.1.ok _ (getF_mem hg)).2.2.2.2; dsimp only at this; simp only [Option.getD_some]; omega
            have f3 : w8.cell? ⟨GF, 3, none⟩ = some (.slice xk.since.a xk.since.n xk.since.c) := cell_of_row _ _ _ _ _ _ H8.out.1
            have f3b := ((OwnR.made 1 encR w8 28).frame.cell (lt_of_cell f3)).trans f3
            have HM := Lib.hid (And.intro hM1 (And.intro hM2 (And.intro hM3 hMl)))
            clear f3 hM1 hM2 hM3 hMl
            go_upto_region 29 with (first | (refine wpList_buildSlice_at rfl _ _ _ rfl [] _ rfl (tyR.slice0 w8) ?_) | (refine wpList_append_empty_1 tyR rfl (.tmp 145) (.tmp 147) rfl w8.heap.size rfl (OwnR.made 1 encR w8 28) xk.since.a xk.since.n xk.since.c M rfl HM.out.1 (HM.out.2.1.below (OwnR.made 1 encR w8 28).frame) (by have := HM.out.2.2.2; omega) ?_; intro v9 w9 hb9 hg9; have HB9 := Lib.hid hb9; clear hb9 hg9 f3b) | (refine wpList_buildSlice_at rfl _ _ _ rfl [(0, .slice ua li uc)] _ rfl (tyR.slice1 ⟨ua, li, uc⟩ w9) ?_) | (refine wpList_append_1 tyR rfl (.tmp 148) (.tmp 150) rfl _ M rfl (HB9.out.later ((Below.refl _ _).alloc (Nat.le_refl _) (.cells (recA encR ⟨ua, li, uc⟩) 28))) (some ⟨w9.heap.size, 0, none⟩) 1 1 [⟨ua, li, uc⟩] rfl rfl (RsAt.one (enc := encR) (L := 1) w9 28 ⟨ua, li, uc⟩) (by have := HM.out.2.2.2; rw [List.length_singleton]; omega) ?_; intro v10 w10 hb10 hg10 hn10; obtain ⟨va, vc, rfl, -, -⟩ := hb10.rs1 tyR; have hss := since_set2 H8.out.1 HQ.out.2.1 H8.out.2.2.2.2.2.2 H8.out.2.1.tlt H8.out.2.2.2.2.1 HM.out.2.2.1 H8.out.2.2.2.1 hb10; have HSS := Lib.hid hss; have HB10 := Lib.hid hb10.frame; have F10 := hss.2.2.2.2.1; have f10 := hss.2.2.2.2.2; unfold rowV at f10; clear hb10 hg10 hn10 hss; generalize (M ++ [(⟨ua, li, uc⟩ : RowA)]).length = n10 at *))
            have HT := Lib.hid (show w8.heap.size ≤ w10.heap.size from HB10.out.size)
            obtain ⟨W9, hW9⟩ : ∃ W9, W9 = w10.setCell ⟨GF, 3, none⟩ (.slice va n10 vc) := ⟨_, rfl⟩
            rw [← hW9] at HSS ⊢
            have hosW : W9.os = w10.os ∧ W9.tape = w10.tape ∧ W9.output = w10.output := by rw [hW9]; exact ⟨rfl, rfl, rfl⟩
            have hfr9 : FrQ Q w8 W9 := ⟨hosW.1.trans HB10.out.os, hosW.2.1.trans HB10.out.tape, hosW.2.2.trans HB10.out.output, HSS.out.2.2.2.1, fun j hj => ⟨hj.1, HSS.out.2.2.1 j hj.1 fun e => hj.2 (by rw [e]; exact H0.out.2.1 GF (by have := HW.out.2.2.2.1; rw [HGF.out]; exact this))⟩⟩
            have h9 := H8.out.2.1.keep (Q' := Q') (w' := W9) HSS.out.2.2.2.1 fun j hq hj => ⟨hq, HSS.out.2.2.1 j hj (HQ.out.2.1 j hq)⟩
            have hkp9 : ∀ j, Pof Q' w8.heap.size t v7 j → Pof Q' W9.heap.size t v7 j ∧ W9.heap[j]? = w8.heap[j]? := fun j hp => ⟨⟨hp.1, Nat.lt_of_lt_of_le hp.2.1 HSS.out.2.2.2.1, hp.2.2⟩, HSS.out.2.2.1 j hp.2.1 (HQ.out.2.1 j hp.1)⟩
            have hok0 : ((getF S.files path).getD file0).ok := by
              cases hg : getF S.files path with
              | none => exact file0_ok
              | some f => exact (H0.out.2.2.2.1.ok _ (getF_mem hg)).1
            have hon : onI now b m i = Chg.on ⟨m, -1, b⟩ ((getF S.files path).getD file0).now := by rw [HIB.out, onI_all, HNOW.out]
            have hx9 : RfIs (Pof Q' W9.heap.size t v7) W9 ⟨xk.path, ⟨ua, li, uc⟩, xk.kept, ⟨va, n10, vc⟩⟩ (path, doF ((getF S.files path).getD file0) ⟨m, -1, b⟩) := by
              have hq := H8.out.2.2.1.keep hkp9
              refine ⟨hq.path, ?_, hq.kept, ?_⟩
              · show BsAt (Pof Q' W9.heap.size t v7) W9 ⟨ua, li, uc⟩ (Chg.on ⟨m, -1, b⟩ ((getF S.files path).getD file0).now)
                rw [← hon]
                exact H8.out.2.2.2.1.keep hkp9
              · show SnAt (Pof Q' W9.heap.size t v7) W9 ⟨va, n10, vc⟩ (sinceL (doF ((getF S.files path).getD file0) ⟨m, -1, b⟩))
                rw [sinceL_do hok0, ← hon]
                exact HSS.out.2.1
            have LB := tyF.load ⟨xk.path, ⟨ua, li, uc⟩, xk.kept, ⟨va, n10, vc⟩⟩ GF 0 W9 (recBox HSS.out.1)
            have CI := rfIn_any h9 (fun j hj => H8.out.2.2.2.2.2.2 j (Nat.le_trans HSS.out.2.2.2.1 hj)) (by have := length_del_le S.files path; omega) hx9
            have H9 := Lib.hid (And.intro hfr9 h9.tq)
            obtain ⟨x9, hx9e⟩ : ∃ x9 : RfA, x9 = ⟨xk.path, ⟨ua, li, uc⟩, xk.kept, ⟨va, n10, vc⟩⟩ := ⟨_, rfl⟩
            rw [← hx9e] at LB CI
            clear hx9e hW9 hosW hfr9 h9 hkp9 hok0 hon hx9 F10 f10
            go_wp2_with (refine wpList_load_at rfl _ _ rfl _ _ rfl LB ?_)
            refine CI.mono ?_
            clear CI LB
            rintro e w12 ⟨rfl, v12, h12, hb12, -⟩
            have H12 := Lib.hid (And.intro h12 hb12)
            clear h12 hb12
            go_wp2_with fail
            go_ret
            have hr := HW.out.1
            rw [if_neg (by simp)] at hr
            rw [hr]
            refine ⟨rfl, v12, ?_, ?_⟩
            · show RefAt Q w12 t v12 S.quota (doneS _).files left S.down
              rw [doneS_files]
              exact H12.out.1.keep (Nat.le_refl _) fun j hq _ => ⟨HQ.out.1 j hq, rfl⟩
            · exact ((HFR9.out.trans H8.out.2.2.2.2.2.1).trans H9.out.1).trans (FrQ.but H12.out.2 (HQ.out.1 t H9.out.2))
end Go.Proofs.YthjjdcfkdmhmlaaDoor
