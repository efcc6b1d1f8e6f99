/-
  The law InflateFixed, walked.
-/
import Derived.Test.YtaapnjhkflpiiaaFixPure
import Derived.Test.YtaapnjhkflpiiaaInfRawWalk
import Derived.Test.YtaapnjhkflpiiaaDefShortWalk
namespace Go.Proofs.Ytaapnjhkflpiiaa
open Go.RowKit Go.Mix

/-- The texts of codes, indexed by whatever kind. -/
theorem texts_at {w : World} {g c : Nat} {cs : List (List UInt8)} (h : Cells w (some ⟨g, 0, none⟩) (scells cs)) (kd : IntKind) (ki : Int) (i n : Nat) (hki : ki = (i : Int)) (hn : n = cs.length) (hi : i < n) :
    (∀ W : World, (Instr.indexAt 40 (.slice (some ⟨g, 0, none⟩) n c) (.int kd ki)).run Try.prog W = .ok (.pointer (some (elt (some ⟨g, 0, none⟩) i))) W) ∧ w.cell? (elt (some ⟨g, 0, none⟩) i) = some (.string ⟨(cs.getD i []).toArray⟩) := by
  subst hki hn
  have hl : i < (scells cs).length := by rw [scells_length]; exact hi
  refine ⟨fun W => run_index_any (P := Try.prog) h 40 Try.underlying40 sizeOf_string c (n := cs.length) hi (by rw [scells_length]; omega) kd W, ?_⟩
  rw [h.2 i hl, List.getD_eq_getElem?_getD, List.getElem?_eq_getElem hi]
  simp [scells]

theorem bytes_len (l : List UInt8) : (⟨l.toArray⟩ : ByteArray).size = l.length := rfl
abbrev farT : List (List UInt8) := [[48, 48, 48, 48, 48], [48, 48, 48, 48, 49], [48, 48, 48, 49, 48], [48, 48, 48, 49, 49]]
theorem far_text : ∀ dd, dd < 4 → farT.getD dd [] = textOf (codeBits dd 5) := by decide

theorem text_index (bs : List Nat) (hb : IsBits bs) (i : Nat) (hi : i < bs.length) (W : World) :
    (Instr.index 9 (.string ⟨(textOf bs).toArray⟩) (.int .i64 (i : Int))).run Try.prog W = .ok (.int .u8 ((48 + bs.getD i 0 : Nat) : Int)) W := by
  have hl : i < (textOf bs).length := by rw [textOf_len]; exact hi
  rw [Go.run_index_string W 9 _ .i64 i Try.underlying9, dif_pos ⟨by omega, by rw [bytes_len]; omega⟩]
  have e : ((⟨(textOf bs).toArray⟩ : ByteArray)[(i : Int).toNat]'(by rw [bytes_len]; simpa using hl)) = (textOf bs)[i] := by
    simp [ByteArray.getElem_eq_getElem_data]
  have h2 := hb.getD i
  rw [e]
  congr 2
  have e2 : (textOf bs)[i] = UInt8.ofNat (48 + bs.getD i 0) := by simp [textOf, List.getD_eq_getElem?_getD, List.getElem?_eq_getElem hi]
  rw [e2, ofNat_toNat_lt _ (by omega)]
theorem put_bits1 (r y : Nat) (h : y ||| 1 * 2 ^ r = y + 1 * 2 ^ r) (hlt : y + 1 * 2 ^ r < 256) :
    bits .or .u8 (y : Int) (IntKind.u8.wrap ((2 : Int) ^ r)) = ((y + 1 * 2 ^ r : Nat) : Int) := by
  have e : (2 : Int) ^ r = ((1 * 2 ^ r : Nat) : Int) := by rw [Nat.one_mul, Int.natCast_pow]; rfl
  rw [e]
  have e2 : IntKind.u8.wrap ((1 * 2 ^ r : Nat) : Int) = ((1 * 2 ^ r : Nat) : Int) := by rw [IntKind.wrap_u8]; omega
  rw [e2, u8_or_nat _ _ (by omega) (by omega), h]
theorem packB_zero (bs : List Nat) (h : IsBits bs) : packB (bs ++ [0]) = roomB bs := by
  obtain ⟨p1, p2, -, -⟩ := packB_snoc bs h 0 (by decide)
  rw [p1]
  have hq : bs.length / 8 < (roomB bs).length := by rw [roomB_len]; omega
  have e : UInt8.ofNat (byteB bs (bs.length / 8) (bs.length % 8) + 0 * 2 ^ (bs.length % 8)) = (roomB bs)[bs.length / 8] := by
    rw [List.getD_eq_getElem?_getD, List.getElem?_eq_getElem hq] at p2
    simp only [Option.getD_some] at p2
    rw [Nat.zero_mul, Nat.add_zero, ← p2, UInt8.ofNat_toNat]
  rw [e, List.set_getElem_self]

set_option maxRecDepth 100000 in
set_option maxHeartbeats 1000000 in
theorem inflateFixed_walk (a : Option Addr) (len cap : Nat) (zs : List Int) (back : Int) (w : World) (h : RowIn w a len cap zs) (_hw : (Lit.int .i64 back).wf = true) :
    Calls Try.prog 11 #[.slice a len cap, .int .i64 back] w fun e w' => e = .returned (.bool true) ∧ Below w.heap.size w w' := by
  obtain ⟨L, rfl, hL⟩ := open_sl h
  clear h
  have hLl := hL.le
  have hLm := hL.max
  obtain ⟨bq, hbq⟩ : ∃ bq, bq = min L.length 300 := ⟨_, rfl⟩
  obtain ⟨b, hb, hbl, hsb, hb1⟩ := hL.to (bq : Int) bq rfl (by omega)
  have hmin1 := min_run (L.length : Int) 300 bq (by split <;> omega)
  have hb3 : b.length ≤ 300 := by omega
  clear hb hbl hL hbq
  have C0 := refFixed_any w
  have e1 : (genC fixedL).length = 288 := by rw [genC_len, fixedL_len]
  have hl := fixedL_len
  have hdl := fixedD_len
  have HT := Lib.hid genL_text
  generalize fixedL = FL at *
  generalize fixedD = FD at *
  rw [hl, hdl] at C0
  go_enter Try.func11, Try.ntmps11
  go_wp2_with fail
  refine C0.mono ?_
  rintro e w1 ⟨a1, c1, a2, c2, rfl, hn1, hn2, g1⟩
  have C1 := codes_any hn1 (by omega)
  rw [hl] at C1
  clear C0 hmin1 hb1
  go_wp2_with fail
  refine Calls.mono C1 ?_
  rintro e w2 ⟨gc, cc, rfl, hgc, hgw, hcc, hcells, g12⟩
  have hgcl : gc < w2.heap.size := by
    rcases Nat.lt_or_ge gc w2.heap.size with h | h
    · exact h
    · exact absurd (Array.getElem?_eq_none h) hgc
  have hsb2 := (hsb.below g1).below (g12.mono (by have := g1.size; omega))
  have G2 : Below w.heap.size w w2 := g1.trans (g12.mono g1.size)
  clear C1 hn1 hn2 hsb hgc hgw g1 g12 hl hdl
  generalize genC FL = CS at *
  go_wp2_with fail
  go_loop [8, 9] (fun s8 s9 => ∃ i : Nat, s9 = .int .i64 (i : Int) ∧ i ≤ b.length ∧ s8 = .string ⟨(textOf ([1, 1, 0] ++ litBits (b.take i))).toArray⟩) (fun _ s9 => b.length - (intOf s9).toNat)
  case atStart => exact ⟨0, rfl, Nat.zero_le _, rfl⟩
  case round =>
    obtain ⟨i, rfl, hi, rfl⟩ := hrel
    by_cases hib : i < b.length
    · have t1 : decide ((i : Int) < (b.length : Int)) = true := decide_eq_true (by omega)
      have t2 : decide (i < b.length) = true := decide_eq_true hib
      obtain ⟨IK, IC⟩ := hsb2.at (i : Int) i rfl hib
      have hc := b[i].toNat_lt
      have hnext : litBits (b.take (i + 1)) = litBits (b.take i) ++ signBits b[i].toNat := by
        rw [List.take_succ_eq_append_getElem hib, litBits_app]; simp [litBits]
      have hll := litBits_len (b.take i)
      have hlt : (b.take i).length ≤ 300 := by rw [List.length_take]; omega
      have hsl := signBits_len b[i].toNat
      have HN := Lib.hid hnext
      clear hnext
      generalize b[i] = c at *
      obtain ⟨IT, IS⟩ := texts_at (c := cc) hcells .u8 (c.toNat : Int) c.toNat 288 rfl e1.symm (by omega)
      rw [HT.out c.toNat (by omega)] at IS
      have SA := fun W => Go.run_string_add_lists (P := Try.prog) W (textOf ([1, 1, 0] ++ litBits (b.take i))) (textOf (signBits c.toNat)) (by rw [textOf_len]; simp; omega) (by rw [textOf_len]; omega)
      rw [← textOf_app, List.append_assoc, ← HN.out] at SA
      clear hll hlt hsl
      generalize textOf ([1, 1, 0] ++ litBits (b.take i)) = t0 at *
      generalize textOf (signBits c.toNat) = t9 at *
      generalize ht' : textOf ([1, 1, 0] ++ litBits (b.take (i + 1))) = t10 at *
      go_wp2_with fail
      go_round
      case rel => exact ⟨i + 1, by go_num, by omega, by rw [ht']⟩
      case measure => simp [intOf]; omega
    · obtain rfl : i = b.length := by omega
      have t1 : decide ((b.length : Int) < (b.length : Int)) = false := decide_eq_false (by omega)
      have t2 : decide (b.length < b.length) = false := decide_eq_false (by omega)
      rw [List.take_length]
      have hll := litBits_len b
      obtain ⟨T1, hT1⟩ : ∃ T1, T1 = textOf ([1, 1, 0] ++ litBits b) := ⟨_, rfl⟩
      rw [← hT1]
      have hT1l : T1.length ≤ 4600 := by rw [hT1, textOf_len, List.length_append]; simp; omega
      have HT1 := Lib.hid hT1
      clear hT1 hll
      go_upto_if 50 with (at_builtin; refine wpList_append_b (S := (· < w2.heap.size)) (w0 := w2) rfl (.tmp 45) (.tmp 46) rfl _ [] rfl (Row.made (FrameS.refl fun k hk => hk)) a cap b rfl (hsb2.below ((Below.refl _ _).alloc (Nat.le_refl _) _)) (by simp; omega) ?_; intro v5 w5 hb5 hgr5; rw [List.nil_append] at hb5)
      clear t1 t2 hgr5
      have hF5 := hb5.frame.toBelow (fun k hk => hk)
      have hcell5 := hcells.below hF5
      obtain ⟨av5, cv5, rfl, hsv5⟩ := hb5.sl
      have HT2 := fun (s : Nat) (hs : s < 286) => texts_at (c := cc) hcells .i64 (s : Int) s 288 rfl e1.symm (by omega)
      go_cut [8, 10] from 48 to 85 (fun s8 s10 wc => ∃ dd : Nat, (b ≠ [] → dd < 4 ∧ dd < b.length) ∧ s8 = .string ⟨(textOf ([1, 1, 0] ++ litBits b ++ tailBits b dd)).toArray⟩ ∧ RowB (· < w2.heap.size) w2 wc s10 (fixWant b dd))
      case first =>
        by_cases h0 : b = []
        · subst h0
          refine wp_cond_split rfl (fun h => ?_) (fun h => ?_)
          · simp at h
          clear h
          go_wp2_with fail
          go_meet
          case rel => exact ⟨0, fun h => absurd rfl h, by rw [HT1.out]; simp [tailBits], hb5⟩
        · have hl0 : 0 < b.length := List.length_pos_iff.2 h0
          obtain ⟨q4, hq4⟩ : ∃ q4, q4 = min b.length 4 := ⟨_, rfl⟩
          have hmin4 := min_run (b.length : Int) 4 q4 (by split <;> omega)
          obtain ⟨dd, hdd, ek0⟩ := u64_mod back q4 (by omega) (by omega)
          have en : IntKind.u64.wrap (q4 : Int) = (q4 : Int) := by rw [IntKind.wrap_u64]; omega
          have hn0 : ¬ (q4 : Int) = 0 := by omega
          have hd4 : dd < 4 ∧ dd < b.length := by omega
          refine wp_cond_split rfl (fun h => ?_) (fun h => ?_)
          rotate_left
          · exfalso; rw [decide_eq_false_iff_not] at h; omega
          clear h hq4
          have em : wrap64 ((IntKind.u64.wrap back).tmod (q4 : Int)) = (dd : Int) := ek0
          have hF6 : Below w5.heap.size w5 (w5.alloc (.cells #[.string ⟨#[48, 48, 48, 48, 48]⟩, .string ⟨#[48, 48, 48, 48, 49]⟩, .string ⟨#[48, 48, 48, 49, 48]⟩, .string ⟨#[48, 48, 48, 49, 49]⟩] 9)) := (Below.refl _ _).alloc (Nat.le_refl _) _
          have hFb : (w5.alloc (.cells #[.string ⟨#[48, 48, 48, 48, 48]⟩, .string ⟨#[48, 48, 48, 48, 49]⟩, .string ⟨#[48, 48, 48, 49, 48]⟩, .string ⟨#[48, 48, 48, 49, 49]⟩] 9)).heap[w5.heap.size]? = some (.cells #[.string ⟨#[48, 48, 48, 48, 48]⟩, .string ⟨#[48, 48, 48, 48, 49]⟩, .string ⟨#[48, 48, 48, 49, 48]⟩, .string ⟨#[48, 48, 48, 49, 49]⟩] 9 (0, 0)) := heap_alloc_last _ _ _ rfl
          have hFc : Cells (w5.alloc (.cells #[.string ⟨#[48, 48, 48, 48, 48]⟩, .string ⟨#[48, 48, 48, 48, 49]⟩, .string ⟨#[48, 48, 48, 49, 48]⟩, .string ⟨#[48, 48, 48, 49, 49]⟩] 9)) (some ⟨w5.heap.size, 0, none⟩) (scells farT) := by
            refine And.intro (fun h => nomatch h) fun j hj => ?_
            rw [elt_own, cell_of_row _ _ j _ _ _ hFb, ← Array.getElem?_toList]
            exact List.getElem?_eq_getElem hj
          go_upto_region 13 with (fail)
          rw [em]
          generalize w5.alloc (.cells #[.string ⟨#[48, 48, 48, 48, 48]⟩, .string ⟨#[48, 48, 48, 48, 49]⟩, .string ⟨#[48, 48, 48, 49, 48]⟩, .string ⟨#[48, 48, 48, 49, 49]⟩] 9) = w6 at *
          have hb6 := hb5.later hF6
          obtain ⟨IKF, -⟩ := texts_at (c := 4) hFc .i64 (dd : Int) dd 4 rfl rfl hd4.1
          obtain ⟨IKT, -⟩ := HT2 264 (by decide)
          have lF : ∀ y : Later w6, y.1.cell? (elt (some ⟨w5.heap.size, 0, none⟩) dd) = some (.string ⟨(textOf (codeBits dd 5)).toArray⟩) := fun y => by
            have := (texts_at (c := 4) (hFc.below y.2) .i64 (dd : Int) dd 4 rfl rfl hd4.1).2
            rw [far_text dd hd4.1] at this
            exact this
          have lT : ∀ y : Later w6, y.1.cell? (elt (some ⟨gc, 0, none⟩) 264) = some (.string ⟨(textOf (signBits 264)).toArray⟩) := fun y => by
            have := (texts_at (c := cc) ((hcell5.below hF6).below y.2) .i64 ((264 : Nat) : Int) 264 288 rfl e1.symm (by omega)).2
            rw [HT.out 264 (by omega)] at this
            exact this
          simp only [elt_own] at lF lT IKF IKT
          have hl264 := signBits_len 264
          have SA1 := fun W => Go.run_string_add_lists (P := Try.prog) W T1 (textOf (signBits 264)) (by omega) (by rw [textOf_len]; omega)
          obtain ⟨T2, hT2⟩ : ∃ T2, T2 = T1 ++ textOf (signBits 264) := ⟨_, rfl⟩
          rw [← hT2] at SA1
          have hT2l : T2.length ≤ 4620 := by rw [hT2, List.length_append, textOf_len]; omega
          have SA2 := fun W => Go.run_string_add_lists (P := Try.prog) W T2 (textOf (codeBits dd 5)) (by omega) (by rw [textOf_len, codeBits_len]; omega)
          obtain ⟨T3, hT3⟩ : ∃ T3, T3 = T2 ++ textOf (codeBits dd 5) := ⟨_, rfl⟩
          rw [← hT3] at SA2
          have HT3 := Lib.hid (show T3 = textOf ([1, 1, 0] ++ litBits b ++ tailBits b dd) by
            rw [hT3, hT2, HT1.out]; unfold tailBits; rw [if_neg h0, ← textOf_app, ← textOf_app]; simp)
          clear hT2 hT3 hl264 ek0 em hmin4 hn0 en hFb hb5
          generalize textOf (signBits 264) = X1 at *
          generalize textOf (codeBits dd 5) = X2 at *
          refine wp_region_mix [(0, 0), (1, 0), (2, 0), (3, 0), (4, 0), (5, 0), (6, 0), (7, 0), (8, 0), (9, 0), (10, 0)] (by kernel_rfl) (by kernel_rfl) ?_
          iterate 11 (refine mix_calm rfl (fun K hK => ?_); go_simp; (refine hK _ ?_; clear hK K))
          refine mix_nil fun w7 hw7 => ?_
          have hb7 := hb6.later hw7
          clear lF lT SA1 SA2 IKF IKT hb6 hw7 hFc HT2 hcell5
          have HGW := Lib.hid (show fixWant b dd = growL (dd + 1) 10 b from if_neg h0)
          generalize w5.heap.size = F at *
          go_wp2_with fail
          go_loopw [10, 13] (fun s10 s13 wr => ∃ (j : Nat) (o : List UInt8), s13 = .int .i64 (j : Int) ∧ j ≤ 10 ∧ o.length = b.length + j ∧ growL (dd + 1) (10 - j) o = fixWant b dd ∧ RowB (· < w2.heap.size) w2 wr s10 o) (fun _ s13 _ => 10 - (intOf s13).toNat)
          case atStart => exact ⟨0, b, rfl, by decide, rfl, HGW.out.symm, hb7⟩
          case round =>
            clear hb7
            obtain ⟨j, o, rfl, hj, hol, hgr, hrow⟩ := hrel
            by_cases hj10 : j < 10
            · have t1 : decide ((j : Int) < 10) = true := decide_eq_true (by omega)
              rw [show 10 - j = (10 - (j + 1)) + 1 by omega, growL] at hgr
              obtain ⟨ao, co, rfl, hso⟩ := hrow.sl
              have hk : o.length - (dd + 1) < o.length := by omega
              obtain ⟨IK, IC⟩ := hso.at ((o.length : Int) - (dd : Int) - 1) (o.length - (dd + 1)) (by omega) hk
              have hgd : o.getD (o.length - (dd + 1)) 0 = o[o.length - (dd + 1)] := by rw [List.getD_eq_getElem?_getD, List.getElem?_eq_getElem hk]; rfl
              rw [hgd] at hgr
              have HGR := Lib.hid hgr
              clear hgr hgd
              generalize o[o.length - (dd + 1)] = c at *
              generalize o.length - (dd + 1) = k at *
              have hsmall : o.length ≤ 400 := by omega
              have hge : dd < o.length := by omega
              have HOL := Lib.hid hol
              clear hol
              go_wp2_with (at_builtin; refine wpList_append_n rfl (.tmp 74) (.tmp 83) rfl _ o rfl hrow _ [c] (by simp [bcells]) 1 1 rfl rfl (by simp; omega) ?_; intro v8 w8 hb8 hgr8)
              go_roundw
              case rel => exact ⟨j + 1, o ++ [c], by go_num, by omega, by rw [List.length_append, HOL.out, List.length_singleton]; omega, HGR.out, hb8⟩
              case measure => simp [intOf]; omega
            · obtain rfl : j = 10 := by omega
              have t1 : decide (((10 : Nat) : Int) < 10) = false := decide_eq_false (by omega)
              rw [growL] at hgr
              go_wp2_with fail
              go_meet
              case rel => exact ⟨dd, fun _ => hd4, by rw [HT3.out], by rw [← hgr]; exact hrow⟩
      case rest =>
        clear hb5 hF5 hcell5 HT2 hsv5
        obtain ⟨dd, hdd, rfl, hrow⟩ := hcut
        have hFc := hrow.frame.toBelow (fun k hk => hk)
        obtain ⟨IKT, ICT⟩ := texts_at (c := cc) (hcells.below hFc) .i64 256 256 288 rfl e1.symm (by omega)
        rw [HT.out 256 (by decide)] at ICT
        have G3 := G2.trans (hFc.mono G2.size)
        obtain ⟨aw, cw, rfl, hsw⟩ := hrow.sl
        have hB := fixBits_isBits b dd
        have hBl := fixBits_len b dd hb3
        have HR := Lib.hid (rawOf_fix b dd hdd hb3)
        have hwl : (fixWant b dd).length ≤ 400 := by
          unfold fixWant; split
          · simp
          · rw [growL_len]; omega
        have hpre : (textOf ([1, 1, 0] ++ litBits b ++ tailBits b dd)).length ≤ 5000 := by
          rw [textOf_len]
          have : (fixBits b dd).length = ([1, 1, 0] ++ litBits b ++ tailBits b dd).length + (signBits 256).length := by unfold fixBits; rw [List.length_append]
          omega
        have h256l := signBits_len 256
        have SA := fun W => Go.run_string_add_lists (P := Try.prog) W (textOf ([1, 1, 0] ++ litBits b ++ tailBits b dd)) (textOf (signBits 256)) (by omega) (by rw [textOf_len]; omega)
        rw [← textOf_app, show [1, 1, 0] ++ litBits b ++ tailBits b dd ++ signBits 256 = fixBits b dd from rfl] at SA
        simp only [elt_own] at IKT ICT
        have HSI := Lib.hid (text_index (fixBits b dd) hB)
        have hsz : (⟨(textOf (fixBits b dd)).toArray⟩ : ByteArray).size = (fixBits b dd).length := by rw [bytes_len, textOf_len]
        generalize (⟨(textOf (fixBits b dd)).toArray⟩ : ByteArray) = ST at *
        generalize textOf ([1, 1, 0] ++ litBits b ++ tailBits b dd) = T3 at *
        generalize textOf (signBits 256) = X3 at *
        generalize fixBits b dd = BB at *
        generalize fixWant b dd = WB at *
        obtain ⟨n, hn⟩ : ∃ n, n = BB.length := ⟨_, rfl⟩
        rw [← hn] at hsz hBl
        have HN := Lib.hid hn
        have HB := Lib.hid hB
        clear hn hB hcells hrow hFc hpre h256l hT1l hdd HT hsb2
        go_wp2_with fail
        go_loopw [14, 15] (fun s14 s15 wr => ∃ i : Nat, s15 = .int .i64 (i : Int) ∧ i ≤ n ∧ RowB (· < wc.heap.size) wc wr s14 (packB (BB.take i))) (fun _ s15 _ => n - (intOf s15).toNat)
        case atStart => exact ⟨0, rfl, Nat.zero_le _, by rw [show packB (BB.take 0) = [] by rw [List.take_zero]; rfl]; exact Row.nil (FrameS.refl fun k hk => hk)⟩
        case round =>
          obtain ⟨i, rfl, hi, hrow⟩ := hrel
          by_cases hin : i < n
          · have t1 : decide ((i : Int) < (n : Int)) = true := decide_eq_true (by omega)
            have t1' : decide (i < n) = true := decide_eq_true hin
            have htl : (BB.take i).length = i := by rw [List.length_take, ← HN.out]; omega
            have hBi : IsBits (BB.take i) := fun x hx => HB.out x (List.mem_of_mem_take hx)
            have HSN := Lib.hid (show BB.take (i + 1) = BB.take i ++ [BB.getD i 0] by
              have hiB : i < BB.length := by rw [← HN.out]; exact hin
              rw [List.take_succ_eq_append_getElem hiB, List.getD_eq_getElem?_getD, List.getElem?_eq_getElem hiB]; rfl)
            have hx2 := HB.out.getD i
            have SI := HSI.out i (by rw [← HN.out]; exact hin)
            have hpl := packB_len (BB.take i)
            rw [htl] at hpl
            have hrl := roomB_len (BB.take i)
            rw [htl] at hrl
            have HRM := Lib.hid (show roomB (BB.take i) = if i % 8 = 0 then packB (BB.take i) ++ [0] else packB (BB.take i) by unfold roomB; rw [htl])
            have HZ := Lib.hid (packB_zero (BB.take i) hBi)
            have PURE := Lib.hid (packB_snoc (BB.take i) hBi 1 (by decide))
            rw [htl] at PURE
            generalize BB.getD i 0 = x at *
            generalize hB1 : BB.take (i + 1) = B1 at *
            generalize BB.take i = B0 at *
            clear hBi
            go_upto_if 98 with (fail)
            go_cut [14] from 99 to 102 (fun s14 wx => RowB (· < wc.heap.size) wc wx s14 (roomB B0))
            case first =>
              refine wp_cond_split rfl (fun h => ?_) (fun h => ?_)
              · have h8 : i % 8 = 0 := by rw [beq_iff_eq] at h; omega
                have HRM2 := Lib.hid (HRM.out.trans (if_pos h8))
                clear h
                go_wp2_with (at_builtin; refine wpList_append_n rfl (.tmp 99) (.tmp 100) rfl _ _ rfl hrow _ [0] rfl 1 1 rfl rfl (by simp; omega) ?_; intro v8 w8 hb8 hgr8)
                go_meet
                case rel => rw [HRM2.out]; exact hb8
              · have h8 : ¬ i % 8 = 0 := by rw [beq_eq_false_iff_ne] at h; omega
                have HRM2 := Lib.hid (HRM.out.trans (if_neg h8))
                clear h
                go_wp2_with fail
                go_meet
                case rel => rw [HRM2.out]; exact hrow
            case rest =>
              clear hrow
              have hrow2 := hcut
              clear hcut
              go_upto_if 105 with (fail)
              refine wp_cond_split rfl (fun h => ?_) (fun h => ?_)
              · have hx1 : x = 1 := by rw [beq_iff_eq] at h; omega
                subst hx1
                clear h SI hx2
                have hq8 : i / 8 < (roomB B0).length := by omega
                have hr8 : i % 8 < 8 := Nat.mod_lt _ (by decide)
                obtain ⟨g, cg, rfl, hSg⟩ := hrow2.block (by intro e; have := congrArg List.length e; rw [bcells_length, hrl] at this; simp at this)
                rw [bcells_length] at hrow2 ⊢
                have hsl := hrow2.sl_of.2
                obtain ⟨IK, -⟩ := hsl.at ((i / 8 : Nat) : Int) (i / 8) rfl hq8
                have hel : ∀ y : Later wc, y.1.cell? (elt (some ⟨g, 0, none⟩) (i / 8)) = some (.int .u8 (byteB B0 (i / 8) (i % 8) : Nat)) := fun y => by
                  have h1 := ((hsl.below y.2).at ((i / 8 : Nat) : Int) (i / 8) rfl hq8).2
                  have h2 := PURE.out.2.1
                  rw [List.getD_eq_getElem?_getD, List.getElem?_eq_getElem hq8] at h2
                  simp only [Option.getD_some] at h2
                  rw [h1, h2]
                have v1 : IntKind.i64.wrap ((i : Int) / 8) = ((i / 8 : Nat) : Int) := IntWalk.i64_in _ (by omega)
                have v2 : (i : Int).tmod 8 = ((i % 8 : Nat) : Int) := Int.tmod_eq_emod_of_nonneg (by omega)
                simp only [elt_own] at hel IK
                have HI := Lib.hid hin
                clear hpl hrl hin t1 t1' hi
                generalize i / 8 = q at *
                generalize i % 8 = r at *
                generalize byteB B0 q r = y at *
                refine wp_region_mix [(0, 0), (1, 0), (2, 0), (3, 0), (4, 0), (5, 0), (6, 0), (7, 0), (8, 0), (9, 0), (10, 2)] (by kernel_rfl) (by kernel_rfl) ?_
                iterate 10 (refine mix_calm rfl (fun K hK => ?_); go_simp; (refine hK _ ?_; clear hK K))
                obtain ⟨p1, p2, p3, p4⟩ := PURE.out
                rw [put_bits1 r y p3 p4]
                clear p3 PURE
                generalize y + 1 * 2 ^ r = z at *
                refine mix_sync rfl rfl (fun w8 hw8 K hK => ?_)
                have hb8 := hrow2.later hw8
                have hfz := hb8.free q
                have hce : w8.cell? ⟨g, q, none⟩ = some (.int .u8 (y : Int)) := hel ⟨w8, hw8⟩
                obtain ⟨hb9, hg9⟩ := hb8.storedB q (UInt8.ofNat z) (z : Int) (by rw [ofNat_toNat_lt _ p4])
                rw [← p1] at hb9
                have HL9 := Lib.hid (show (packB (B0 ++ [1])).length = (roomB B0).length by rw [p1, List.length_set])
                clear p1 p2 p4 hg9 hsl IK hel v1 v2 hb8 hrow2
                go_wp2_with fail
                refine mix_nil fun w10 hw10 => ?_
                have hb10 := hb9.later hw10
                clear hw10 hb9 hce hfz
                have hin := HI.out
                go_wp2_with fail
                go_roundw
                case rel => exact ⟨i + 1, by go_num, by omega, by rw [hB1, HSN.out]; exact hb10⟩
                case measure => simp [intOf]; omega
              · have hx0 : x = 0 := by rw [beq_eq_false_iff_ne] at h; omega
                subst hx0
                clear h SI hx2
                go_wp2_with fail
                go_roundw
                case rel => exact ⟨i + 1, by go_num, by omega, by rw [hB1, HSN.out, HZ.out]; exact hrow2⟩
                case measure => simp [intOf]; omega
          · obtain rfl : i = n := by omega
            have t1 : decide ((i : Int) < (i : Int)) = false := decide_eq_false (by omega)
            have htk : BB.take i = BB := List.take_of_length_le (by rw [← HN.out]; exact Nat.le_refl _)
            rw [htk] at hrow
            have hpl := packB_len BB
            rw [← HN.out] at hpl
            have hg := hrow.frame.toBelow (fun k hk => hk)
            have hsw2 := hsw.below hg
            have G4 := G3.trans (hg.mono G3.size)
            obtain ⟨ap, cp, rfl, hsp⟩ := hrow.sl
            have hpl6 : (packB BB).length ≤ 1000000 := by omega
            clear hrow htk hg hsw hpl
            generalize packB BB = PB at *
            go_wp2_with fail
            refine (raw_sl HR.out hsp (by omega) (by decide)).mono ?_
            rintro e w8 ⟨a8, c8, rfl, h8, g8⟩
            have hsp8 := hsp.below g8
            have hsw8 := hsw2.below g8
            have G8 := G4.trans (g8.mono G4.size)
            clear hsp hsw2 G4 g8
            go_wp2_with fail
            refine (known03_any _).mono ?_
            rintro e w9 ⟨rfl, g9⟩
            have u1 := (hsw8.below g9).str
            have u2 := (h8.below g9).str
            have u3 : ((PB.length : Int) == (PB.length : Int)) = true := by simp
            have G9 := G8.trans (g9.mono G8.size)
            clear hsp8 hsw8 h8 G8 g9
            go_wp2_with fail
            go_ret
            exact ⟨rfl, G9⟩
end Go.Proofs.Ytaapnjhkflpiiaa
