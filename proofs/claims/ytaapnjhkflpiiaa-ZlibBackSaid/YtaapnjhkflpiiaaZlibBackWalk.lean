/-
  The law ZlibBack, walked.
-/
import Derived.Test.YtaapnjhkflpiiaaZlib4
import Derived.Test.YtaapnjhkflpiiaaDefSizesWalk
namespace Go.Proofs.Ytaapnjhkflpiiaa
open Go.RowKit Go.Mix

/-- Four bytes, the first i of them turned. -/
def turned (t turn : List UInt8) (i : Nat) : List UInt8 := (List.range 4).map fun j => if j < i then t.getD j 0 ^^^ turn.getD j 0 else t.getD j 0
theorem turned_len (t turn : List UInt8) (i : Nat) : (turned t turn i).length = 4 := rfl
theorem turned_zero (t turn : List UInt8) (h : t.length = 4) : turned t turn 0 = t := by
  match t, h with
  | [a, b, c, d], _ => rfl
theorem turned_step (t turn : List UInt8) (i : Nat) (hi : i < 4) : (turned t turn i).set i (t.getD i 0 ^^^ turn.getD i 0) = turned t turn (i + 1) := by
  have : i = 0 ∨ i = 1 ∨ i = 2 ∨ i = 3 := by omega
  rcases this with rfl | rfl | rfl | rfl <;> rfl
theorem turned_at (t turn : List UInt8) (i : Nat) (hi : i < 4) : (turned t turn i).getD i 0 = t.getD i 0 := by
  have : i = 0 ∨ i = 1 ∨ i = 2 ∨ i = 3 := by omega
  rcases this with rfl | rfl | rfl | rfl <;> rfl
/-- Are the first i of them noughts? -/
def noughts (turn : List UInt8) : Nat → Bool
  | 0 => true
  | i + 1 => noughts turn i && decide (turn.getD i 0 = 0)
theorem xor_same (x y : UInt8) : x ^^^ y = x ↔ y = 0 := by
  constructor
  · intro h
    have h2 : x ^^^ (x ^^^ y) = x ^^^ x := by rw [h]
    rw [← UInt8.xor_assoc, UInt8.xor_self, UInt8.zero_xor] at h2
    exact h2
  · intro h; rw [h, UInt8.xor_zero]
theorem turned_same (t turn : List UInt8) (h : t.length = 4) : turned t turn 4 = t ↔ noughts turn 4 = true := by
  match t, h with
  | [a, b, c, d], _ =>
    have e : turned [a, b, c, d] turn 4 = [a ^^^ turn.getD 0 0, b ^^^ turn.getD 1 0, c ^^^ turn.getD 2 0, d ^^^ turn.getD 3 0] := rfl
    rw [e]
    unfold noughts noughts noughts noughts noughts
    simp only [List.cons.injEq, xor_same, and_true, Bool.true_and, Bool.and_eq_true, decide_eq_true_eq]
    constructor
    · rintro ⟨h1, h2, h3, h4⟩; exact ⟨⟨⟨h1, h2⟩, h3⟩, h4⟩
    · rintro ⟨⟨⟨h1, h2⟩, h3⟩, h4⟩; exact ⟨h1, h2, h3, h4⟩

theorem open_turned (b turn : List UInt8) : openOf ([120, 156] ++ rawPackOf b ++ turned (tailOf b) turn 4) (b.length : Int) = if noughts turn 4 = true then (b, (rawPackOf b).length + 6, 0) else ([], 0, 5) := by
  have h := open_wrap b (turned (tailOf b) turn 4) [] rfl
  rw [List.append_nil] at h
  rw [h]
  by_cases hz : noughts turn 4 = true
  · rw [if_pos ((turned_same _ _ rfl).2 hz), if_pos hz]
  · rw [if_neg (fun e => hz ((turned_same _ _ rfl).1 e)), if_neg hz]

set_option maxRecDepth 100000 in
set_option maxHeartbeats 4000000 in
theorem zlibBack_walk (a : Option Addr) (len cap : Nat) (zs : List Int) (a2 : Option Addr) (len2 cap2 : Nat) (zs2 : List Int) (turn : List UInt8) (less : Int) (w : World) (h : RowIn w a len cap zs) (h2 : RowIn w a2 len2 cap2 zs2) (ht : turn.length = 4) (_hw : (Lit.int .i64 less).wf = true) :
    Calls Try.prog 16 #[.slice a len cap, .slice a2 len2 cap2, .agg (bcells turn).toArray, .int .i64 less] w fun e w' => e = .returned (.bool true) ∧ Below w.heap.size w w' := by
  obtain ⟨L, rfl, hL⟩ := open_sl h
  obtain ⟨M, rfl, hM⟩ := open_sl h2
  clear h h2
  have hLl := hL.le
  have hLm := hL.max
  have hMl := hM.le
  have hMm := hM.max
  obtain ⟨bq, hbq⟩ : ∃ bq, bq = min L.length 2000 := ⟨_, rfl⟩
  obtain ⟨mq, hmq⟩ : ∃ mq, mq = min M.length 2000 := ⟨_, rfl⟩
  obtain ⟨b, hb, hbl, hsb, hb1⟩ := hL.to (bq : Int) bq rfl (by omega)
  obtain ⟨m, hm, hml, hsm, hm1⟩ := hM.to (mq : Int) mq rfl (by omega)
  have hmin1 := min_run (L.length : Int) 2000 bq (by split <;> omega)
  have hmin2 := min_run (M.length : Int) 2000 mq (by split <;> omega)
  have hb6 : b.length ≤ 2000 := by omega
  have hm6 : m.length ≤ 2000 := by omega
  clear hb hbl hm hml hL hM hbq hmq
  obtain ⟨t0, t1, t2, t3, rfl⟩ : ∃ t0 t1 t2 t3, turn = [t0, t1, t2, t3] := by
    match turn, ht with
    | [a, b, c, d], _ => exact ⟨a, b, c, d, rfl⟩
  go_enter Try.func16, Try.ntmps16
  go_wp2_with fail
  refine wp_region_mix [(0, 0), (1, 0), (2, 0), (3, 0), (4, 0), (5, 0), (6, 0), (7, 0), (8, 0), (9, 0), (10, 0), (11, 0)] (by kernel_rfl) (by kernel_rfl) ?_
  iterate 12 (refine mix_calm rfl (fun K hK => ?_); go_simp; (refine hK _ ?_; clear hK K))
  refine mix_nil fun w0 hw0 => ?_
  have gA : Below w.heap.size w (w.alloc (.cells (bcells [t0, t1, t2, t3]).toArray 44)) := (Below.refl _ _).alloc (Nat.le_refl _) _
  have hTA : (w.alloc (.cells (bcells [t0, t1, t2, t3]).toArray 44)).heap[w.heap.size]? = some (.cells (bcells [t0, t1, t2, t3]).toArray 44 (0, 0)) := heap_alloc_last _ _ _ rfl
  have g0' : Below (w.alloc (.cells (bcells [t0, t1, t2, t3]).toArray 44)).heap.size (w.alloc (.cells (bcells [t0, t1, t2, t3]).toArray 44)) w0 := hw0
  have hT0 := (g0'.block _ (lt_of_block hTA)).trans hTA
  have g0 : Below w.heap.size w w0 := gA.trans (g0'.mono gA.size)
  have hsb0 := hsb.below g0
  have hsm0 := hsm.below g0
  clear hb1 hm1 hmin1 hmin2 hsb hsm hw0 gA g0' hTA
  generalize hTT : w.heap.size = TT at hT0
  obtain ⟨W, hW⟩ : ∃ W, W = wrapOf b := ⟨_, rfl⟩
  have hWl : W.length = (rawPackOf b).length + 6 := by
    rw [hW]; unfold wrapOf
    rw [List.length_append, List.length_append, tail_len]
    show 2 + _ + 4 = _; omega
  have hpl : (rawPackOf b).length ≤ 20000 := by
    have h1 : (rawPackOf b).length ≤ (storedOf b).length := by
      unfold rawPackOf; split
      · assumption
      · exact Nat.le_refl _
    have h2 := storedOf_len b
    omega
  have hO1 := open_wrap b (tailOf b) m rfl
  rw [if_pos rfl, ← hWl] at hO1
  have hO1' : openOf (W ++ m) (b.length : Int) = (b, W.length, 0) := by rw [show W ++ m = [120, 156] ++ rawPackOf b ++ tailOf b ++ m by rw [hW]; rfl]; exact hO1
  have hWd : W = [120, 156] ++ rawPackOf b ++ turned (tailOf b) [t0, t1, t2, t3] 0 := by rw [hW, turned_zero _ _ (tail_len b)]; rfl
  have hO2 := open_turned b [t0, t1, t2, t3]
  obtain ⟨k, hk, ek0⟩ := u64_mod less W.length (by omega) (by omega)
  have ek1 : IntKind.u64.wrap (W.length : Int) = (W.length : Int) := by rw [IntKind.wrap_u64]; omega
  have hW0 : ¬ (W.length : Int) = 0 := by omega
  have hO3 : openOf (W.take k) (b.length : Int) = ([], 0, 3) := by rw [hW]; exact open_cut b k (by rw [← hW]; exact hk)
  have hO4 : b ≠ [] → openOf W ((b.length : Int) - 1) = ([], 0, 2) := fun h => by rw [hW]; exact open_less b h
  have CW := Lib.hid (fun (X : World) (h : Sl X a cap b) => wrap_any h (by omega))
  rw [← hW] at CW
  obtain ⟨D, hD⟩ : ∃ D, D = [120, 156] ++ rawPackOf b := ⟨_, rfl⟩
  rw [← hD] at hWd hO2
  have hDl : W.length = D.length + 4 := by rw [hWd, List.length_append, turned_len]
  have hW2 : W.length ≤ 30000 := by omega
  have O1 := Lib.hid hO1'
  have O2 := Lib.hid hO2
  have O3 := Lib.hid hO3
  have O4 := Lib.hid hO4
  have EK := Lib.hid (And.intro ek0 (And.intro ek1 hW0))
  have HWD := Lib.hid (And.intro hWd hDl)
  clear hO1 hO1' hO2 hO3 hO4 ek0 ek1 hW0 hWd hDl hD hWl hpl hW
  go_wp2_with fail
  refine Calls.mono (CW.out _ hsb0) ?_
  rintro e w1 ⟨v1, rfl, hr1⟩
  obtain ⟨a1, c1, rfl, hs1⟩ := hr1.sl
  have g1 := hr1.frame.toBelow (fun k hk => hk)
  have hsb1 := hsb0.below g1
  have hsm1 := hsm0.below g1
  have hT1 := (g1.block _ (lt_of_block hT0)).trans hT0
  have G1 := g0.trans (g1.mono g0.size)
  clear hr1 hsb0 hsm0 hT0 g0 g1
  go_wp2_with (first
    | (at_builtin; refine wpList_append_b (S := (· < w1.heap.size)) (w0 := w1) rfl (.tmp 38) (.tmp 39) rfl _ [] rfl (Row.made (FrameS.refl fun k hk => hk)) a1 c1 W rfl (hs1.below ((Below.refl _ _).alloc (Nat.le_refl _) _)) (by simp; omega) ?_; intro v2 w2 hb2 hgr2; rw [List.nil_append] at hb2)
    | (at_builtin; refine wpList_append_b (S := (· < w1.heap.size)) (w0 := w1) rfl (.tmp 40) (.tmp 41) rfl v2 W rfl hb2 a2 cap2 m rfl (hsm1.below (hb2.frame.toBelow (fun k hk => hk))) (by omega) ?_; intro v3 w3 hb3 hgr3; obtain ⟨a3, c3, hv3, hs3⟩ := hb3.sl; have hWm : (W ++ m).length ≤ 40000 := (by rw [List.length_append]; omega); generalize W ++ m = WM at *; subst hv3))
  have g3 := hb3.frame.toBelow (fun k hk => hk)
  have hsb3 := hsb1.below g3
  have hs13 := hs1.below g3
  have hT3 := (g3.block _ (lt_of_block hT1)).trans hT1
  have G3 := G1.trans (g3.mono G1.size)
  clear hb2 hgr2 hb3 hgr3 hsb1 hsm1 hs1 hT1 G1 g3
  refine (zopen_sl O1.out hs3 (by omega) (by omega)).mono ?_
  rintro e w4 ⟨a4, c4, rfl, h4, g4⟩
  have hsb4 := hsb3.below g4
  have hs14 := hs13.below g4
  have hT4 := (g4.block _ (lt_of_block hT3)).trans hT3
  have G4 := G3.trans (g4.mono G3.size)
  clear hs3 hsb3 hs13 hT3 G3 g4
  go_wp2_with fail
  refine (known05_any _).mono ?_
  rintro e w5 ⟨rfl, g5⟩
  have hsb5 := hsb4.below g5
  have hs15 := hs14.below g5
  have h45 := h4.below g5
  have hT5 := (g5.block _ (lt_of_block hT4)).trans hT4
  have G5 := G4.trans (g5.mono G4.size)
  clear hsb4 hs14 h4 hT4 G4 g5
  have u1 := h45.str
  have u2 := hsb5.str
  have u3 : ((W.length : Int) != (W.length : Int)) = false := by simp
  go_wp2_with (at_builtin; refine wpList_append_b (S := (· < w5.heap.size)) (w0 := w5) rfl (.tmp 68) (.tmp 69) rfl _ [] rfl (Row.made (FrameS.refl fun k hk => hk)) a1 c1 W rfl (hs15.below ((Below.refl _ _).alloc (Nat.le_refl _) _)) (by simp; omega) ?_; intro v6 w6 hb6' hgr6; rw [List.nil_append] at hb6')
  have hF0 : FrameS (· < w5.heap.size) w5 w6 := hb6'.frame
  obtain ⟨G, cg, hv6⟩ : ∃ G cg, v6 = .slice (some ⟨G, 0, none⟩) W.length cg := by
    rcases hb6'.own.2 with ⟨_, h0⟩ | ⟨g, cp, cur, h1, _⟩
    · rw [bcells_length] at h0; have := HWD.out.2; omega
    · rw [bcells_length] at h1; exact ⟨g, cp, h1⟩
  subst hv6
  have hT5l := lt_of_block hT5
  have hGT : G ≠ TT := fun e => hb6'.off G rfl (by rw [e]; exact hT5l)
  have hb6w : RowB (· < w5.heap.size) w5 w6 (.slice (some ⟨G, 0, none⟩) W.length cg) (D ++ turned (tailOf b) [t0, t1, t2, t3] 0) := by rw [← HWD.out.1]; exact hb6'
  have HDL := Lib.hid HWD.out.2
  have hW4 : 4 ≤ W.length := by have := HWD.out.2; omega
  clear hb6' hgr6 hF0 u1 u2 u3 h45
  obtain ⟨tl, htl⟩ : ∃ tl, tl = tailOf b := ⟨_, rfl⟩
  rw [← htl] at hb6w
  have HTL := Lib.hid htl
  clear htl
  go_loopw [14, 15] (fun s14 s15 wr => ∃ i : Nat, s15 = .int .i64 (i : Int) ∧ i ≤ 4 ∧ s14 = .bool (noughts [t0, t1, t2, t3] i) ∧ RowB (· < w5.heap.size) w5 wr (.slice (some ⟨G, 0, none⟩) W.length cg) (D ++ turned tl [t0, t1, t2, t3] i)) (fun _ s15 _ => 4 - (intOf s15).toNat)
  case atStart => exact ⟨0, rfl, by omega, rfl, hb6w⟩
  case round =>
    clear hb6w
    obtain ⟨i, rfl, hi, rfl, hrow⟩ := hrel
    by_cases hi4 : i < 4
    · have v1 : decide ((i : Int) < 4) = true := decide_eq_true (by omega)
      have hTr := ((hrow.frame.keep TT hT5l).2).trans hT5
      have hll : (D ++ turned tl [t0, t1, t2, t3] i).length = W.length := by rw [List.length_append, turned_len]; exact HDL.out.symm
      have hdl := HDL.out
      obtain ⟨IK, IC⟩ := hrow.sl_of.2.at ((W.length : Int) - 4 + (i : Int)) (D.length + i) (by omega) (by omega)
      have hx : (D ++ turned tl [t0, t1, t2, t3] i)[D.length + i]'(by omega) = tl.getD i 0 := by
        rw [List.getElem_append_right (by omega)]
        have := turned_at tl [t0, t1, t2, t3] i hi4
        rw [List.getD_eq_getElem?_getD, List.getElem?_eq_getElem (by rw [turned_len]; omega)] at this
        simpa using this
      rw [hx] at IC
      rw [hll] at IK
      rw [elt_own] at IK IC
      have hcT : wr.cell? ⟨TT, i, none⟩ = some (.int .u8 (([t0, t1, t2, t3].getD i 0).toNat : Int)) := by
        rw [cell_of_row _ _ _ _ _ _ hTr]
        have : i = 0 ∨ i = 1 ∨ i = 2 ∨ i = 3 := by omega
        rcases this with rfl | rfl | rfl | rfl <;> rfl
      have hset2 : (D ++ turned tl [t0, t1, t2, t3] i).set (D.length + i) (tl.getD i 0 ^^^ [t0, t1, t2, t3].getD i 0) = D ++ turned tl [t0, t1, t2, t3] (i + 1) := by
        rw [List.set_append_right _ _ (by omega), show D.length + i - D.length = i by omega, turned_step _ _ _ hi4]
      have hxor : bits .xor .u8 ((tl.getD i 0).toNat : Int) (([t0, t1, t2, t3].getD i 0).toNat : Int) = ((tl.getD i 0 ^^^ [t0, t1, t2, t3].getD i 0).toNat : Int) := by
        rw [u8_xor_nat _ _ (UInt8.toNat_lt _) (UInt8.toNat_lt _), UInt8.toNat_xor]
      have hn1 : noughts [t0, t1, t2, t3] (i + 1) = (noughts [t0, t1, t2, t3] i && decide ([t0, t1, t2, t3].getD i 0 = 0)) := rfl
      have HCT5 := Lib.hid (show w5.cell? ⟨TT, i, none⟩ = some (.int .u8 (([t0, t1, t2, t3].getD i 0).toNat : Int)) by
        rw [← hcT]
        exact (World.cell?_of_block (a := ⟨TT, i, none⟩) (hrow.frame.keep TT hT5l).2).symm)
      generalize noughts [t0, t1, t2, t3] i = nn at *
      generalize tl.getD i 0 = x at *
      generalize [t0, t1, t2, t3].getD i 0 = y at *
      obtain ⟨z, hz⟩ : ∃ z, z = x ^^^ y := ⟨_, rfl⟩
      rw [← hz] at hset2 hxor
      have HS2 := Lib.hid hset2
      have HN1 := Lib.hid hn1
      obtain ⟨kk, hkk⟩ : ∃ kk, kk = D.length + i := ⟨_, rfl⟩
      rw [← hkk] at IK IC
      have HS3 := Lib.hid (show (D ++ turned tl [t0, t1, t2, t3] i).set kk z = D ++ turned tl [t0, t1, t2, t3] (i + 1) by rw [hkk]; exact hset2)
      have q1 : ∀ X : Later wr, X.1.cell? ⟨G, kk, none⟩ = some (.int .u8 (x.toNat : Int)) := fun X => (X.2.cell (p := ⟨G, kk, none⟩) (lt_of_cell IC)).trans IC
      have q2 : ∀ X : Later wr, X.1.cell? ⟨TT, i, none⟩ = some (.int .u8 (y.toNat : Int)) := fun X => (X.2.cell (p := ⟨TT, i, none⟩) (lt_of_cell hcT)).trans hcT
      have wA : IntKind.i64.wrap ((W.length : Int) - 4) = (W.length : Int) - 4 := IntWalk.i64_in _ (by omega)
      have wB : IntKind.i64.wrap ((W.length : Int) - 4 + (i : Int)) = (W.length : Int) - 4 + (i : Int) := IntWalk.i64_in _ (by omega)
      have i0 : (0 : Int) ≤ (i : Int) := by omega
      have i4 : (i : Int) < 4 := by omega
      clear hset2 hn1 hz hx hll hdl hkk
      go_wp2_with fail
      refine wp_region_mix [(0, 0), (1, 0), (2, 0), (3, 0), (4, 0), (5, 0), (6, 0), (7, 0), (8, 0), (9, 0), (10, 0), (11, 0), (12, 0), (13, 2)] (by kernel_rfl) (by kernel_rfl) ?_
      iterate 13 (refine mix_calm rfl (fun K hK => ?_); go_simp; (refine hK _ ?_; clear hK K))
      clear wA wB q1 q2
      refine mix_sync rfl rfl (fun w8 hw8 K hK => ?_)
      have hrow8 := hrow.later hw8
      have hfz8 := hrow8.free kk
      have IC8 := (Below.cell (p := ⟨G, kk, none⟩) hw8 (lt_of_cell IC)).trans IC
      have HSET := Lib.hid (show RowB (· < w5.heap.size) w5 (w8.setCell ⟨G, kk, none⟩ (.int .u8 (z.toNat : Int))) (.slice (some ⟨G, 0, none⟩) W.length cg) (D ++ turned tl [t0, t1, t2, t3] (i + 1)) by
        have := (hrow8.storedB kk z _ rfl).1
        rw [HS3.out] at this
        exact this)
      clear hrow hTr hw8 hrow8 IC hcT
      go_wp2_with fail
      refine mix_nil fun w9 hw9 => ?_
      have hrow9 := HSET.out.later hw9
      have hT9 := ((hrow9.frame.keep TT hT5l).2).trans hT5
      have hcT9 : w9.cell? ⟨TT, i, none⟩ = some (.int .u8 (y.toNat : Int)) := by
        have h1 : w9.cell? ⟨TT, i, none⟩ = w5.cell? ⟨TT, i, none⟩ := World.cell?_of_block (a := ⟨TT, i, none⟩) (hrow9.frame.keep TT hT5l).2
        rw [h1]
        exact HCT5.out
      clear HSET hw9 hfz8 IC8 IK hxor hT9
      cases nn with
      | true =>
        by_cases hy0 : y = 0
        · have v2 : ((y.toNat : Int) == 0) = true := by rw [beq_iff_eq, hy0]; rfl
          have HN2 := Lib.hid (show noughts [t0, t1, t2, t3] (i + 1) = true by rw [HN1.out]; simp [hy0])
          clear HN1 hy0
          go_wp2_with fail
          go_roundw
          case rel => exact ⟨i + 1, by go_num, by omega, by rw [HN2.out], hrow9⟩
          case measure => simp [intOf]; omega
        · have v2 : ((y.toNat : Int) == 0) = false := by
            rw [beq_eq_false_iff_ne]
            intro h
            exact hy0 (UInt8.toNat_inj.1 (by rw [show (0 : UInt8).toNat = 0 from rfl]; omega))
          have HN2 := Lib.hid (show noughts [t0, t1, t2, t3] (i + 1) = false by rw [HN1.out]; simp [hy0])
          clear HN1 hy0
          go_wp2_with fail
          go_roundw
          case rel => exact ⟨i + 1, by go_num, by omega, by rw [HN2.out], hrow9⟩
          case measure => simp [intOf]; omega
      | false =>
        have HN2 := Lib.hid (show noughts [t0, t1, t2, t3] (i + 1) = false by rw [HN1.out]; rfl)
        clear HN1
        go_wp2_with fail
        go_roundw
        case rel => exact ⟨i + 1, by go_num, by omega, by rw [HN2.out], hrow9⟩
        case measure => simp [intOf]; omega
    · obtain rfl : i = 4 := by omega
      have v1 : decide (((4 : Nat) : Int) < 4) = false := by decide
      have hll : (D ++ turned tl [t0, t1, t2, t3] 4).length = W.length := by rw [List.length_append, turned_len]; exact HDL.out.symm
      obtain ⟨hcl, hsc⟩ := hrow.sl_of
      have gR := hrow.frame.toBelow (fun k hk => hk)
      have GR := G5.trans (gR.mono G5.size)
      have hsbR := hsb5.below gR
      have hs1R := hs15.below gR
      have hO2 := O2.out
      rw [← HTL.out] at hO2
      obtain ⟨cc, hcc⟩ : ∃ cc, cc = D ++ turned tl [t0, t1, t2, t3] 4 := ⟨_, rfl⟩
      rw [← hcc] at hll hsc hO2
      obtain ⟨same, hsame⟩ : ∃ same, same = noughts [t0, t1, t2, t3] 4 := ⟨_, rfl⟩
      rw [← hsame] at hO2 ⊢
      have hcc3 : cc.length ≤ 30000 := by omega
      have hEK := EK.out
      obtain ⟨ek0, ek1, ek2⟩ := hEK
      obtain ⟨l9, hl9, hl9n, hs9, hsl9⟩ := hs1R.to (k : Int) k rfl (by omega)
      have hO3 := O3.out
      rw [← hl9] at hO3
      have HO3 := Lib.hid hO3
      have hl93 : l9.length ≤ 30000 := by omega
      obtain ⟨x2, n2, e2, hx2⟩ : ∃ x2 n2 e2, openOf cc (b.length : Int) = (x2, n2, e2) := ⟨_, _, _, rfl⟩
      have C2 := zopen_sl hx2 hsc (by omega) (by omega)
      rw [hll] at C2
      have HC2 := Lib.hid C2
      rw [hx2] at hO2
      have HS9 := Lib.hid (fun (X : World) (h : Sl X a1 c1 l9) => zopen_sl HO3.out h (by omega) (by omega))
      have hfin : (same = true ∧ e2 = 0) ∨ (same = false ∧ e2 = 5) := by
        cases same with
        | true => rw [if_pos rfl] at hO2; simp only [Prod.mk.injEq] at hO2; exact .inl ⟨rfl, hO2.2.2⟩
        | false => rw [if_neg (by decide)] at hO2; simp only [Prod.mk.injEq] at hO2; exact .inr ⟨rfl, hO2.2.2⟩
      clear hrow hcl hcc hsame hO2 hO3 hl9 hl9n hll hsb5 hs15 hT5 G5 gR C2 hx2 hsc
      rcases hfin with ⟨rfl, rfl⟩ | ⟨rfl, rfl⟩
      all_goals
        go_wp2_with fail
        refine Calls.mono HC2.out ?_
        rintro e w7 ⟨a7, c7, rfl, -, g7⟩
        have hsb7 := hsbR.below g7
        have hs17 := hs1R.below g7
        have hs97 := hs9.below g7
        have G7 := GR.trans (g7.mono GR.size)
        clear hsbR hs1R hs9 GR g7
        go_wp2_with fail
        refine Calls.mono (HS9.out _ hs97) ?_
        rintro e w8 ⟨a8, c8, rfl, -, g8⟩
        have hsb8 := hsb7.below g8
        have hs18 := hs17.below g8
        have G8 := G7.trans (g8.mono G7.size)
        clear hsb7 hs17 hs97 G7 g8 hsl9 ek0 ek1 ek2
        by_cases hb0 : b = []
        · have hbl : b.length = 0 := by rw [hb0]; rfl
          have v4 : ((b.length : Int) == 0) = true := by rw [beq_iff_eq]; omega
          obtain ⟨x9, n9, e9, hx9⟩ : ∃ x9 n9 e9, openOf W ((b.length : Int) - 1) = (x9, n9, e9) := ⟨_, _, _, rfl⟩
          have C9 := Lib.hid (zopen_sl hx9 hs18 (by omega) (by omega))
          clear hb0 hbl hx9
          go_wp2_with fail
          refine Calls.mono C9.out ?_
          rintro e w9 ⟨a9, c9, rfl, -, g9⟩
          have G9 := G8.trans (g9.mono G8.size)
          clear hsb8 hs18 G8 g9
          go_wp2_with fail
          go_ret
          exact ⟨rfl, G9⟩
        · have hbl : b.length ≠ 0 := fun h => hb0 (List.length_eq_zero_iff.1 h)
          have v4 : ((b.length : Int) == 0) = false := by rw [beq_eq_false_iff_ne]; omega
          have C9 := Lib.hid (zopen_sl (O4.out hb0) hs18 (by omega) (by omega))
          clear hb0 hbl
          go_wp2_with fail
          refine Calls.mono C9.out ?_
          rintro e w9 ⟨a9, c9, rfl, -, g9⟩
          have G9 := G8.trans (g9.mono G8.size)
          clear hsb8 hs18 G8 g9
          go_wp2_with fail
          go_ret
          exact ⟨rfl, G9⟩

end Go.Proofs.Ytaapnjhkflpiiaa
