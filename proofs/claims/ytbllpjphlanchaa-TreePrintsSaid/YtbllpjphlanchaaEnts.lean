/-
  tree.entries' function: the walk.
-/
import Derived.Test.YtbllpjphlanchaaEntsPure
import Derived.Test.YtbllpjphlanchaaBuildE
import Derived.Test.YtbllpjphlanchaaBCut
import Derived.Test.YtbllpjphlanchaaRangeF
import Derived.Laws.CopyRow
namespace Go.Proofs.Ytbllpjphlanchaa
open Go.RowKit Go.Mix

def encY (x : Ent × Bool) : Array Value := #[.agg (recA encE x.1), .bool x.2]
/-- What a round must keep: what lay ahead of the call, and the box. -/
def KpE (ws : World) (Bc : Nat) (W W' : World) : Prop := Below ws.heap.size W W' ∧ W'.heap[Bc]? = W.heap[Bc]?

/-- The box holds the bytes that are left. -/
def Left (ws W : World) (Bc : Nat) (r : List UInt8) : Prop := ∃ a cap, W.heap[Bc]? = some (.cells #[.slice a r.length cap] 26 (0, 0)) ∧ Bs ws a r ∧ r.length ≤ cap ∧ (a = none → cap = 0)

theorem bcut_one {w : World} {ad : Addr} {l : List UInt8} {cap b2 d : Nat} (c : UInt8) (hl : Bs w (some ad) l) (hcap : l.length ≤ cap) (hbig : l.length ≤ 1000000000) (hc2 : w.cell? ⟨b2, 0, none⟩ = some (.int .u8 (c.toNat : Int))) :
    Calls Try.prog 34 #[.slice (some ad) l.length cap, .slice (some ⟨b2, 0, none⟩) 1 d] w fun e w' => ∃ (hl tl : List UInt8) (ok : Bool) (a2 : Option Addr) (c2 : Nat),
      e = .returned (.tuple #[.slice (some ad) hl.length cap, .slice a2 tl.length c2, .bool ok]) ∧ Below w.heap.size w w' ∧ ((∀ W0, Bs W0 (some ad) l → Bs W0 (some ad) hl ∧ Bs W0 a2 tl) ∧ hl.length ≤ cap ∧ tl.length ≤ c2 ∧ (a2 = none → c2 = 0) ∧ hl.length ≤ l.length ∧ tl.length ≤ l.length) ∧
      FzAt l c ok hl tl := by
  refine (bcut_any (d := d) c hl hcap hbig hc2).mono ?_
  rintro e w' ⟨hw, (⟨i, a2, hi, h1, h2, rfl, hs⟩ | ⟨hn, rfl⟩)⟩
  · refine ⟨l.take i, l.drop (i + 1), true, some a2, cap - (i + 1), ?_, hw, ⟨fun W0 h0 => ⟨h0.take i, hs W0 h0⟩, by rw [List.length_take]; omega, by rw [List.length_drop]; omega, (fun h => nomatch h), by rw [List.length_take]; omega, by rw [List.length_drop]; omega⟩, .inl ⟨rfl, i, fz_some h1 h2, rfl, rfl⟩⟩
    rw [List.length_take, List.length_drop, Nat.min_eq_left (Nat.le_of_lt hi)]
  · exact ⟨l, [], false, none, 0, rfl, hw, ⟨fun W0 h0 => ⟨h0, .inl rfl⟩, hcap, Nat.le_refl _, fun _ => rfl, Nat.le_refl _, Nat.zero_le _⟩, .inr ⟨rfl, fz_none hn⟩⟩

set_option maxRecDepth 100000 in
set_option maxHeartbeats 4000000 in
theorem entries_seq (n : Nat) (ws w0 : World) (Bc : Nat) (b : List UInt8) (hb : b.length ≤ 100000) (hBc : ws.heap.size ≤ Bc) (hlt : Bc < w0.heap.size) (hws : Below ws.heap.size ws w0) (hbox : Left ws w0 Bc b) :
    SeqBox Fence.wide n Try.prog 33 #[.pointer (some ⟨Bc, 0, none⟩)] encY Bc (KpE ws Bc) (fun xs => xs = entL b.length b) (fun pre => pre <+: entL b.length b) w0 := by
  intro l J Jx W hW hJ hJx hY h0
  refine callsIn_wide.2 ?_
  have hB0 : Below ws.heap.size ws W := hws.trans (hW.mono (Nat.le_trans hBc (Nat.le_of_lt hlt)))
  have hbW : Left ws W Bc b := by
    obtain ⟨a, cap, h, r⟩ := hbox
    exact ⟨a, cap, blockR_below h hW, r⟩
  have H0 := Lib.hid (And.intro hB0 hbW)
  have HJ := Lib.hid (And.intro hJ hJx)
  have HY := Lib.hid hY
  have HJ0 := Lib.hid h0
  clear hB0 hbW hJ hJx hY h0 hW hbox hws
  obtain ⟨Z, hZ⟩ : ∃ Z, Z = recA encE ent0 := ⟨_, rfl⟩
  have z : ∀ w, (zeroValue 40).run Try.prog w = .ok (.agg Z) w := fun w => by rw [hZ]; kernel_rfl
  have HZ := Lib.hid hZ
  clear hZ
  go_enter Try.func33, Try.ntmps33
  go_wp2_with fail
  go_loopg [3, 4, 5, 6, 7, 8, 9] b.length (fun g _ _ _ _ _ _ _ wr => ∃ (pre : List (Ent × Bool)) (r : List UInt8), r.length ≤ g ∧ r.length ≤ b.length ∧ pre ++ entL r.length r = entL b.length b ∧ J pre wr ∧ Below ws.heap.size ws wr ∧ Left ws wr Bc r)
  case atStart => exact ⟨[], b, Nat.le_refl _, Nat.le_refl _, rfl, HJ0.out, H0.out.1, H0.out.2⟩
  case round =>
    obtain ⟨pre, r, hrg, hrb, hpre, hJp, hbel, a, cap, hbx, hbs, hcap, hnone⟩ := hrel
    have HP := Lib.hid (And.intro hpre (And.intro hJp (And.intro hbel (And.intro hbx (And.intro hbs (And.intro hcap hnone))))))
    have c0 : wr.cell? ⟨Bc, 0, none⟩ = some (.slice a r.length cap) := by rw [cell_of_row _ _ _ _ _ _ hbx]; rfl
    clear hpre hJp hbel hbx hbs
    by_cases hr0 : r = []
    · subst hr0
      go_wp2_with fail
      go_end0
      refine ⟨⟨_, rfl⟩, .inl ⟨pre, ?_, HP.out.2.1⟩⟩
      have := HP.out.1
      rw [entL_nil, List.append_nil] at this
      exact this
    · have hpos : 0 < r.length := List.length_pos_iff.2 hr0
      cases a with
      | none => have := hnone rfl; omega
      | some ad =>
      have hz : ∀ x, (wr.alloc (.cells #[x] 5)).cell? ⟨wr.heap.size, 0, none⟩ = some x := fun x => by rw [cell_of_row _ _ _ _ _ _ (heap_alloc_last wr _ _ rfl)]; rfl
      have CC := bcut_one (w := wr.alloc (.cells #[.int .u8 0] 5)) (ad := ad) (l := r) (cap := cap) (b2 := wr.heap.size) (d := 1) 0 ((HP.out.2.2.2.2.1.below HP.out.2.2.1).below ((Below.refl _ _).alloc (Nat.le_refl _) _)) hcap (by omega) (hz _)
      clear hz
      go_wp2_with fail
      refine CC.mono ?_
      rintro e w2 ⟨hl, tl, ok, a2, c2, rfl, hw2, ⟨hss, hh1, hh2, hh3, hh4, hh5⟩, hfz⟩
      have hbsr := HP.out.2.2.2.2.1
      have hs0 := hss _ hbsr
      have hg2 : Below wr.heap.size wr w2 := ((Below.refl _ wr).alloc (Nat.le_refl _) _).trans (hw2.mono (by simp))
      have hb2 : Below ws.heap.size ws w2 := HP.out.2.2.1.trans (hg2.mono HP.out.2.2.1.size)
      have hs1' := hs0.1.below hb2
      have hs2' := hs0.2.below hb2
      have H2 := Lib.hid (And.intro hg2 (And.intro hs1' (And.intro hs2' (And.intro hfz (And.intro hh2 (And.intro hh3 (And.intro hh5 hs0.2)))))))
      have hz : ∀ x fr, (w2.alloc (.cells #[x] 5 fr)).cell? ⟨w2.heap.size, 0, none⟩ = some x := fun x fr => by rw [cell_of_row _ _ _ _ _ _ (heap_alloc_last w2 _ _ rfl)]; rfl
      have KC := run_convert_const (P := Try.prog) 26 5 Try.underlying26 Try.underlying5 w2 #[.int .u8 32] 1 1 w2.heap.size rfl
      have CC2 := bcut_one (w := w2.alloc (.cells #[.int .u8 32] 5 (1, 2))) (ad := ad) (l := hl) (cap := cap) (b2 := w2.heap.size) (d := 1) 32 (hs1'.below ((Below.refl _ _).alloc (Nat.le_refl _) _)) hh1 (by omega) (hz _ _)
      clear CC hz hw2 hss hbsr hs0 hb2 hh2 hh3 hg2 hs1' hs2' hfz c0
      go_wp2_with fail
      refine CC2.mono ?_
      rintro e w3 ⟨ml, nl, is, a3, c3, rfl, hw3, ⟨hss, hk1, hk2, hk3, hk4, hk5⟩, hfz⟩
      have hs0 := hss _ H2.out.2.1
      have hg3 : Below w2.heap.size w2 w3 := ((Below.refl _ w2).alloc (Nat.le_refl _) _).trans (hw3.mono (by simp))
      have hs1' := hs0.1.below hg3
      have hs2' := hs0.2.below hg3
      have H3 := Lib.hid (And.intro hg3 (And.intro hs1' (And.intro hs2' (And.intro hfz (And.intro hk2 hk3)))))
      clear CC2 KC hw3 hss hs0 hg3 hs1' hs2' hfz
      go_upto_region 3 with (fail)
      have H23 : Below wr.heap.size wr w3 := H2.out.1.trans (H3.out.1.mono H2.out.1.size)
      have CV1 : ∀ y : Later w3, (convert 26 9 (.slice (some ad) ml.length cap)).run Try.prog y.1 = .ok (.string (strOf ml)) y.1 := fun y => run_string_of_bytes (H3.out.2.1.below y.2) _ 5 _ Try.underlying26 Try.underlying5 Try.underlying9 cap
      have CV2 : ∀ y : Later w3, (convert 26 9 (.slice a3 nl.length c3)).run Try.prog y.1 = .ok (.string (strOf nl)) y.1 := fun y => run_string_of_bytes (H3.out.2.2.1.below y.2) _ 5 _ Try.underlying26 Try.underlying5 Try.underlying9 c3
      have CM := fun W => modeOf_any ml W
      have HB3 := fun W => buildE2 (modeOf ml) nl W
      have HM := Lib.hid (show modeOf ml = modeOf ml from rfl)
      have H23' := Lib.hid H23
      clear H23
      generalize strOf ml = MS at *
      generalize strOf nl = NS at *
      refine wp_region_mg [(0, 0), (1, 0), (2, 0), (3, 0), (4, 0), (5, 0), (6, 1), (7, 2)] (by kernel_rfl) (by kernel_rfl) ?_
      iterate 2 (refine mg_calm rfl (fun K hK => ?_); go_simp; (first | (refine hK _ ?_) | (apply Exists.intro; refine ⟨fun z => ⟨rfl, rfl⟩, hK _ ?_⟩)); clear hK K)
      refine mg_calm rfl (fun K hK => ?_)
      go_simp
      apply Exists.intro
      refine ⟨fun z => CM z.1, hK _ ?_⟩
      clear hK K
      iterate 2 (refine mg_calm rfl (fun K hK => ?_); go_simp; (first | (refine hK _ ?_) | (apply Exists.intro; refine ⟨fun z => ⟨rfl, rfl⟩, hK _ ?_⟩)); clear hK K)
      refine mg_build rfl rfl _ _ rfl [(0, .int .i64 (modeOf ml)), (1, .string NS)] _ rfl HB3 ?_
      refine mg_loud rfl rfl (fun w4 hw4 K hK => ?_)
      go_wp2_with fail
      refine hK _ _ ((Below.refl _ _).alloc (Nat.le_refl _) _) ?_
      clear hK K
      have hzb0 : (w4.alloc (.cells Z 40)).heap[w4.heap.size]? = some (.cells Z 40 (0, 0)) := heap_alloc_last _ _ _ rfl
      have hg4 : Below w3.heap.size w3 (w4.alloc (.cells Z 40)) := hw4.alloc hw4.size _
      obtain ⟨B, hB⟩ : ∃ B, B = w4.heap.size := ⟨_, rfl⟩
      have hBge : w3.heap.size ≤ B := by rw [hB]; exact hw4.size
      rw [← hB] at hzb0 ⊢
      clear hB hw4 CV1 CV2 CM HB3
      generalize w4.alloc (.cells Z 40) = w5 at *
      refine mg_sync rfl rfl (fun w6 hw6 K hK => ?_)
      have hzb := blockR_below hzb0 hw6
      have hg6 := hg4.trans (hw6.mono hg4.size)
      obtain ⟨e0, he0⟩ : ∃ e0, e0 = (⟨modeOf ml, nl, id0⟩ : Ent) := ⟨_, rfl⟩
      have zs : Z.size = (recA encE e0).size := by rw [HZ.out]; simp [recA, encE_len]
      have zi : (Try.prog.info? 40).map (·.size) = some (recA encE e0).size := by rw [show (recA encE e0).size = 22 by simp [recA, encE_len]]; exact tyE.ie
      have z1 : (recA encE e0).all (·.oneCell') = true := all_oneCell_toArray (encE_one _)
      have hbox : (w6.setRow B (recA encE e0)).heap[B]? = some (.cells (recA encE e0) 40 (0, 0)) := setRow_heap _ _ _ _ _ _ hzb
      have hg7 : Below w3.heap.size w3 (w6.setRow B (recA encE e0)) := below_setRow hg6 hBge _
      have H7 := Lib.hid (And.intro hbox hg7)
      have HE0 := Lib.hid he0
      rw [← he0]
      clear he0 hbox hg7 hg6 hg4 hzb0 hw6
      refine wpList_store_row rfl 40 _ _ rfl B (recA encE e0) rfl rfl 40 Z hzb zi zs z1 ?_
      clear hzb zs zi z1
      generalize w6.setRow B (recA encE e0) = w7 at *
      go_wp2_with fail
      refine mg_nil fun w8 hw8 => ?_
      have hg8 : Below w3.heap.size w3 w8 := H7.out.2.trans (hw8.mono H7.out.2.size)
      have hbox8 := blockR_below H7.out.1 hw8
      have H8 := Lib.hid (And.intro hbox8 (And.intro hg8 (And.intro hBge (H23'.out.trans (hg8.mono H23'.out.size)))))
      clear hbox8 hg8 hBge hw8
      have c0 : w8.cell? ⟨B, 0, none⟩ = some (.int .i64 (modeOf ml)) := by rw [(ent_fields (recBox H8.out.1)).1, HE0.out]
      have hJ8 : J pre w8 := HJ.out.1 _ _ _ HP.out.2.1 ⟨H8.out.2.2.2.os, H8.out.2.2.2.tape, H8.out.2.2.2.output, H8.out.2.2.2.size, fun k hk _ => H8.out.2.2.2.block k hk⟩
      have HBAD := Lib.hid (step_none (ok := ok) (is := is) H2.out.2.2.2.1 H3.out.2.2.2.1)
      have hsp8 : Hid (stepE r = none → pre ++ [(ent0, false)] <+: entL b.length b) := Lib.hid fun h => ⟨[], by rw [← HP.out.1, entL_none hr0 h, List.append_nil]⟩
      have HY8 := Lib.hid (HY.out pre (ent0, false) w8 hJ8)
      cases ok
      case false =>
        clear c0
        go_upto_region 5 with (fail)
        have HSN := Lib.hid (HBAD.out (by first | exact .inl rfl | exact .inl trivial))
        obtain ⟨fn, tmps, assign, body, hy, hR⟩ := HY8.out (hsp8.out HSN.out)
        unfold encY at hy
        dsimp only at hy
        rw [← HZ.out] at hy
        refine (wpIn_wide (n := n)).1 ?_
        gi_wp2
        refine ⟨fun h => (by cases h), hR.mono ?_⟩
        rintro e W9 (⟨rfl, hJ9, hk9⟩ | ⟨rfl, hJ9⟩)
        · gi_wp2
          go_wp2_with fail
          refine bodyPost_ret (results_none rfl _ _ _) rfl ?_
          refine ⟨⟨_, rfl⟩, .inl ⟨_, ?_, hJ9⟩⟩
          rw [← HP.out.1, entL_none hr0 HSN.out]
        · gi_wp2
          go_wp2_with fail
          refine bodyPost_ret (results_none rfl _ _ _) rfl ?_
          refine ⟨⟨_, rfl⟩, .inr ⟨_, ⟨[], ?_⟩, hJ9⟩⟩
          rw [← HP.out.1, entL_none hr0 HSN.out, List.append_nil]
      cases is
      case false =>
        clear c0
        go_upto_region 5 with (fail)
        have HSN := Lib.hid (HBAD.out (by first | exact .inr (.inl rfl) | exact .inr (.inl trivial)))
        obtain ⟨fn, tmps, assign, body, hy, hR⟩ := HY8.out (hsp8.out HSN.out)
        unfold encY at hy
        dsimp only at hy
        rw [← HZ.out] at hy
        refine (wpIn_wide (n := n)).1 ?_
        gi_wp2
        refine ⟨fun h => (by cases h), hR.mono ?_⟩
        rintro e W9 (⟨rfl, hJ9, hk9⟩ | ⟨rfl, hJ9⟩)
        · gi_wp2
          go_wp2_with fail
          refine bodyPost_ret (results_none rfl _ _ _) rfl ?_
          refine ⟨⟨_, rfl⟩, .inl ⟨_, ?_, hJ9⟩⟩
          rw [← HP.out.1, entL_none hr0 HSN.out]
        · gi_wp2
          go_wp2_with fail
          refine bodyPost_ret (results_none rfl _ _ _) rfl ?_
          refine ⟨⟨_, rfl⟩, .inr ⟨_, ⟨[], ?_⟩, hJ9⟩⟩
          rw [← HP.out.1, entL_none hr0 HSN.out, List.append_nil]
      by_cases hm0 : modeOf ml = 0
      · have m0 : (modeOf ml == 0) = true := by rw [beq_iff_eq]; exact hm0
        have HM0 := Lib.hid hm0
        clear hm0
        go_upto_region 5 with (fail)
        have HSN := Lib.hid (HBAD.out (.inr (.inr (.inl HM0.out))))
        obtain ⟨fn, tmps, assign, body, hy, hR⟩ := HY8.out (hsp8.out HSN.out)
        unfold encY at hy
        dsimp only at hy
        rw [← HZ.out] at hy
        refine (wpIn_wide (n := n)).1 ?_
        gi_wp2
        refine ⟨fun h => (by cases h), hR.mono ?_⟩
        rintro e W9 (⟨rfl, hJ9, hk9⟩ | ⟨rfl, hJ9⟩)
        · gi_wp2
          go_wp2_with fail
          refine bodyPost_ret (results_none rfl _ _ _) rfl ?_
          refine ⟨⟨_, rfl⟩, .inl ⟨_, ?_, hJ9⟩⟩
          rw [← HP.out.1, entL_none hr0 HSN.out]
        · gi_wp2
          go_wp2_with fail
          refine bodyPost_ret (results_none rfl _ _ _) rfl ?_
          refine ⟨⟨_, rfl⟩, .inr ⟨_, ⟨[], ?_⟩, hJ9⟩⟩
          rw [← HP.out.1, entL_none hr0 HSN.out, List.append_nil]
      have m0 : (modeOf ml == 0) = false := by rw [beq_eq_false_iff_ne]; exact hm0
      have HM0 := Lib.hid hm0
      clear hm0
      by_cases ht0 : tl.length < 20
      · have ht1 : (tl.length : Int) < 20 := by omega
        go_upto_region 5 with (fail)
        have HSN := Lib.hid (HBAD.out (.inr (.inr (.inr ht0))))
        obtain ⟨fn, tmps, assign, body, hy, hR⟩ := HY8.out (hsp8.out HSN.out)
        unfold encY at hy
        dsimp only at hy
        rw [← HZ.out] at hy
        refine (wpIn_wide (n := n)).1 ?_
        gi_wp2
        refine ⟨fun h => (by cases h), hR.mono ?_⟩
        rintro e W9 (⟨rfl, hJ9, hk9⟩ | ⟨rfl, hJ9⟩)
        · gi_wp2
          go_wp2_with fail
          refine bodyPost_ret (results_none rfl _ _ _) rfl ?_
          refine ⟨⟨_, rfl⟩, .inl ⟨_, ?_, hJ9⟩⟩
          rw [← HP.out.1, entL_none hr0 HSN.out]
        · gi_wp2
          go_wp2_with fail
          refine bodyPost_ret (results_none rfl _ _ _) rfl ?_
          refine ⟨⟨_, rfl⟩, .inr ⟨_, ⟨[], ?_⟩, hJ9⟩⟩
          rw [← HP.out.1, entL_none hr0 HSN.out, List.append_nil]
      have ht1 : ¬ (tl.length : Int) < 20 := by omega
      have HOK := Lib.hid (step_some H2.out.2.2.2.1 H3.out.2.2.2.1 HM0.out (Nat.le_of_not_lt ht0))
      have ht20 : 20 ≤ tl.length := Nat.le_of_not_lt ht0
      cases a2 with
      | none => have := H2.out.2.2.2.2.2.1 rfl; have := H2.out.2.2.2.2.1; omega
      | some at2 =>
      obtain ⟨r2, cr2, rl, hrl, hcut, hbs2, hle2, hno2⟩ : ∃ a c rl, rl = tl.drop 20 ∧ (∀ W : World, (Instr.slice 26 (.slice (some at2) tl.length c2) (some (.int .i64 20)) none none).run Try.prog W = .ok (.slice a rl.length c) W) ∧ Bs ws a rl ∧ rl.length ≤ c ∧ (a = none → c = 0) := by
        obtain ⟨x, l2, cp, rfl, h2, h3, h4, h5, h6⟩ := cut_from (P := Try.prog) H2.out.2.2.2.2.2.2.2 26 Try.underlying26 (fun w => by kernel_rfl) c2 20 H2.out.2.2.2.2.1 (fun h => nomatch h) ht20
        exact ⟨x, cp, _, rfl, h6, h2, h3, h5⟩
      have HRL := Lib.hid hrl
      clear hrl
      have HR2 := Lib.hid (And.intro hbs2 (And.intro hle2 hno2))
      clear hbs2 hle2 hno2
      -- the sum's bytes go into the box
      obtain ⟨x, hxv⟩ : ∃ x : Id20, x.1 = tl.take 20 := ⟨⟨tl.take 20, by rw [List.length_take]; omega⟩, rfl⟩
      obtain ⟨e1, he1⟩ : ∃ e1, e1 = (⟨modeOf ml, nl, x⟩ : Ent) := ⟨_, rfl⟩
      have hrow : ((recA encE e0).toList.take 2 ++ idc x ++ (recA encE e0).toList.drop (2 + (idc x).length)).toArray = recA encE e1 := by
        rw [HE0.out, he1, idc_len]
        simp [recA, encE, show (idc id0).length = 20 from idc_len _]
      have hsrc : ∀ j v, (idc x)[j]? = some v → w8.cell? (at2.add j) = some v := fun j v hj => by
        have hb8 := H2.out.2.2.1.below (H3.out.1.trans (H8.out.2.1.mono H3.out.1.size))
        rcases hb8 with h | ⟨bb, off, he, hc⟩
        · rw [h] at ht20; simp at ht20
        · obtain rfl : at2 = ⟨bb, off, none⟩ := by simpa using he
          have hadd : (⟨bb, off, none⟩ : Addr).add j = ⟨bb, off + j, none⟩ := by unfold Addr.add; split <;> simp_all
          have hj20 : j < 20 := by rw [← idc_len x]; exact (List.getElem?_eq_some_iff.1 hj).1
          rw [hadd, hc j (by omega)]
          unfold idc bcells at hj
          rw [hxv, List.getElem?_map, List.getElem?_take, if_pos hj20, List.getElem?_eq_getElem (by omega)] at hj
          exact hj
      have hcopy := run_copy_row (P := Try.prog) w8 26 26 3 5 B 2 20 20 at2 tl.length c2 (recA encE e0) 40 (idc x) Try.underlying26 (by kernel_rfl) H8.out.1 (by rw [idc_len]; exact (Nat.min_eq_right ht20).symm) hsrc (by rw [idc_len]; simp [recA, encE_len]) (bcells_one _)
      rw [hrow] at hcopy
      have hbox9 : (w8.setRow B (recA encE e1)).heap[B]? = some (.cells (recA encE e1) 40 (0, 0)) := setRow_heap _ _ _ _ _ _ H8.out.1
      have hBwr : wr.heap.size ≤ B := Nat.le_trans H23'.out.size H8.out.2.2.1
      have hg9 : Below wr.heap.size wr (w8.setRow B (recA encE e1)) := below_setRow H8.out.2.2.2 hBwr _
      have H9 := Lib.hid (And.intro hbox9 hg9)
      have HE1 := Lib.hid (And.intro he1 hxv)
      have hg20 : goInt (idc x).length = Value.int .i64 20 := by rw [idc_len]; rfl
      rw [hg20] at hcopy
      clear hrow hsrc hbox9 hBwr hg9 he1 hxv hg20 hJ8
      have hBlt : Bc < B := Nat.lt_of_lt_of_le (lt_of_block HP.out.2.2.2.1) (Nat.le_trans H23'.out.size H8.out.2.2.1)
      have hbx9 : (w8.setRow B (recA encE e1)).heap[Bc]? = some (.cells #[.slice (some ad) r.length cap] 26 (0, 0)) := by
        rw [setRow_other _ _ _ _ (by omega)]; exact blockR_below HP.out.2.2.2.1 H8.out.2.2.2
      have HBX := Lib.hid hbx9
      clear hbx9
      go_upto_region 7 with (fail)
      clear hcopy c0
      have hg10 : wr.grownBy ((w8.setRow B (recA encE e1)).setRow Bc #[.slice r2 rl.length cr2]) (some Bc) := by
        have hg := H9.out.2
        refine ⟨hg.os, hg.tape, hg.output, by rw [setRow_size]; exact hg.size, fun k hk hne => ?_⟩
        rw [setRow_other _ _ _ _ (fun e => hne (by rw [e]))]
        exact hg.block k hk
      have hJ10 := HJ.out.1 _ _ _ HP.out.2.1 hg10
      have hws10 : Below ws.heap.size ws ((w8.setRow B (recA encE e1)).setRow Bc #[.slice r2 rl.length cr2]) := below_setRow (HP.out.2.2.1.trans (H9.out.2.mono HP.out.2.2.1.size)) hBc _
      have hbx10 : ((w8.setRow B (recA encE e1)).setRow Bc #[.slice r2 rl.length cr2]).heap[Bc]? = some (.cells #[.slice r2 rl.length cr2] 26 (0, 0)) := setRow_heap _ _ _ _ _ _ HBX.out
      have hb10 : ((w8.setRow B (recA encE e1)).setRow Bc #[.slice r2 rl.length cr2]).heap[B]? = some (.cells (recA encE e1) 40 (0, 0)) := by
        rw [setRow_other _ _ _ _ (by omega)]; exact H9.out.1
      have H10 := Lib.hid (And.intro hJ10 (And.intro hws10 (And.intro hbx10 hb10)))
      clear hg10 hJ10 hws10 hbx10 hb10
      go_upto_region 8 with (first | (refine wpList_store_oneTo rfl 26 _ _ rfl rfl Bc (.slice r2 rl.length cr2) rfl rfl rfl 26 _ HBX.out (by kernel_rfl) ?_))
      clear hcut
      have H10' := H10.out
      clear H10
      generalize hw10 : (w8.setRow B (recA encE e1)).setRow Bc #[.slice r2 rl.length cr2] = w10 at H10' ⊢
      have H10 := Lib.hid H10'
      clear hw10 H10'
      have hent : entL b.length b = (pre ++ [(e1, true)]) ++ entL rl.length rl := by
        rw [← HP.out.1, entL_some HOK.out, HRL.out, List.append_assoc]
        congr 1
        rw [List.singleton_append]
        congr 2
        rw [HE1.out.1]
        congr 1
        exact Subtype.ext HE1.out.2.symm
      have HENT := Lib.hid hent
      clear hent
      obtain ⟨fn, tmps, assign, body, hy, hR⟩ := HY.out pre (e1, true) w10 H10.out.1 ⟨_, HENT.out.symm⟩
      have L8 := tyE.load e1 B 0 w10 (recBox H10.out.2.2.2)
      unfold encY at hy
      dsimp only at hy
      refine (wpIn_wide (n := n)).1 ?_
      gi_wp2_with (first | (refine wpListIn_load_at rfl _ _ rfl _ _ rfl L8 ?_))
      refine ⟨fun h => (by cases h), hR.mono ?_⟩
      rintro e W9 (⟨rfl, hJ9, hk9⟩ | ⟨rfl, hJ9⟩)
      · have H11 := Lib.hid (And.intro hJ9 hk9)
        clear hy hR L8 hJ9 hk9
        gi_wp2
        go_wp2_with fail
        go_roundg rl.length
        case measure =>
          have h1 := stepE_len HOK.out
          rw [← HRL.out] at h1
          omega
        case rel =>
          have h1 := stepE_len HOK.out
          rw [← HRL.out] at h1
          refine ⟨pre ++ [(e1, true)], rl, by omega, by omega, ?_, H11.out.1, H10.out.2.1.trans H11.out.2.1, ?_⟩
          · exact HENT.out.symm
          · exact ⟨r2, cr2, H11.out.2.2.trans H10.out.2.2.1, HR2.out⟩
      · clear hy hR L8
        gi_wp2
        go_wp2_with fail
        refine bodyPost_ret (results_none rfl _ _ _) rfl ?_
        refine ⟨⟨_, rfl⟩, .inr ⟨_, ?_, hJ9⟩⟩
        exact ⟨_, HENT.out.symm⟩
end Go.Proofs.Ytbllpjphlanchaa
