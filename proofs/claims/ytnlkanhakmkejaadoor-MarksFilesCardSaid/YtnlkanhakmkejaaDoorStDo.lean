/-
  (*file).do: the walk.
-/
import Derived.Test.YtnlkanhakmkejaaDoorStOn
import Derived.Test.YtnlkanhakmkejaaDoorBuild
namespace Go.Proofs.YtnlkanhakmkejaaDoor
open Go.RowKit Go.Mix Go.WideMaps Go.Maps

theorem mg_pure {P : Program} {ops : Array Oper} {Q : Act → World → Prop} {i : Nat} {r : List (Nat × Nat)} {o : Oper} {a : Act} {w : World} (ho : ops[i]? = some o)
    (h : ∀ K : Act → Prop, (∀ a, MG P ops Q r a w → K a) → pureStep P ops o K a) : MG P ops Q ((i, 3) :: r) a w :=
  ⟨mix_pure ho fun K hK => h K fun a h => hK a h.out⟩
theorem grown_below {w w' w2 : World} {row : Option Nat} (h : w.grownBy w' row) (g : Below w'.heap.size w' w2) : w.grownBy w2 row :=
  ⟨g.os.trans h.os, g.tape.trans h.tape, g.output.trans h.output, Nat.le_trans h.size g.size, fun k hk hne => (g.block k (Nat.lt_of_lt_of_le hk h.size)).trans (h.block k hk hne)⟩
theorem rows_below {w w' : World} {e : TypeId} {sz n : Nat} {v : Value} {xs : List Value} (h : w.ownsRow 0 e sz v n xs) (g : Below w.heap.size w w') : w'.ownsRow 0 e sz v n xs :=
  ownsRow_same h fun k hk => g.block k (World.ownsRow.lt h k hk).2
/-- A row of another type is another block. -/
theorem rows_other {w : World} {e t : TypeId} {sz n b : Nat} {v : Value} {xs : List Value} {C : Array Value} {fr : Nat × Nat} (h : w.ownsRow 0 e sz v n xs) (hb : w.heap[b]? = some (.cells C t fr)) (he : t ≠ e) : ∀ g, v.ownBlock = some g → g ≠ b := by
  rintro g hg rfl
  rcases h.2 with ⟨rfl, _⟩ | ⟨g', cap, cur, rfl, _, hh, _⟩
  · simp [Value.ownBlock] at hg
  · simp [Value.ownBlock] at hg
    subst hg
    rw [hh] at hb
    injection hb with hb
    injection hb with _ hb
    exact he hb.symm
theorem ownB_block {w : World} {B g : Nat} {v : Value} {l : Bytes} (h : OwnB w B v l) (hg : v.ownBlock = some g) : B ≤ g ∧ g < w.heap.size := World.ownsRow.lt h g hg

/-- What stands has been stored. -/
theorem FileAt.stand {own : Owns} {w w6 w7 : World} {b : Nat} {f : FileP} (hf : FileAt own w b f) (hlt : ∀ k, own k ≠ none → k < w.heap.size) (g1 : Below w.heap.size w w6) {v : Value} {l : Bytes} (hv : OwnB w6 w.heap.size v l) (g2 : Below w6.heap.size (w6.setCell ⟨b, 0, none⟩ v) w7) :
    FileAt (own.new w.heap.size w7.heap.size fun _ => .bytes) w7 b { f with now := l } ∧ Turn (fun o => o = some (.file b)) own (own.new w.heap.size w7.heap.size fun _ => .bytes) w w7 := by
  obtain ⟨v1, v2, v3, L, h1, h2, h3, h4, h5, h6⟩ := hf.ex
  have hbl : b < w.heap.size := hlt b (by rw [hf.tag]; simp)
  have hs6 : w.heap.size ≤ w6.heap.size := g1.size
  have hs7 : w6.heap.size ≤ w7.heap.size := by have := g2.size; simpa [World.setCell] using this
  have hk : ∀ k, k < w6.heap.size → k ≠ b → w7.heap[k]? = w6.heap[k]? := fun k hk hne => (g2.block k hk).trans (Below.heap_setCell _ _ _ _ hne)
  have ht : Turn (fun o => o = some (.file b)) own (own.new w.heap.size w7.heap.size fun _ => .bytes) w w7 := by
    refine ⟨⟨g2.os.trans g1.os, g2.tape.trans g1.tape, g2.output.trans g1.output, Nat.le_trans hs6 hs7, fun k hk' => ⟨hk'.1, ?_⟩⟩, own.onto_new (Nat.le_trans hs6 hs7) _⟩
    exact (hk k (Nat.lt_of_lt_of_le hk'.1 hs6) (fun e => hk'.2 (by rw [e]; exact hf.tag))).trans (g1.block k hk'.1)
  refine ⟨⟨ht.ow.some hlt hf.tag, v, v2, v3, L, ?_, ?_, h3.turn ht hlt (by simp), ?_, fun g hg => ht.ow.some hlt (h5 g hg), h6.imp fun _ _ hc => hc.turn ht hlt (by simp)⟩, ht⟩
  · rw [g2.block b (Nat.lt_of_lt_of_le hbl hs6), heap_setCell_same _ _ _ _ _ _ ((g1.block b hbl).trans h1)]
    rfl
  · obtain ⟨a, c, e, hs⟩ := hv.sl
    have hx : ∀ x, a = some x → w.heap.size ≤ x.block ∧ x.block < w6.heap.size := fun x hx => ownB_block hv (by rw [e, hx]; rfl)
    refine ⟨a, c, e, sl_same hs fun x hx' => hk _ (hx x hx').2 (by have := (hx x hx').1; omega), fun x hx' => Owns.new_at _ _ (hx x hx').1 (Nat.lt_of_lt_of_le (hx x hx').2 hs7)⟩
  · refine ownsRow_same h4 fun g hg => ?_
    have hgl := (World.ownsRow.lt h4 g hg).2
    exact (hk g (Nat.lt_of_lt_of_le hgl hs6) (rows_other h4 h1 (by decide) g hg)).trans (g1.block g hgl)

/-- One change more has been stored. -/
theorem since_end {own : Owns} {w wb wc wd : World} {b : Nat} {v1 v2 v3 v' : Value} {L : List ChgA} {f : FileP} {x : ChgA} {c : Chg} (hlt : ∀ k, own k ≠ none → k < w.heap.size) (htag : own b = some (.file b))
    (h1 : w.heap[b]? = some (.cells #[v1, v2, v3] 70 (0, 0))) (h2 : SlO own w v1 f.now) (h3 : SlO own w v2 f.kept) (h5 : ∀ g, v3.ownBlock = some g → own g = some (.file b)) (h6 : All2 (ChgIs own w) L f.since)
    (gb : Below w.heap.size w wb) (gc : wb.grownBy wc v3.ownBlock) (hrow : wc.ownsRow 0 72 3 v' (L ++ [x]).length (flatR encC (L ++ [x]))) (hat : v'.ownBlock = v3.ownBlock ∨ v'.ownBlock = some wb.heap.size) (h4 : wb.ownsRow 0 72 3 v3 L.length (flatR encC L))
    (hx : ChgIs own w x c) (gd : Below wc.heap.size (wc.setCell ⟨b, 2, none⟩ v') wd) :
    FileAt (own.new w.heap.size wd.heap.size fun _ => .file b) wd b { f with since := f.since ++ [c] } ∧ Turn (fun o => o = some (.file b)) own (own.new w.heap.size wd.heap.size fun _ => .file b) w wd := by
  have hbl : b < w.heap.size := hlt b (by rw [htag]; simp)
  have hsb : w.heap.size ≤ wb.heap.size := gb.size
  have hsc : wb.heap.size ≤ wc.heap.size := gc.size
  have hsd : wc.heap.size ≤ wd.heap.size := by have := gd.size; simpa [World.setCell] using this
  have hbb := (gb.block b hbl).trans h1
  have hb3 : v3.ownBlock ≠ some b := fun e => rows_other h4 hbb (by decide) b e rfl
  have hbc := (gc.block b (by omega) (fun e => hb3 e.symm)).trans hbb
  have ht : Turn (fun o => o = some (.file b)) own (own.new w.heap.size wd.heap.size fun _ => .file b) w wd := by
    refine ⟨⟨gd.os.trans (gc.os.trans gb.os), gd.tape.trans (gc.tape.trans gb.tape), gd.output.trans (gc.output.trans gb.output), by omega, fun k hk => ⟨hk.1, ?_⟩⟩, own.onto_new (by omega) _⟩
    rw [gd.block k (by have := hk.1; omega), Below.heap_setCell _ _ _ _ (fun e => hk.2 (by rw [e]; exact htag)), gc.block k (by have := hk.1; omega) (fun e => hk.2 (h5 k e.symm)), gb.block k hk.1]
  have hv' : ∀ g, v'.ownBlock = some g → g ≠ b := rows_other hrow hbc (by decide)
  refine ⟨⟨ht.ow.some hlt htag, v1, v2, v', L ++ [x], ?_, h2.turn ht hlt (by simp), h3.turn ht hlt (by simp), ?_, fun g hg => ?_, (h6.imp fun _ _ hc => hc.turn ht hlt (by simp)).append (.one (hx.turn ht hlt (by simp)))⟩, ht⟩
  · rw [gd.block b (by omega), heap_setCell_same _ _ _ _ _ _ hbc]
    rfl
  · refine ownsRow_same hrow fun g hg => ?_
    have := (World.ownsRow.lt hrow g hg).2
    rw [gd.block g this, Below.heap_setCell _ _ _ _ (hv' g hg)]
  · rcases hat with e | e
    · exact ht.ow.some hlt (h5 g (by rw [← e]; exact hg))
    · rw [e] at hg
      injection hg with hg
      have := (World.ownsRow.lt hrow wb.heap.size e).2
      rw [← hg]
      exact Owns.new_at _ _ hsb (by omega)

/-- 'append' of one value onto a row. -/
theorem wpList_append_row1 {α : Type} [Inhabited α] {enc : α → List Value} {L : Nat} {t e : TypeId} (T : RecTy α enc L t e) {w : World} {ops : Array Oper} {rest : List Oper} {o : Oper} {a : Act} {Q : Exit → Act → World → Prop} (hgd : o.guard = none) (s x : Operand)
    (ho : o.op = .call { callee := .builtin .append, args := #[s, x], argTypes := #[t, t] })
    (v : Value) (xs : List α) (hs : a.eval s = v) (hR : w.ownsRow 0 e L v xs.length (flatR enc xs)) (ad : Addr) (c : Nat) (y : α) (hx : a.eval x = .slice (some ad) 1 c) (hy : RsAt enc L w (some ad) c [y])
    (hlen : xs.length ≤ 100000000)
    (h : ∀ v' w', w'.ownsRow 0 e L v' (xs ++ [y]).length (flatR enc (xs ++ [y])) → w.grownBy w' v.ownBlock → (v'.ownBlock = v.ownBlock ∨ v'.ownBlock = some w.heap.size) → wpList Tryd.prog ops Q rest (a.put o.dst v') w') : wpList Tryd.prog ops Q (o :: rest) a w := by
  obtain ⟨z, by_, hi0, hzs, hby⟩ := T.hi
  obtain ⟨i, hi, hz0, hz1, hz2⟩ := info_parts hi0
  have hbound : (xs.length + 1) * by_ ≤ 140737488355328 := Nat.le_trans (Nat.mul_le_mul (Nat.succ_le_succ hlen) hby) (by decide)
  rcases hy.cells with h0 | ⟨b, off, hbe, hc⟩
  · cases h0
  injection hbe with hbe
  subst hbe
  refine wpList_append_own_at w hgd s x t ho 0 e i _ L by_ T.ht hi hz0 hz1 hz2 (by simpa [Value.cells] using hzs) T.pos v xs.length (flatR enc xs) hs hR _ 1 c (flatR enc [y]) hx (by rw [T.flat_len]; rfl) (fun j u hj => ?_) (T.flat_oneCell [y]) (by unfold maxLen; omega) hbound (Nat.zero_le _) ?_
  · rw [Addr.add_mid]; exact (T.range_flat [y] off).2 hc j u hj
  · intro v' w' h1 h2 _ h4
    exact h v' w' (by rw [List.length_append, flatR_append]; exact h1) h2 h4

set_option maxRecDepth 100000 in
set_option maxHeartbeats 4000000 in
theorem do_any {own : Owns} {w : World} {b : Nat} {f : FileP} (hf : FileAt own w b f) (hlt : ∀ k, own k ≠ none → k < w.heap.size) {ca : ChgA} {c : Chg} (hc : ChgIs own w ca c) (hfit : c.fits f.now) (hnl : f.now.length ≤ 1000000000000) (hbl : c.b.length ≤ 1000000000000) (hsl : f.since.length ≤ 100000000) :
    Calls Tryd.prog 37 #[ptr b, .agg (recA encC ca)] w fun e w' => e = .returned (.tuple #[]) ∧ ∃ own', FileAt own' w' b (doF f c) ∧ Turn (fun o => o = some (.file b)) own own' w w' := by
  obtain ⟨v1, v2, v3, L, h1, ⟨a1, c1, rfl, s1, o1⟩, h3, h4, h5, h6⟩ := hf.ex
  have hb0 : b < w.heap.size := hlt b (by rw [hf.tag]; simp)
  obtain ⟨abx, cbx, ebx, sbx, obx⟩ := hc.b
  injection ebx with eb1 eb2 eb3
  subst eb1 eb3
  obtain ⟨bx, hbx⟩ : ∃ bx, bx = w.alloc (.cells (recA encC ca) 72) := ⟨_, rfl⟩
  have gb : Below w.heap.size w bx := by rw [hbx]; exact (Below.refl _ _).alloc (Nat.le_refl _) _
  have bb : bx.heap[w.heap.size]? = some (.cells (recA encC ca) 72 (0, 0)) := by rw [hbx]; exact heap_alloc_last _ _ _ rfl
  have k0 : bx.cell? ⟨b, 0, none⟩ = some (.slice a1 f.now.length c1) := cell_blk ((gb.block b hb0).trans h1) 0 _ rfl
  have LB : ∀ y : Later bx, (Instr.loadAt 72 (.pointer (some ⟨w.heap.size, 0, none⟩))).run Tryd.prog y.1 = .ok (.agg (recA encC ca)) y.1 := fun y => tyC.load ca _ _ _ (rangeR_below (recBox bb) y.2)
  have L1 : ∀ y : Later bx, (Instr.loadAt 51 (.pointer (some ⟨b, 0, none⟩))).run Tryd.prog y.1 = .ok (.slice a1 f.now.length c1) y.1 := fun y => by
    have c := load_later k0 y
    go_simp
  have HH := Lib.hid (And.intro gb (And.intro bb (And.intro hf (And.intro hlt (And.intro hc (And.intro hfit (And.intro hb0 (And.intro s1 (And.intro sbx eb2)))))))))
  have HL := Lib.hid (And.intro hnl (And.intro hbl hsl))
  clear gb bb k0 hf hlt hc hfit hb0 s1 sbx eb2 h1 o1 h3 h4 h5 h6 obx hnl hbl hsl
  go_enter Tryd.func37, Tryd.ntmps37
  go_upto_region 1 with (fail)
  rw [← hbx]
  clear hbx
  obtain ⟨nn, hnn⟩ : ∃ nn, nn = f.now.length := ⟨_, rfl⟩
  have HN := Lib.hid hnn
  rw [← hnn] at L1
  clear hnn
  generalize hRC : recA encC ca = RC at *
  have HRC := Lib.hid hRC
  clear hRC
  refine wp_region_mg [(0, 0), (1, 0), (2, 0), (3, 0), (4, 0), (5, 0), (6, 1), (7, 0), (8, 0), (9, 2)] (by kernel_rfl) (by kernel_rfl) ?_
  refine mg_calm rfl (fun K hK => ?_); go_simp; (refine hK _ ?_; clear hK K)
  refine mg_load rfl rfl _ _ rfl _ _ rfl LB ?_
  iterate 3 (refine mg_calm rfl (fun K hK => ?_); go_simp; (refine hK _ ?_; clear hK K))
  refine mg_load rfl rfl _ _ rfl _ _ rfl L1 ?_
  refine mg_loud rfl rfl (fun w4 hw4 K hK => ?_)
  obtain ⟨gb, bb, hf, hlt, hc, hfit, hb0, s1, sbx, eb2⟩ := HH.out
  have g4 : Below w.heap.size w w4 := gb.trans (Below.mono hw4 gb.size)
  have CO := on_any hc.at_ hc.cut (sbx.below g4) eb2 (s1.below g4) HN.out hfit HL.out.2.1 HL.out.1
  rw [HRC.out] at CO
  have H4 := Lib.hid (And.intro g4 hw4)
  clear gb bb hf hlt hc hfit hb0 s1 sbx eb2 g4 hw4
  go_wp2_with fail
  refine CO.mono ?_
  clear CO
  rintro e w5 ⟨v, rfl, h5⟩
  obtain ⟨av, mv, cv, rfl⟩ := h5.1.slice
  have H5 := Lib.hid (And.intro (H4.out.1.trans (h5.2.1.mono H4.out.1.size)) (And.intro (h5.rebase H4.out.1.size H4.out.1 (Nat.le_refl _)).1 (Grow.trans H4.out.2 h5.2.1)))
  have g5 := h5.2.1
  clear h5
  go_wp2_with fail
  refine hK _ _ g5 ?_
  clear hK K g5
  iterate 2 (refine mg_calm rfl (fun K hK => ?_); go_simp; (refine hK _ ?_; clear hK K))
  refine mg_sync rfl rfl (fun w6 hw6 K hK => ?_)
  have g6 : Below w.heap.size w w6 := H5.out.1.trans (Below.mono hw6 H5.out.1.size)
  obtain ⟨v1, v2, v3, L, h1, h2, h3, h4, h5, h6⟩ := HH.out.2.2.1.ex
  have hb6 := (g6.block b HH.out.2.2.2.2.2.2.1).trans h1
  have k6 := cell_blk hb6 0 _ rfl
  have f6 := free_blk hb6 0
  have H6 := Lib.hid (And.intro g6 (And.intro (H5.out.2.1.below hw6) (Grow.trans H5.out.2.2 hw6)))
  clear g6 h1 h2 h3 h4 h5 h6 hb6 hw6
  go_wp2_with fail
  refine mg_nil fun w7 hw7 => ?_
  obtain ⟨hf7, ht7⟩ := HH.out.2.2.1.stand HH.out.2.2.2.1 H6.out.1 H6.out.2.1 (by have := hw7.mono (B' := w6.heap.size) (by simp [World.setCell]); exact this)
  have bb7 : w7.heap[w.heap.size]? = some (.cells RC 72 (0, 0)) := by
    have l1 : w.heap.size < bx.heap.size := lt_of_block HH.out.2.1
    have l2 := Below.size H6.out.2.2
    rw [hw7.block _ (by simp [World.setCell]; omega), Below.heap_setCell _ _ _ _ (by have := HH.out.2.2.2.2.2.2.1; show w.heap.size ≠ b; omega), Below.block H6.out.2.2 _ l1]
    exact HH.out.2.1
  have hlt7 := ht7.ow.lt
  have hc7 := HH.out.2.2.2.2.1.turn ht7 HH.out.2.2.2.1 (by simp)
  have HT7 := Lib.hid (And.intro ht7 (And.intro hlt7 (And.intro hc7 hf7.tag)))
  obtain ⟨u1, u2, u3, L, p1, p2, p3, p4, p5, p6⟩ := hf7.ex
  have HP := Lib.hid (And.intro p1 (And.intro p2 (And.intro p3 (And.intro p4 (And.intro p5 p6)))))
  have k2 : w7.cell? ⟨b, 2, none⟩ = some u3 := cell_blk p1 2 _ rfl
  have LS : ∀ y : Later w7, (Instr.loadAt 68 (.pointer (some ⟨b, 2, none⟩))).run Tryd.prog y.1 = .ok u3 y.1 := fun y => by
    have c := load_later k2 y
    go_simp
  have LB7 : ∀ y : Later w7, (Instr.loadAt 72 (.pointer (some ⟨w.heap.size, 0, none⟩))).run Tryd.prog y.1 = .ok (.agg RC) y.1 := fun y => by
    rw [← HRC.out] at bb7 ⊢
    exact tyC.load ca _ _ _ (rangeR_below (recBox bb7) y.2)
  have BS : ∀ W : World, (Instr.buildSlice 68 1 #[(0, .agg RC)]).run Tryd.prog W = .ok (.slice (some ⟨W.heap.size, 0, none⟩) 1 1) (W.alloc (.cells RC 72)) := fun W => by rw [← HRC.out]; exact tyC.slice1 ca W
  clear hf7 ht7 hlt7 hc7 p1 p2 p3 p4 p5 p6 k2 bb7 hw7 LB L1
  clear k6 f6
  go_upto_region 2 with (fail)
  refine wp_region_mg [(0, 3), (1, 0), (2, 0), (3, 0), (4, 0), (5, 0), (6, 1), (7, 2), (8, 0), (9, 0), (10, 2)] (by kernel_rfl) (by kernel_rfl) ?_
  refine mg_pure rfl (fun K hK => ?_); go_simp; (refine hK _ ?_; clear hK K)
  iterate 3 (refine mg_calm rfl (fun K hK => ?_); go_simp; (refine hK _ ?_; clear hK K))
  refine mg_load rfl rfl _ _ rfl _ _ rfl LS ?_
  refine mg_load rfl rfl _ _ rfl _ _ rfl LB7 ?_
  refine mg_buildSlice_g rfl rfl _ _ _ rfl [(0, .agg RC)] RC 72 1 1 rfl BS (fun w8 hw8 => ?_)
  have g8 : Grow w8 (w8.alloc (.cells RC 72)) := (Below.refl _ _).alloc (Nat.le_refl _) _
  have y8 : RsAt encC 3 (w8.alloc (.cells RC 72)) (some ⟨w8.heap.size, 0, none⟩) 1 [ca] := by rw [← HRC.out]; exact RsAt.one w8 _ ca
  have H8 := Lib.hid (And.intro hw8 (And.intro g8 y8))
  clear hw8 y8 g8
  refine mg_sync rfl rfl (fun w9 hw9 K hK => ?_)
  have g9 : Below w7.heap.size w7 w9 := Grow.trans (Grow.trans H8.out.1 H8.out.2.1) hw9
  have r9 := rows_below HP.out.2.2.2.1 g9
  have y9 := H8.out.2.2.below hw9
  have hL : L.length ≤ 100000000 := by rw [HP.out.2.2.2.2.2.length]; exact HL.out.2.2
  have H9 := Lib.hid (And.intro g9 (And.intro r9 y9))
  clear g9 r9 y9 hw9
  refine wpList_append_row1 tyC rfl _ _ rfl u3 L rfl H9.out.2.1 ⟨w8.heap.size, 0, none⟩ 1 ca rfl H9.out.2.2 hL ?_
  intro v' w10 hr10 hg10 hat10
  obtain ⟨ar, nr, cr, rfl⟩ : ∃ a n c, v' = .slice a n c := by
    rcases hr10.2 with ⟨rfl, _⟩ | ⟨g, cap, cur, rfl, _⟩
    · exact ⟨_, _, _, rfl⟩
    · exact ⟨_, _, _, rfl⟩
  have H10 := Lib.hid (And.intro hr10 (And.intro hg10 hat10))
  clear hr10 hg10 hat10 hL
  go_wp2_with fail
  iterate 2 (refine mg_calm rfl (fun K hK => ?_); go_simp; (refine hK _ ?_; clear hK K))
  refine mg_sync rfl rfl (fun w11 hw11 K hK => ?_)
  have hb9 := (H9.out.1.block b (lt_of_block HP.out.1)).trans HP.out.1
  have hb11 : w11.heap[b]? = some (.cells #[u1, u2, u3] 70 (0, 0)) := by
    have hne : u3.ownBlock ≠ some b := fun e => rows_other H9.out.2.1 hb9 (by decide) b e rfl
    have l9 := lt_of_block hb9
    have e10 := (H10.out.2.1.block b l9 (fun e => hne e.symm)).trans hb9
    exact (Below.block hw11 b (lt_of_block e10)).trans e10
  have k11 := cell_blk hb11 2 _ rfl
  have f11 := free_blk hb11 2
  have H11 := Lib.hid hw11
  clear hb9 hb11 hw11
  go_wp2_with fail
  refine mg_nil fun w12 hw12 => ?_
  obtain ⟨hlt7, hc7, ht7⟩ : (∀ k, _ → k < w7.heap.size) ∧ _ ∧ _ := ⟨HT7.out.2.1, HT7.out.2.2.1, HT7.out.2.2.2⟩
  obtain ⟨hf12, ht12⟩ := since_end (f := { f with now := c.on f.now }) hlt7 ht7 HP.out.1 HP.out.2.1 HP.out.2.2.1 HP.out.2.2.2.2.1 HP.out.2.2.2.2.2 H9.out.1 (grown_below H10.out.2.1 H11.out) (rows_below H10.out.1 H11.out) H10.out.2.2 H9.out.2.1 hc7 (by have := hw12.mono (B' := w11.heap.size) (by simp [World.setCell]); exact this)
  have HE := Lib.hid (And.intro hf12 (HT7.out.1.trans ht12))
  clear hf12 ht12 hw12 hlt7 hc7 ht7
  go_wp2_with fail
  refine bodyPost_end (results_none rfl _ _ _) rfl ?_
  exact ⟨rfl, _, HE.out.1, HE.out.2⟩
end Go.Proofs.YtnlkanhakmkejaaDoor
