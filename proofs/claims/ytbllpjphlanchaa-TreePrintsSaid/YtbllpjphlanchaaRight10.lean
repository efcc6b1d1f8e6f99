/-
  tree.Right: the walk. (Printed by gen/gen_right10.py.)
-/
import Derived.Test.YtbllpjphlanchaaNamed
import Derived.Test.YtbllpjphlanchaaStrSet
import Derived.Test.YtbllpjphlanchaaBox
namespace Go.Proofs.Ytbllpjphlanchaa
open Go.RowKit Go.Mix Go.Maps Go.WideMaps

def namesL (l : List Ent) (x : List UInt8) : Bool := l.any fun p => decide (p.name = x)
theorem take_succE {l : List Ent} {i : Nat} (h : i < l.length) : l.take (i + 1) = l.take i ++ [l[i]!] := by
  rw [List.take_succ_eq_append_getElem h, getElem!_pos l i h]
theorem namesL_succ {l : List Ent} {i : Nat} (h : i < l.length) : namesL (l.take (i + 1)) = fun x => namesL (l.take i) x || decide (x = l[i]!.name) := by
  funext x; unfold namesL; rw [take_succE h, List.any_append]
  congr 1
  simp only [List.any_cons, List.any_nil, Bool.or_false]
  rw [Bool.eq_iff_iff, decide_eq_true_eq, decide_eq_true_eq]; exact eq_comm
/-- May entry i stand in a tree? -/
def stepOk (l : List Ent) (i : Nat) : Bool := !decide (digs l[i]!.mode = []) && namedL l[i]!.name && !namesL (l.take i) l[i]!.name && (!decide (0 < i) || !decide (0 ≤ Lib.compareBytes (thoughtL l[i - 1]!) (thoughtL l[i]!)))
/-- May a tree have these? -/
def RightE (l : List Ent) : Prop := ∀ i, i < l.length → stepOk l i = true
set_option maxRecDepth 100000 in
set_option maxHeartbeats 4000000 in
theorem right_any {w : World} {l : List Ent} {a : Option Addr} {cap : Nat} (hg : RsAt encE 22 w a cap l) (hlen : l.length ≤ 1000000) (hnm : ∀ p ∈ l, p.name.length ≤ 1000000) :
    Calls Try.prog 13 #[.slice a l.length cap] w fun e w' => ∃ r : Bool, e = .returned (.bool r) ∧ (r = true ↔ RightE l) ∧ Below w.heap.size w w' := by
  have hmm := @run_makeMap Try.prog
  obtain ⟨n, hn⟩ : ∃ n, n = l.length := ⟨_, rfl⟩
  have HN := Lib.hid (And.intro hn hnm)
  have HG := Lib.hid hg
  rw [← hn] at hlen ⊢
  clear hn hg hnm
  obtain ⟨Z, hZ⟩ : ∃ Z, Z = recA encE ent0 := ⟨_, rfl⟩
  have z : ∀ w, (zeroValue 40).run Try.prog w = .ok (.agg Z) w := fun w => by rw [hZ]; kernel_rfl
  have HZ := Lib.hid hZ
  clear hZ
  have hm1 : (w.alloc (.map #[] 0)).ownsMap Try.prog 9 (plainElem (H := Unit) Try.prog 4) w.heap.size 0 (.map []) := World.ownsMap_made _ _ _ _
  have hb0 : Below w.heap.size w (w.alloc (.map #[] 0)) := (Below.refl _ _).alloc (Nat.le_refl _) _
  have HM := Lib.hid (And.intro hm1 hb0)
  clear hm1 hb0
  go_enter Try.func13, Try.ntmps13
  go_wp2_with fail
  go_loopw [4, 9] (fun _ s9 wr => ∃ (i : Nat) (D1 : DataW Unit), s9 = .int .i64 (i : Int) ∧ i ≤ n ∧ wr.ownsMap Try.prog 9 (plainElem Try.prog 4) w.heap.size i D1 ∧ StrsAre D1 (namesL (l.take i)) ∧ (∀ j, j < i → stepOk l j = true) ∧ Below w.heap.size w wr) (fun _ s9 _ => n - (intOf s9).toNat)
  case atStart => exact ⟨0, .map [], rfl, Nat.zero_le _, HM.out.1, strs_start, fun _ h => absurd h (Nat.not_lt_zero _), HM.out.2⟩
  case round =>
    obtain ⟨i, D1, rfl, hi, hm1, hD1, hpre, hb⟩ := hrel
    have HP := Lib.hid hpre
    have HB := Lib.hid hb
    clear hpre
    by_cases hin : i < n
    · have t1 : decide ((i : Int) < (n : Int)) = true := decide_eq_true (by omega)
      have t1' : decide (i < n) = true := decide_eq_true (by omega)
      have hil : i < l.length := by rw [← HN.out.1]; exact hin
      obtain ⟨b, q, IX, -, L⟩ := (HG.out.below hb).at tyE (i : Int) i rfl hil
      rw [← HN.out.1] at IX
      have L' := L _ (Below.refl _ _)
      have hP1 := strs_put hD1 l[i]!.name
      rw [← namesL_succ hil] at hP1
      have hpn : l[i]!.name.length ≤ 1000000 := HN.out.2 _ (by rw [getElem!_pos l i hil]; exact List.getElem_mem hil)
      have hso : stepOk l i = (!decide (digs l[i]!.mode = []) && namedL l[i]!.name && !namesL (l.take i) l[i]!.name && (!decide (0 < i) || !decide (0 ≤ Lib.compareBytes (thoughtL l[i - 1]!) (thoughtL l[i]!)))) := rfl
      have HSO := Lib.hid (And.intro hso hil)
      have HPUT := Lib.hid hP1
      have HD := Lib.hid hD1
      have HMM := Lib.hid hm1
      obtain ⟨p, hp⟩ : ∃ p, p = l[i]! := ⟨_, rfl⟩
      rw [← hp] at L'
      rw [← hp] at hpn
      have HPP := Lib.hid hp.symm
      have HPN := Lib.hid hpn
      have hzb : (wr.alloc (.cells Z 40)).heap[wr.heap.size]? = some (.cells Z 40 (0, 0)) := heap_alloc_last _ _ _ rfl
      have zs : Z.size = (recA encE p).size := by rw [HZ.out]; simp [recA, encE_len]
      have zi : (Try.prog.info? 40).map (·.size) = some (recA encE p).size := by rw [show (recA encE p).size = 22 by simp [recA, encE_len]]; exact tyE.ie
      have z1 : (recA encE p).all (·.oneCell') = true := all_oneCell_toArray (encE_one _)
      have gA : Below wr.heap.size wr ((wr.alloc (.cells Z 40)).setRow wr.heap.size (recA encE p)) := below_setRow ((Below.refl _ _).alloc (Nat.le_refl _) _) (Nat.le_refl _) _
      have hbox : ((wr.alloc (.cells Z 40)).setRow wr.heap.size (recA encE p)).heap[wr.heap.size]? = some (.cells (recA encE p) 40 (0, 0)) := setRow_heap _ _ _ _ _ _ hzb
      have HA := Lib.hid (And.intro gA hbox)
      clear L hP1 hD1 hm1 hp hb hil gA hbox hso hpn
      go_upto_region 5 with (first | (refine wpList_load_at rfl _ _ rfl _ _ rfl L' ?_) | (refine wpList_store_row rfl 40 _ _ rfl wr.heap.size (recA encE p) rfl rfl 40 Z hzb zi zs z1 ?_))
      have gA := HA.out.1
      have hbox := HA.out.2
      obtain ⟨B, hB⟩ : ∃ B, B = wr.heap.size := ⟨_, rfl⟩
      have hBlt : w.heap.size < B := by rw [hB]; exact HMM.out.lt
      clear HA L' IX zs zi z1 hzb
      generalize (wr.alloc (.cells Z 40)).setRow wr.heap.size (recA encE p) = w5 at *
      rw [← hB] at hbox ⊢
      clear hB
      have gk : wr.grownBy w5 none := ⟨gA.os, gA.tape, gA.output, gA.size, fun k hk _ => gA.block k hk⟩
      have m1 := HMM.out.kept gk (by simp)
      have hb5 := HB.out.trans (gA.mono HB.out.size)
      have LKw := strs_look m1 HD.out p.name HPN.out
      obtain ⟨f0, f1, -⟩ := ent_fields (recBox hbox)
      rw [Nat.zero_add] at f1
      have LE : ∀ y : Later w5, (Instr.loadAt 40 (.pointer (some ⟨B, 0, none⟩))).run Try.prog y.1 = .ok (.agg (recA encE p)) y.1 := fun y => tyE.load _ _ _ _ (rangeR_below (recBox hbox) y.2)
      have L0 : ∀ y : Later w5, (Instr.loadAt 3 (.pointer (some ⟨B, 0, none⟩))).run Try.prog y.1 = .ok (.int .i64 p.mode) y.1 := fun y => by
        have c : y.1.cell? ⟨B, 0, none⟩ = some (.int .i64 p.mode) := (y.2.cell (p := ⟨B, 0, none⟩) (lt_of_cell f0)).trans f0
        go_simp
      have L1 : ∀ y : Later w5, (Instr.loadAt 9 (.pointer (some ⟨B, 1, none⟩))).run Try.prog y.1 = .ok (.string (strOf p.name)) y.1 := fun y => by
        have c : y.1.cell? ⟨B, 1, none⟩ = some (.string (strOf p.name)) := (y.2.cell (p := ⟨B, 1, none⟩) (lt_of_cell f1)).trans f1
        go_simp
      have LK : ∀ y : Later w5, (Instr.lookup 56 (.map (some w.heap.size)) (.string (strOf p.name)) false).run Try.prog y.1 = .ok (.bool (namesL (l.take i) p.name)) y.1 := fun y =>
        strs_look (m1.kept (row := none) ⟨y.2.os, y.2.tape, y.2.output, y.2.size, fun k hk _ => y.2.block k hk⟩ (by simp)) HD.out p.name HPN.out
      have H5 := Lib.hid (And.intro m1 (And.intro hb5 hbox))
      have HB5 := Lib.hid hb5
      have CD := fun W => digits_any p.mode W
      have CN := fun W => named_any p.name HPN.out W
      have E0 : ((strOf (digs p.mode)).toList.isEmpty) = decide (digs p.mode = []) := strOf_empty _
      have HSO2 := HSO.out.1
      rw [HPP.out] at HSO2
      generalize decide (digs p.mode = []) = d0 at *
      generalize strOf (digs p.mode) = DS at *
      generalize namedL p.name = d1 at *
      generalize namesL (l.take i) p.name = d2 at *
      have HKN := Lib.hid (key_str p.name HPN.out)
      generalize strOf p.name = NS at *
      have HSO3 := Lib.hid HSO2
      clear HSO2 m1 hb5 hbox gA gk LKw f0 f1
      cases d0
      case true =>
        refine wp_region_mg [(0, 0), (1, 0), (2, 0), (3, 0), (4, 0), (5, 0), (6, 0), (7, 0), (8, 0), (9, 0), (10, 0), (11, 0), (12, 0), (13, 0), (14, 0), (15, 0), (16, 0), (17, 0), (18, 0), (19, 0), (20, 0), (21, 0), (22, 0), (23, 0), (24, 0), (25, 0), (26, 0), (27, 0), (28, 0), (29, 0)] (by kernel_rfl) (by kernel_rfl) ?_
        (refine mg_calm rfl (fun K hK => ?_); go_simp; (refine hK _ ?_; clear hK K))
        refine mg_load rfl rfl _ _ rfl _ _ rfl L0 ?_
        (refine mg_calm rfl (fun K hK => ?_); go_simp; apply Exists.intro; refine ⟨fun z => calls_calm (CD z.1), hK _ ?_⟩; clear hK K)
        iterate 27 ((refine mg_calm rfl (fun K hK => ?_); go_simp; (refine hK _ ?_; clear hK K)))
        refine mg_nil fun w7 hw7 => ?_
        have HB7 := Lib.hid (H5.out.2.1.trans (hw7.mono H5.out.2.1.size))
        clear hw7 L0 L1 LE LK CD CN E0
        go_wp2_with fail
        go_ret
        exact ⟨_, rfl, ⟨fun h => (by cases h), fun h => absurd (h i HSO.out.2) (by rw [HSO3.out]; simp)⟩, HB7.out⟩
      cases d1
      case false =>
        refine wp_region_mg [(0, 0), (1, 0), (2, 0), (3, 0), (4, 0), (5, 0), (6, 0), (7, 0), (8, 0), (9, 0), (10, 0), (11, 0), (12, 0), (13, 0), (14, 0), (15, 0), (16, 0), (17, 0), (18, 0), (19, 0), (20, 0), (21, 0), (22, 0), (23, 0), (24, 0), (25, 0), (26, 0), (27, 0), (28, 0), (29, 0)] (by kernel_rfl) (by kernel_rfl) ?_
        (refine mg_calm rfl (fun K hK => ?_); go_simp; (refine hK _ ?_; clear hK K))
        refine mg_load rfl rfl _ _ rfl _ _ rfl L0 ?_
        (refine mg_calm rfl (fun K hK => ?_); go_simp; apply Exists.intro; refine ⟨fun z => calls_calm (CD z.1), hK _ ?_⟩; clear hK K)
        iterate 3 ((refine mg_calm rfl (fun K hK => ?_); go_simp; (refine hK _ ?_; clear hK K)))
        refine mg_load rfl rfl _ _ rfl _ _ rfl L1 ?_
        (refine mg_calm rfl (fun K hK => ?_); go_simp; apply Exists.intro; refine ⟨fun z => CN z.1, hK _ ?_⟩; clear hK K)
        iterate 22 ((refine mg_calm rfl (fun K hK => ?_); go_simp; (refine hK _ ?_; clear hK K)))
        refine mg_nil fun w7 hw7 => ?_
        have HB7 := Lib.hid (H5.out.2.1.trans (hw7.mono H5.out.2.1.size))
        clear hw7 L0 L1 LE LK CD CN E0
        go_wp2_with fail
        go_ret
        exact ⟨_, rfl, ⟨fun h => (by cases h), fun h => absurd (h i HSO.out.2) (by rw [HSO3.out]; simp)⟩, HB7.out⟩
      cases d2
      case true =>
        refine wp_region_mg [(0, 0), (1, 0), (2, 0), (3, 0), (4, 0), (5, 0), (6, 0), (7, 0), (8, 0), (9, 0), (10, 0), (11, 0), (12, 0), (13, 0), (14, 0), (15, 0), (16, 0), (17, 0), (18, 0), (19, 0), (20, 0), (21, 0), (22, 0), (23, 0), (24, 0), (25, 0), (26, 0), (27, 0), (28, 0), (29, 0)] (by kernel_rfl) (by kernel_rfl) ?_
        (refine mg_calm rfl (fun K hK => ?_); go_simp; (refine hK _ ?_; clear hK K))
        refine mg_load rfl rfl _ _ rfl _ _ rfl L0 ?_
        (refine mg_calm rfl (fun K hK => ?_); go_simp; apply Exists.intro; refine ⟨fun z => calls_calm (CD z.1), hK _ ?_⟩; clear hK K)
        iterate 3 ((refine mg_calm rfl (fun K hK => ?_); go_simp; (refine hK _ ?_; clear hK K)))
        refine mg_load rfl rfl _ _ rfl _ _ rfl L1 ?_
        (refine mg_calm rfl (fun K hK => ?_); go_simp; apply Exists.intro; refine ⟨fun z => CN z.1, hK _ ?_⟩; clear hK K)
        iterate 5 ((refine mg_calm rfl (fun K hK => ?_); go_simp; (refine hK _ ?_; clear hK K)))
        refine mg_load rfl rfl _ _ rfl _ _ rfl L1 ?_
        refine mg_look rfl rfl _ _ _ rfl _ _ _ rfl rfl LK ?_
        iterate 15 ((refine mg_calm rfl (fun K hK => ?_); go_simp; (refine hK _ ?_; clear hK K)))
        refine mg_nil fun w7 hw7 => ?_
        have HB7 := Lib.hid (H5.out.2.1.trans (hw7.mono H5.out.2.1.size))
        clear hw7 L0 L1 LE LK CD CN E0
        go_wp2_with fail
        go_ret
        exact ⟨_, rfl, ⟨fun h => (by cases h), fun h => absurd (h i HSO.out.2) (by rw [HSO3.out]; simp)⟩, HB7.out⟩
      by_cases hi0 : i = 0
      · have hgt : decide (0 < i) = false := decide_eq_false (by omega)
        have HI0 := Lib.hid hi0
        clear hi0
        refine wp_region_mg [(0, 0), (1, 0), (2, 0), (3, 0), (4, 0), (5, 0), (6, 0), (7, 0), (8, 0), (9, 0), (10, 0), (11, 0), (12, 0), (13, 0), (14, 0), (15, 0), (16, 0), (17, 0), (18, 0), (19, 0), (20, 0), (21, 0), (22, 0), (23, 0), (24, 0), (25, 0), (26, 0), (27, 0), (28, 0), (29, 0)] (by kernel_rfl) (by kernel_rfl) ?_
        (refine mg_calm rfl (fun K hK => ?_); go_simp; (refine hK _ ?_; clear hK K))
        refine mg_load rfl rfl _ _ rfl _ _ rfl L0 ?_
        (refine mg_calm rfl (fun K hK => ?_); go_simp; apply Exists.intro; refine ⟨fun z => calls_calm (CD z.1), hK _ ?_⟩; clear hK K)
        iterate 3 ((refine mg_calm rfl (fun K hK => ?_); go_simp; (refine hK _ ?_; clear hK K)))
        refine mg_load rfl rfl _ _ rfl _ _ rfl L1 ?_
        (refine mg_calm rfl (fun K hK => ?_); go_simp; apply Exists.intro; refine ⟨fun z => CN z.1, hK _ ?_⟩; clear hK K)
        iterate 5 ((refine mg_calm rfl (fun K hK => ?_); go_simp; (refine hK _ ?_; clear hK K)))
        refine mg_load rfl rfl _ _ rfl _ _ rfl L1 ?_
        refine mg_look rfl rfl _ _ _ rfl _ _ _ rfl rfl LK ?_
        iterate 15 ((refine mg_calm rfl (fun K hK => ?_); go_simp; (refine hK _ ?_; clear hK K)))
        refine mg_nil fun w7 hw7 => ?_
        have gk7 : w5.grownBy w7 none := ⟨hw7.os, hw7.tape, hw7.output, hw7.size, fun k hk _ => hw7.block k hk⟩
        have m7 := H5.out.1.kept gk7 (by simp)
        have hb7 := H5.out.2.1.trans (hw7.mono H5.out.2.1.size)
        have L7 := L1 ⟨w7, hw7⟩
        simp only at L7
        have H7 := Lib.hid (And.intro m7 hb7)
        clear hw7 L0 LE LK CD CN E0 hgt L1 gk7 m7 hb7
        go_wp2_with (first | (refine wpList_load_at rfl _ _ rfl _ _ rfl L7 ?_) | (refine wpList_mapUpdate_own _ rfl _ _ _ 56 rfl 9 4 strKeyed Try.underlying56 (plainElem Try.prog 4) w.heap.size i D1 rfl H7.out.1 (by unfold maxLen; omega) _ _ _ rfl rfl HKN.out _ [] (plainElem_bool Try.underlying4 true) ?_; intro w9 hm9 hg9; have HX9 := Lib.hid (And.intro hm9 (H7.out.2.grown hg9 H7.out.2.size (fun k hk => by injection hk with hk; omega))); clear hm9 hg9 L7))
        go_roundw
        case rel =>
          refine ⟨i + 1, _, by go_num, by omega, HX9.out.1, HPP.out ▸ HPUT.out, fun j hj => ?_, HX9.out.2⟩
          rcases Nat.lt_or_ge j i with h | h
          · exact HP.out j h
          · obtain rfl : j = i := by omega
            rw [HSO3.out]
            rw [decide_eq_false (show ¬ 0 < j by have := HI0.out; omega)]; simp
        case measure => simp [intOf]; omega
      have hi1 : 0 < i := by omega
      obtain ⟨b2, q2, IX2, -, LW2⟩ := (HG.out.below HB5.out).at tyE ((i : Int) - 1) (i - 1) (by omega) (by rw [← HN.out.1]; omega)
      rw [← HN.out.1] at IX2
      have LP : ∀ y : Later w5, (Instr.loadAt 40 (.pointer (some ⟨b2, q2, none⟩))).run Try.prog y.1 = .ok (.agg (recA encE l[i - 1]!)) y.1 := fun y => LW2 y.1 y.2
      have hpn2 : l[i - 1]!.name.length ≤ 1000000 := HN.out.2 _ (by rw [getElem!_pos l (i - 1) (by rw [← HN.out.1]; omega)]; exact List.getElem_mem _)
      have CO := fun W => order_any l[i - 1]! p hpn2 HPN.out W
      have hwp : IntKind.i64.wrap ((i : Int) - 1) = (i : Int) - 1 := by rw [IntKind.wrap_i64]; omega
      have hgt : decide (0 < i) = true := decide_eq_true (by omega)
      have HSO4 := Lib.hid HSO3.out
      clear HSO3 hpn2 LW2 hi0
      generalize Lib.compareBytes (thoughtL l[i - 1]!) (thoughtL p) = cv at *
      generalize l[i - 1]! = p2 at *
      have HSO3 := Lib.hid HSO4.out
      clear HSO4
      by_cases hcv : 0 ≤ cv
      · have HCV := Lib.hid hcv
        refine wp_region_mg [(0, 0), (1, 0), (2, 0), (3, 0), (4, 0), (5, 0), (6, 0), (7, 0), (8, 0), (9, 0), (10, 0), (11, 0), (12, 0), (13, 0), (14, 0), (15, 0), (16, 0), (17, 0), (18, 0), (19, 0), (20, 0), (21, 0), (22, 0), (23, 0), (24, 0), (25, 0), (26, 0), (27, 0), (28, 0), (29, 0)] (by kernel_rfl) (by kernel_rfl) ?_
        (refine mg_calm rfl (fun K hK => ?_); go_simp; (refine hK _ ?_; clear hK K))
        refine mg_load rfl rfl _ _ rfl _ _ rfl L0 ?_
        (refine mg_calm rfl (fun K hK => ?_); go_simp; apply Exists.intro; refine ⟨fun z => calls_calm (CD z.1), hK _ ?_⟩; clear hK K)
        iterate 3 ((refine mg_calm rfl (fun K hK => ?_); go_simp; (refine hK _ ?_; clear hK K)))
        refine mg_load rfl rfl _ _ rfl _ _ rfl L1 ?_
        (refine mg_calm rfl (fun K hK => ?_); go_simp; apply Exists.intro; refine ⟨fun z => CN z.1, hK _ ?_⟩; clear hK K)
        iterate 5 ((refine mg_calm rfl (fun K hK => ?_); go_simp; (refine hK _ ?_; clear hK K)))
        refine mg_load rfl rfl _ _ rfl _ _ rfl L1 ?_
        refine mg_look rfl rfl _ _ _ rfl _ _ _ rfl rfl LK ?_
        iterate 9 ((refine mg_calm rfl (fun K hK => ?_); go_simp; (refine hK _ ?_; clear hK K)))
        refine mg_load rfl rfl _ _ rfl _ _ rfl LP ?_
        refine mg_load rfl rfl _ _ rfl _ _ rfl LE ?_
        (refine mg_calm rfl (fun K hK => ?_); go_simp; apply Exists.intro; refine ⟨fun z => CO z.1, hK _ ?_⟩; clear hK K)
        iterate 3 ((refine mg_calm rfl (fun K hK => ?_); go_simp; (refine hK _ ?_; clear hK K)))
        refine mg_nil fun w7 hw7 => ?_
        have HB7 := Lib.hid (H5.out.2.1.trans (hw7.mono H5.out.2.1.size))
        clear hw7 L0 L1 LE LK CD CN E0 IX2 LP CO hwp hgt
        go_wp2_with fail
        go_ret
        exact ⟨_, rfl, ⟨fun h => (by cases h), fun h => absurd (h i HSO.out.2) (by rw [HSO3.out, decide_eq_true HCV.out, decide_eq_true hi1]; simp)⟩, HB7.out⟩
      · have HCV := Lib.hid hcv
        refine wp_region_mg [(0, 0), (1, 0), (2, 0), (3, 0), (4, 0), (5, 0), (6, 0), (7, 0), (8, 0), (9, 0), (10, 0), (11, 0), (12, 0), (13, 0), (14, 0), (15, 0), (16, 0), (17, 0), (18, 0), (19, 0), (20, 0), (21, 0), (22, 0), (23, 0), (24, 0), (25, 0), (26, 0), (27, 0), (28, 0), (29, 0)] (by kernel_rfl) (by kernel_rfl) ?_
        (refine mg_calm rfl (fun K hK => ?_); go_simp; (refine hK _ ?_; clear hK K))
        refine mg_load rfl rfl _ _ rfl _ _ rfl L0 ?_
        (refine mg_calm rfl (fun K hK => ?_); go_simp; apply Exists.intro; refine ⟨fun z => calls_calm (CD z.1), hK _ ?_⟩; clear hK K)
        iterate 3 ((refine mg_calm rfl (fun K hK => ?_); go_simp; (refine hK _ ?_; clear hK K)))
        refine mg_load rfl rfl _ _ rfl _ _ rfl L1 ?_
        (refine mg_calm rfl (fun K hK => ?_); go_simp; apply Exists.intro; refine ⟨fun z => CN z.1, hK _ ?_⟩; clear hK K)
        iterate 5 ((refine mg_calm rfl (fun K hK => ?_); go_simp; (refine hK _ ?_; clear hK K)))
        refine mg_load rfl rfl _ _ rfl _ _ rfl L1 ?_
        refine mg_look rfl rfl _ _ _ rfl _ _ _ rfl rfl LK ?_
        iterate 9 ((refine mg_calm rfl (fun K hK => ?_); go_simp; (refine hK _ ?_; clear hK K)))
        refine mg_load rfl rfl _ _ rfl _ _ rfl LP ?_
        refine mg_load rfl rfl _ _ rfl _ _ rfl LE ?_
        (refine mg_calm rfl (fun K hK => ?_); go_simp; apply Exists.intro; refine ⟨fun z => CO z.1, hK _ ?_⟩; clear hK K)
        iterate 3 ((refine mg_calm rfl (fun K hK => ?_); go_simp; (refine hK _ ?_; clear hK K)))
        refine mg_nil fun w7 hw7 => ?_
        have gk7 : w5.grownBy w7 none := ⟨hw7.os, hw7.tape, hw7.output, hw7.size, fun k hk _ => hw7.block k hk⟩
        have m7 := H5.out.1.kept gk7 (by simp)
        have hb7 := H5.out.2.1.trans (hw7.mono H5.out.2.1.size)
        have L7 := L1 ⟨w7, hw7⟩
        simp only at L7
        have H7 := Lib.hid (And.intro m7 hb7)
        clear hw7 L0 LE LK CD CN E0 IX2 LP CO hwp hgt L1 gk7 m7 hb7
        go_wp2_with (first | (refine wpList_load_at rfl _ _ rfl _ _ rfl L7 ?_) | (refine wpList_mapUpdate_own _ rfl _ _ _ 56 rfl 9 4 strKeyed Try.underlying56 (plainElem Try.prog 4) w.heap.size i D1 rfl H7.out.1 (by unfold maxLen; omega) _ _ _ rfl rfl HKN.out _ [] (plainElem_bool Try.underlying4 true) ?_; intro w9 hm9 hg9; have HX9 := Lib.hid (And.intro hm9 (H7.out.2.grown hg9 H7.out.2.size (fun k hk => by injection hk with hk; omega))); clear hm9 hg9 L7))
        go_roundw
        case rel =>
          refine ⟨i + 1, _, by go_num, by omega, HX9.out.1, HPP.out ▸ HPUT.out, fun j hj => ?_, HX9.out.2⟩
          rcases Nat.lt_or_ge j i with h | h
          · exact HP.out j h
          · obtain rfl : j = i := by omega
            rw [HSO3.out]
            rw [decide_eq_false HCV.out]; simp
        case measure => simp [intOf]; omega
    · obtain rfl : i = n := by omega
      have t1 : decide ((i : Int) < (i : Int)) = false := decide_eq_false (by omega)
      have t1' : decide (i < i) = false := decide_eq_false (by omega)
      clear hm1 hD1 hb
      go_wp2_with fail
      go_ret
      exact ⟨_, rfl, ⟨fun _ j hj => HP.out j (by rw [HN.out.1]; exact hj), fun _ => rfl⟩, HB.out⟩
end Go.Proofs.Ytbllpjphlanchaa
