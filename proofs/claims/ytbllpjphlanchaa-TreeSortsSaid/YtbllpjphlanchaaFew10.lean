/-
  The law's Few and As, the document's Same: the walks.
-/
import Derived.Test.YtbllpjphlanchaaRight10
import Derived.Test.YtbllpjphlanchaaBuildE
import Derived.Test.YtbllpjphlanchaaBufStr
import Derived.Test.YtbllpjphlanchaaStrOps
import Derived.Test.YtbllpjphlanchaaEqE
import Derived.Test.YtbllpjphlanchaaPrint10
namespace Go.Proofs.Ytbllpjphlanchaa
open Go.RowKit Go.Mix Go.WideMaps

theorem mg_buildSlice {P : Program} {ops : Array Oper} {Q : Act → World → Prop} {i : Nat} {r : List (Nat × Nat)} {o : Oper} {a : Act} {w : World} (ho : ops[i]? = some o) (hw : Region.wanted o (yielded ops a.tmps) = true) (hgd : o.guard = none)
    (ty : TypeId) (k : Nat) (ps : Array (Nat × Operand)) (hop : o.op = .buildSlice ty k ps) (PS : List (Nat × Value)) (C : Array Value) (et : TypeId) (n c : Nat) (hx : (ps.toList.map fun p => (p.1, a.eval p.2)) = PS)
    (hl : ∀ y : World, (Instr.buildSlice ty k PS.toArray).run P y = .ok (.slice (some ⟨y.heap.size, 0, none⟩) n c) (y.alloc (.cells C et)))
    (h : ∀ w', Grow w w' → MG P ops Q r (a.put o.dst (.slice (some ⟨w'.heap.size, 0, none⟩) n c)) (w'.alloc (.cells C et))) : MG P ops Q ((i, 1) :: r) a w :=
  mg_loud ho hw fun w' hw' K hK => by
    have e : (ps.map fun (i, x) => (i, a.eval x)) = PS.toArray := Array.ext' (by rw [Array.toList_map]; exact hx)
    refine wpList_plain hgd fun K' hK' => ?_
    unfold Oper.wp execOp
    simp only [hop, e, Sem.run_bind, Sem.run_pure, Result.andThen_ok, hl]
    exact hK' _ _ (hK _ _ ((Below.refl _ _).alloc (Nat.le_refl _) _) (h w' hw'))

set_option maxRecDepth 100000 in
set_option maxHeartbeats 2000000 in
theorem as_any {w : World} {l : List Ent} {a : Option Addr} {cap : Nat} (hg : RsAt encE 22 w a cap l) (hlen : l.length ≤ 1000000) :
    Calls Try.prog 9 #[.slice a l.length cap] w fun e w' => ∃ v, e = .returned v ∧ OwnR encE 22 43 w w' v l := by
  obtain ⟨n, hn⟩ : ∃ n, n = l.length := ⟨_, rfl⟩
  have HN := Lib.hid hn
  have HG := Lib.hid hg
  have HLEN := Lib.hid hlen
  rw [← hn]
  clear hn hg hlen
  have hF0 : Below w.heap.size w w := Below.refl _ _
  go_enter Try.func9, Try.ntmps9
  go_wp2_with fail
  go_loopw [3, 4] (fun s3 s4 wr => ∃ i : Nat, s4 = .int .i64 (i : Int) ∧ i ≤ n ∧ OwnR encE 22 43 w wr s3 (l.take i)) (fun _ s4 _ => n - (intOf s4).toNat)
  case atStart => exact ⟨0, rfl, Nat.zero_le _, OwnR.nil hF0⟩
  case round =>
    obtain ⟨i, rfl, hi, hrow⟩ := hrel
    by_cases him : i < n
    · have t1 : decide ((i : Int) < (n : Int)) = true := decide_eq_true (by omega)
      have t1' : decide (i < n) = true := decide_eq_true (by omega)
      have hil : i < l.length := by rw [← HN.out]; omega
      obtain ⟨b, q, IX, R, -⟩ := (HG.out.below hrow.frame).at tyE (i : Int) i rfl hil
      rw [← HN.out] at IX
      obtain ⟨f0, f1, f2⟩ := ent_fields R
      have HS := Lib.hid (take_succE hil)
      have HL := Lib.hid (show (l.take i).length ≤ 1000000 by have := HLEN.out; rw [List.length_take]; omega)
      have hi6 : i ≤ 1000000 := by have := HLEN.out; omega
      generalize l[i]! = p at *
      generalize l.take i = xs at *
      have L0 : ∀ y : Later wr, (Instr.loadAt 3 (.pointer (some ⟨b, q, none⟩))).run Try.prog y.1 = .ok (.int .i64 p.mode) y.1 := fun y => by
        have c := load_later f0 y
        clear IX t1
        go_simp
      have L1 : ∀ y : Later wr, (Instr.loadAt 9 (.pointer (some ⟨b, q + 1, none⟩))).run Try.prog y.1 = .ok (.string (strOf p.name)) y.1 := fun y => by
        have c := load_later f1 y
        clear IX t1
        go_simp
      have L2 : ∀ y : Later wr, (Instr.loadAt 38 (.pointer (some ⟨b, q + 2, none⟩))).run Try.prog y.1 = .ok (.agg (idA p.id)) y.1 := fun y => load_id arrG (by kernel_rfl) _ _ _ _ (rangeR_below f2 y.2)
      have B := fun W : World => buildF3 p.mode p.name p.id W
      have B1 := fun W : World => tyF.slice1 p W
      have HP := Lib.hid (show (⟨p.mode, p.name, p.id⟩ : Ent) = p from rfl)
      rw [HP.out] at B
      clear R f0 f1 f2 hil
      go_upto_region 5 with (fail)
      refine wp_region_mg [(0, 0), (1, 0), (2, 0), (3, 0), (4, 0), (5, 0), (6, 0), (7, 0), (8, 0), (9, 0), (10, 0), (11, 0), (12, 0), (13, 0), (14, 0), (15, 0), (16, 0), (17, 1), (18, 2), (19, 0)] (by kernel_rfl) (by kernel_rfl) ?_
      iterate 5 (refine mg_calm rfl (fun K hK => ?_); go_simp; (refine hK _ ?_; clear hK K))
      refine mg_load rfl rfl _ _ rfl _ _ rfl L0 ?_
      iterate 4 (refine mg_calm rfl (fun K hK => ?_); go_simp; (refine hK _ ?_; clear hK K))
      refine mg_load rfl rfl _ _ rfl _ _ rfl L1 ?_
      iterate 4 (refine mg_calm rfl (fun K hK => ?_); go_simp; (refine hK _ ?_; clear hK K))
      refine mg_load rfl rfl _ _ rfl _ _ rfl L2 ?_
      refine mg_build rfl rfl _ _ rfl [(0, .int .i64 p.mode), (1, .string (strOf p.name)), (2, .agg (idA p.id))] _ rfl B ?_
      refine mg_buildSlice rfl rfl rfl _ _ _ rfl [(0, .agg (recA encE p))] (recA encE p) 43 1 1 rfl B1 (fun w8 hw8 => ?_)
      have hp9 := RsAt.one (enc := encE) (L := 22) w8 43 p
      have hrow9 := (hrow.later hw8).later ((Below.refl _ _).alloc (Nat.le_refl _) (.cells (recA encE p) 43))
      generalize w8.alloc (.cells (recA encE p) 43) = w9 at *
      clear L0 L1 L2 IX B B1 hrow hw8
      refine mg_sync rfl rfl (fun w10 hw10 K hK => ?_)
      have hrow10 := hrow9.later hw10
      have hp10 := hp9.below hw10
      clear hrow9 hp9 hw10
      refine wpList_append_r tyF rfl (.tmp 11) (.tmp 28) rfl _ xs rfl hrow10 (some ⟨w8.heap.size, 0, none⟩) 1 1 [p] rfl rfl hp10 (by have := HL.out; simp; omega) ?_
      intro v5 w5 hb5 hgr5 hgr0
      rw [← HS.out] at hb5
      clear hgr5 hgr0 hrow10 hp10
      go_wp2_with fail
      iterate 1 (refine mg_calm rfl (fun K hK => ?_); go_simp; (refine hK _ ?_; clear hK K))
      refine mg_nil fun w12 hw12 => ?_
      have hb12 := hb5.later hw12
      clear hb5 hw12
      go_wp2_with fail
      go_roundw
      case rel => exact ⟨i + 1, by go_num, by omega, hb12⟩
      case measure => simp [intOf]; omega
    · obtain rfl : i = n := by omega
      have e : l.take i = l := by rw [HN.out]; exact List.take_of_length_le (Nat.le_refl _)
      have hres := hrow
      rw [e] at hres
      have HRES := Lib.hid hres
      clear hres hrow
      have t1 : decide ((i : Int) < (i : Int)) = false := decide_eq_false (by omega)
      have t1' : decide (i < i) = false := decide_eq_false (by omega)
      go_wp2_with fail
      go_ret
      exact ⟨_, rfl, HRES.out⟩

/-- The document's entries as the program's: at most sixty, with short names. -/
def shortE (p : Ent) : Ent := ⟨p.mode, p.name.take 300, p.id⟩
def fewL (l : List Ent) : List Ent := (l.take 60).map shortE

set_option maxRecDepth 100000 in
set_option maxHeartbeats 2000000 in
theorem few_any {w : World} {l : List Ent} {a : Option Addr} {cap : Nat} (hg : RsAt encE 22 w a cap l) (hbig : ∀ p ∈ l, p.name.length ≤ 9223372036854775807) :
    Calls Try.prog 8 #[.slice a l.length cap] w fun e w' => ∃ v, e = .returned v ∧ OwnR encE 22 40 w w' v (fewL l) := by
  obtain ⟨n, hn⟩ : ∃ n, n = l.length := ⟨_, rfl⟩
  have HN := Lib.hid (And.intro hn hbig)
  have HG := Lib.hid hg
  rw [← hn]
  obtain ⟨m, hm⟩ : ∃ m, m = min n 60 := ⟨_, rfl⟩
  clear hn hg hbig
  have hF0 : Below w.heap.size w w := Below.refl _ _
  go_enter Try.func8, Try.ntmps8
  go_wp2_with fail
  go_loopw [3, 4] (fun s3 s4 wr => ∃ i : Nat, s4 = .int .i64 (i : Int) ∧ i ≤ m ∧ OwnR encE 22 40 w wr s3 ((l.take i).map shortE)) (fun _ s4 _ => m - (intOf s4).toNat)
  case atStart => exact ⟨0, rfl, Nat.zero_le _, OwnR.nil hF0⟩
  case round =>
    obtain ⟨i, rfl, hi, hrow⟩ := hrel
    by_cases him : i < m
    · have t1 : decide ((i : Int) < (n : Int)) = true := decide_eq_true (by omega)
      have t1' : decide (i < n) = true := decide_eq_true (by omega)
      have t2 : decide ((i : Int) < 60) = true := decide_eq_true (by omega)
      have t2' : decide (i < 60) = true := decide_eq_true (by omega)
      have hil : i < l.length := by rw [← HN.out.1]; omega
      obtain ⟨b, q, IX, R, -⟩ := (HG.out.below hrow.frame).at tyF (i : Int) i rfl hil
      rw [← HN.out.1] at IX
      obtain ⟨f0, f1, f2⟩ := ent_fields R
      have hpn : l[i]!.name.length ≤ 9223372036854775807 := HN.out.2 _ (by rw [getElem!_pos l i hil]; exact List.getElem_mem hil)
      have HS := Lib.hid (show (l.take (i + 1)).map shortE = (l.take i).map shortE ++ [shortE l[i]!] by rw [take_succE hil, List.map_append]; rfl)
      have HL := Lib.hid (show ((l.take i).map shortE).length ≤ 60 by rw [List.length_map, List.length_take]; omega)
      generalize l[i]! = p at *
      generalize (l.take i).map shortE = xs at *
      have L0 : ∀ y : Later wr, (Instr.loadAt 3 (.pointer (some ⟨b, q, none⟩))).run Try.prog y.1 = .ok (.int .i64 p.mode) y.1 := fun y => by
        have c := load_later f0 y
        clear IX t1
        go_simp
      have L1 : ∀ y : Later wr, (Instr.loadAt 9 (.pointer (some ⟨b, q + 1, none⟩))).run Try.prog y.1 = .ok (.string (strOf p.name)) y.1 := fun y => by
        have c := load_later f1 y
        clear IX t1
        go_simp
      have L2 : ∀ y : Later wr, (Instr.loadAt 37 (.pointer (some ⟨b, q + 2, none⟩))).run Try.prog y.1 = .ok (.agg (idA p.id)) y.1 := fun y => load_id arrR (by kernel_rfl) _ _ _ _ (rangeR_below f2 y.2)
      obtain ⟨k, hk⟩ : ∃ k, k = min p.name.length 300 := ⟨_, rfl⟩
      have MR := min_run (p.name.length : Int) 300 k (by split <;> omega)
      have SL := fun W => str_to Try.underlying9 p.name (i := k) (by omega) W
      have htk : p.name.take k = p.name.take 300 := by
        rw [hk]
        rcases Nat.le_total p.name.length 300 with h | h
        · rw [Nat.min_eq_left h, List.take_of_length_le (Nat.le_refl _), List.take_of_length_le h]
        · rw [Nat.min_eq_right h]
      rw [htk] at SL
      have B := fun W : World => buildE3 p.mode (p.name.take 300) p.id W
      have B1 := fun W : World => tyE.slice1 (shortE p) W
      have HPS := Lib.hid (show (⟨p.mode, p.name.take 300, p.id⟩ : Ent) = shortE p from rfl)
      rw [HPS.out] at B
      have hsz := strOf_size p.name
      obtain ⟨p2, hp2⟩ : ∃ p2, p2 = shortE p := ⟨_, rfl⟩
      rw [← hp2] at B B1
      have HP2 := Lib.hid hp2
      generalize hnl : p.name.length = nl at *
      generalize strOf (p.name.take 300) = S2 at *
      generalize strOf p.name = S1 at *
      clear R f0 f1 f2 hil hk htk hp2 hnl hpn
      go_upto_region 5 with (fail)
      refine wp_region_mg [(0, 0), (1, 0), (2, 0), (3, 0), (4, 0), (5, 0), (6, 0), (7, 0), (8, 0), (9, 0), (10, 0), (11, 0), (12, 0), (13, 0), (14, 0), (15, 0), (16, 0), (17, 0), (18, 0), (19, 0), (20, 0), (21, 0), (22, 0), (23, 0), (24, 0), (25, 1), (26, 2), (27, 0)] (by kernel_rfl) (by kernel_rfl) ?_
      iterate 5 (refine mg_calm rfl (fun K hK => ?_); go_simp; (refine hK _ ?_; clear hK K))
      refine mg_load rfl rfl _ _ rfl _ _ rfl L0 ?_
      iterate 4 (refine mg_calm rfl (fun K hK => ?_); go_simp; (refine hK _ ?_; clear hK K))
      refine mg_load rfl rfl _ _ rfl _ _ rfl L1 ?_
      iterate 4 (refine mg_calm rfl (fun K hK => ?_); go_simp; (refine hK _ ?_; clear hK K))
      refine mg_load rfl rfl _ _ rfl _ _ rfl L1 ?_
      iterate 2 (refine mg_calm rfl (fun K hK => ?_); go_simp; (refine hK _ ?_; clear hK K))
      refine mg_slice rfl rfl _ _ _ _ _ rfl _ none (some (.int .i64 (k : Int))) none _ rfl rfl rfl rfl SL ?_
      iterate 4 (refine mg_calm rfl (fun K hK => ?_); go_simp; (refine hK _ ?_; clear hK K))
      refine mg_load rfl rfl _ _ rfl _ _ rfl L2 ?_
      refine mg_build rfl rfl _ _ rfl [(0, .int .i64 p.mode), (1, .string S2), (2, .agg (idA p.id))] _ rfl B ?_
      refine mg_buildSlice rfl rfl rfl _ _ _ rfl [(0, .agg (recA encE p2))] (recA encE p2) 40 1 1 rfl B1 (fun w8 hw8 => ?_)
      have hp9 := RsAt.one (enc := encE) (L := 22) w8 40 p2
      have hrow9 := (hrow.later hw8).later ((Below.refl _ _).alloc (Nat.le_refl _) (.cells (recA encE p2) 40))
      generalize w8.alloc (.cells (recA encE p2) 40) = w9 at *
      clear L0 L1 L2 IX B B1 hrow hw8 MR SL
      refine mg_sync rfl rfl (fun w10 hw10 K hK => ?_)
      have hrow10 := hrow9.later hw10
      have hp10 := hp9.below hw10
      clear hrow9 hp9 hw10
      refine wpList_append_r tyE rfl (.tmp 15) (.tmp 40) rfl _ xs rfl hrow10 (some ⟨w8.heap.size, 0, none⟩) 1 1 [p2] rfl rfl hp10 (by have := HL.out; simp; omega) ?_
      intro v5 w5 hb5 hgr5 hgr0
      rw [HP2.out, ← HS.out] at hb5
      clear hgr5 hgr0 hrow10 hp10
      go_wp2_with fail
      iterate 1 (refine mg_calm rfl (fun K hK => ?_); go_simp; (refine hK _ ?_; clear hK K))
      refine mg_nil fun w12 hw12 => ?_
      have hb12 := hb5.later hw12
      clear hb5 hw12
      go_wp2_with fail
      go_roundw
      case rel => exact ⟨i + 1, by go_num, by omega, hb12⟩
      case measure => simp [intOf]; omega
    · obtain rfl : i = m := by omega
      have e : l.take i = l.take 60 := by
        rw [hm, HN.out.1]
        rcases Nat.lt_or_ge l.length 60 with h | h
        · rw [show min l.length 60 = l.length by omega, List.take_of_length_le (Nat.le_refl _), List.take_of_length_le (by omega)]
        · rw [show min l.length 60 = 60 by omega]
      have hres := hrow
      rw [e] at hres
      have HRES := Lib.hid hres
      clear hres hrow
      by_cases hin : i < n
      · have t1 : decide ((i : Int) < (n : Int)) = true := decide_eq_true (by omega)
        have t1' : decide (i < n) = true := decide_eq_true hin
        have t2 : decide ((i : Int) < 60) = false := decide_eq_false (by omega)
        have t2' : decide (i < 60) = false := decide_eq_false (by omega)
        go_wp2_with fail
        go_ret
        exact ⟨_, rfl, HRES.out⟩
      · have t1 : decide ((i : Int) < (n : Int)) = false := decide_eq_false (by omega)
        have t1' : decide (i < n) = false := decide_eq_false hin
        go_wp2_with fail
        go_ret
        exact ⟨_, rfl, HRES.out⟩

set_option maxRecDepth 100000 in
set_option maxHeartbeats 2000000 in
theorem same_any {w : World} {l m : List Ent} {a b : Option Addr} {ca cb : Nat} (hl : RsAt encE 22 w a ca l) (hm : RsAt encE 22 w b cb m) (wl : ∀ p ∈ l, WfE p) (wm : ∀ p ∈ m, WfE p) :
    Calls Try.prog 14 #[.slice a l.length ca, .slice b m.length cb] w fun e w' => e = .returned (.bool (decide (l = m))) ∧ Below w.heap.size w w' := by
  obtain ⟨n, hn⟩ : ∃ n, n = l.length := ⟨_, rfl⟩
  obtain ⟨k, hk⟩ : ∃ n, n = m.length := ⟨_, rfl⟩
  have HN := Lib.hid (And.intro hn hk)
  have HG := Lib.hid (And.intro hl hm)
  have HW := Lib.hid (And.intro wl wm)
  have hnb : n ≤ 9223372036854775807 := by rw [hn]; exact Nat.le_trans hl.le hl.big
  rw [← hn, ← hk]
  clear hn hk hl hm wl wm
  obtain ⟨R, hR⟩ : ∃ R, R = decide (l = m) := ⟨_, rfl⟩
  have HR := Lib.hid hR
  rw [← hR]
  clear hR
  go_enter Try.func14, Try.ntmps14
  by_cases hnk : n = k
  · subst hnk
    have tt : ((n : Int) != (n : Int)) = false := by simp
    have tt' : (n != n) = false := by simp
    have hF0 : Below w.heap.size w w := Below.refl _ _
    go_wp2_with fail
    go_loopw [5] (fun s5 wr => ∃ i : Nat, s5 = .int .i64 (i : Int) ∧ i ≤ n ∧ l.take i = m.take i ∧ Below w.heap.size w wr) (fun s5 _ => n - (intOf s5).toNat)
    case atStart => exact ⟨0, rfl, Nat.zero_le _, rfl, hF0⟩
    case round =>
      obtain ⟨i, rfl, hi, he, hb⟩ := hrel
      by_cases hin : i < n
      · have t1 : decide ((i : Int) < (n : Int)) = true := decide_eq_true (by omega)
        have t1' : decide (i < n) = true := decide_eq_true (by omega)
        have hil : i < l.length := by rw [← HN.out.1]; omega
        have him : i < m.length := by rw [← HN.out.2]; omega
        obtain ⟨b1, q1, IX1, -, L1⟩ := (HG.out.1.below hb).at tyF (i : Int) i rfl hil
        obtain ⟨b2, q2, IX2, -, L2⟩ := (HG.out.2.below hb).at tyF (i : Int) i rfl him
        rw [← HN.out.1] at IX1
        rw [← HN.out.2] at IX2
        have L1' : ∀ y : Later wr, (Instr.loadAt 43 (.pointer (some ⟨b1, q1, none⟩))).run Try.prog y.1 = .ok (.agg (recA encE l[i]!)) y.1 := fun y => L1 y.1 y.2
        have L2' : ∀ y : Later wr, (Instr.loadAt 43 (.pointer (some ⟨b2, q2, none⟩))).run Try.prog y.1 = .ok (.agg (recA encE m[i]!)) y.1 := fun y => L2 y.1 y.2
        have E := etF.eq_run l[i]! m[i]! (HW.out.1 _ (by rw [getElem!_pos l i hil]; exact List.getElem_mem hil)) (HW.out.2 _ (by rw [getElem!_pos m i him]; exact List.getElem_mem him))
        have G := fun op x y w => run_eqGuard_agg (P := Try.prog) w op 43 x y (recA encE l[i]!) (recA encE m[i]!) etF.ge
        have S1 := take_succE hil
        have S2 := take_succE him
        obtain ⟨d, hd⟩ : ∃ d, d = decide (l[i]! = m[i]!) := ⟨_, rfl⟩
        rw [← hd] at E
        have HS := Lib.hid (And.intro S1 (And.intro S2 (And.intro he hd)))
        have HBR := Lib.hid hb
        clear S1 S2 he L1 L2 hil him hd hb
        generalize l[i]! = p1 at *
        generalize m[i]! = p2 at *
        go_upto_region 6 with (fail)
        refine wp_region_mg [(0, 0), (1, 0), (2, 0), (3, 0), (4, 0), (5, 0), (6, 0), (7, 0), (8, 0)] (by kernel_rfl) (by kernel_rfl) ?_
        iterate 9 (first | (refine mg_load rfl rfl _ _ rfl _ _ rfl L1' ?_) | (refine mg_load rfl rfl _ _ rfl _ _ rfl L2' ?_) | (refine mg_calm rfl (fun K hK => ?_); go_simp; (refine hK _ ?_; clear hK K)))
        refine mg_nil fun w7 hw7 => ?_
        have HB7 := Lib.hid (HBR.out.trans (Below.mono hw7 HBR.out.size))
        clear L1' L2' IX1 IX2 E G hw7
        cases d
        · go_wp2_with fail
          go_ret
          refine ⟨?_, HB7.out⟩
          show Ending.returned (.bool false) = _
          rw [HR.out]
          have hne : ¬ p1 = p2 := of_decide_eq_false HS.out.2.2.2.symm
          rw [decide_eq_false (p := l = m)]
          intro hlm
          obtain ⟨s1, s2, s3, -⟩ := HS.out
          subst hlm
          have := s1.symm.trans s2
          simp at this
          exact hne this
        · go_wp2_with fail
          go_roundw
          case rel =>
            refine ⟨i + 1, by go_num, by omega, ?_, HB7.out⟩
            obtain ⟨s1, s2, s3, s4⟩ := HS.out
            rw [s1, s2, s3, of_decide_eq_true s4.symm]
          case measure => simp [intOf]; omega
      · obtain rfl : i = n := by omega
        have t1 : decide ((i : Int) < (i : Int)) = false := decide_eq_false (by omega)
        have t1' : decide (i < i) = false := decide_eq_false (by omega)
        have heq : l = m := by
          rw [List.take_of_length_le (by rw [← HN.out.1]; exact Nat.le_refl _), List.take_of_length_le (by rw [← HN.out.2]; exact Nat.le_refl _)] at he; exact he
        have hres : R = true := by rw [HR.out]; exact decide_eq_true heq
        clear heq he
        subst hres
        go_wp2_with fail
        go_ret
        exact ⟨rfl, hb⟩
  · have tt : ((n : Int) != (k : Int)) = true := by rw [bne_iff_ne]; omega
    have tt' : (n != k) = true := by rw [bne_iff_ne]; omega
    have hres : R = false := by
      rw [HR.out]; refine decide_eq_false fun h => hnk ?_
      rw [HN.out.1, HN.out.2, h]
    subst hres
    go_wp2_with fail
    go_ret
    exact ⟨rfl, Below.refl _ _⟩
end Go.Proofs.Ytbllpjphlanchaa
