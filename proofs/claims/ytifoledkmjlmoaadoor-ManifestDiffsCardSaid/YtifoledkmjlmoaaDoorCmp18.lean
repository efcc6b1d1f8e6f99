/-
  '==' of a manifest's files; files that are built.
  The law's Few and As, the document's Same, of a manifest's files: the walks.
  Sizes of types; small laws on bytes.
-/
import Derived.Test.YtifoledkmjlmoaaDoorMFile
import Derived.Test.YtifoledkmjlmoaaDoorBuild
import Derived.Test.YtifoledkmjlmoaaDoorBufStr
import Derived.Test.YtifoledkmjlmoaaDoorStrOps
import Derived.Test.YtifoledkmjlmoaaDoorAppR
import Derived.Test.YtifoledkmjlmoaaDoorBuf
import Derived.Test.YtifoledkmjlmoaaDoorBox
import Derived.Lib.ConvBytes
namespace Go.Proofs.YtifoledkmjlmoaaDoor
open Go.RowKit Go.Mix Go.WideMaps

/-- What is asked of a file that is compared: short texts. -/
def WfM (p : MFile) : Prop := p.path.length ≤ 1000000 ∧ p.flag.length ≤ 1000000

structure FileTy (e f : TypeId) : Prop where
  he : ∃ f0 f1 f2 : Field, Tryd.prog.underlying e = some (.struct #[f0, f1, f2]) ∧ f0.type = 9 ∧ f1.type = f ∧ f2.type = 9 ∧ f0.offset = 0 ∧ f1.offset = 1 ∧ f2.offset = 21 ∧ (f0.name != "_") = true ∧ (f1.name != "_") = true ∧ (f2.name != "_") = true
  hf : ArrKey Tryd.prog f 5 20
  ce : Tryd.prog.cellsOf e = 22
  ke : Tryd.prog.keyTypeAt 3 e = true
  ge : Tryd.prog.eqGuardType Tryd.prog.depth e = false
set_option maxRecDepth 100000 in
theorem etM : FileTy 46 44 := ⟨⟨_, _, _, Tryd.underlying46, rfl, rfl, rfl, rfl, rfl, rfl, rfl, rfl, rfl⟩, arrG, by kernel_rfl, by kernel_rfl, by kernel_rfl⟩
set_option maxRecDepth 100000 in
theorem etN : FileTy 54 43 := ⟨⟨_, _, _, Tryd.underlying54, rfl, rfl, rfl, rfl, rfl, rfl, rfl, rfl, rfl⟩, arrR, by kernel_rfl, by kernel_rfl, by kernel_rfl⟩

section
variable {e f : TypeId} (T : FileTy e f)
include T
def litsM (p : MFile) : List Lit := .string p.path :: (litsOf p.node.1 ++ [.string p.flag])
set_option maxRecDepth 100000 in
theorem FileTy.lits (p : MFile) (hw : WfM p) : Tryd.prog.keyLits 3 e (encM p) = some (litsM p) := by
  obtain ⟨f0, f1, f2, hu, t0, t1, t2, o0, o1, o2, n0, n1, n2⟩ := T.he
  unfold Program.keyLits
  rw [hu]
  have hl := encM_len p
  have hce := T.ce
  have c1 : Tryd.prog.cellsOf 9 = 1 := by kernel_rfl
  have hcf : Tryd.prog.cellsOf f = 20 := T.hf.size
  have h0 : ((encM p).drop 0).take 1 = [.string (strOf p.path)] := rfl
  have h1 : ((encM p).drop 1).take 20 = bcells p.node.1 := by
    show (idc p.node ++ [Value.string (strOf p.flag)]).take 20 = _
    rw [List.take_append_of_le_length (by rw [idc_len]; exact Nat.le_refl _), List.take_of_length_le (by rw [idc_len]; exact Nat.le_refl _)]; rfl
  have h2 : ((encM p).drop 21).take 1 = [.string (strOf p.flag)] := by
    show ((idc p.node ++ [Value.string (strOf p.flag)]).drop 20).take 1 = _
    rw [List.drop_append_of_le_length (by rw [idc_len]; exact Nat.le_refl _), List.drop_of_length_le (by rw [idc_len]; exact Nat.le_refl _)]; rfl
  have g1 : ∀ x : List UInt8, x.length ≤ 1000000 → Tryd.prog.keyLits 2 9 [.string (strOf x)] = some [.string x] := fun x hx => by
    unfold Program.keyLits
    rw [Tryd.underlying9]
    have hsz : (strOf x).size ≤ maxLen := by rw [strOf_size]; unfold maxLen; omega
    simp only [hsz, if_true]
    rfl
  have g0 := g1 p.path hw.1
  have g3 := g1 p.flag hw.2
  have g2 := arr_lits T.hf Tryd.underlying5 p.node.1 p.node.2
  simp only [hl, hce, List.mapM_cons, List.mapM_nil, t0, t1, t2, o0, o1, o2, hcf, c1, h0, h1, h2, g0, g2, g3]
  simp [n0, n1, n2, litsM]
omit T in
theorem litsM_inj {p q : MFile} (h : litsM p = litsM q) : p = q := by
  unfold litsM at h
  simp only [List.cons.injEq, Lit.string.injEq] at h
  obtain ⟨h1, h2⟩ := h
  have hl : (litsOf p.node.1).length = (litsOf q.node.1).length := by simp [litsOf, p.node.2, q.node.2]
  obtain ⟨h3, h4⟩ := List.append_inj h2 hl
  obtain ⟨m, n, i⟩ := p
  obtain ⟨m2, n2, i2⟩ := q
  simp only [List.cons.injEq, Lit.string.injEq, and_true] at h1 h3 h4
  subst h1 h4
  rw [Subtype.ext (lits_inj _ _ h3)]
set_option maxRecDepth 100000 in
theorem FileTy.eq_run (p q : MFile) (hp : WfM p) (hq : WfM q) (w : World) : (Op.equalIn 10000 e (.agg (recA encM p)) (.agg (recA encM q))).run Tryd.prog w = .ok (decide (p = q)) w := by
  obtain ⟨f0, f1, f2, hu, -⟩ := T.he
  have hf : ∀ z : MFile, Value.formed Tryd.prog e (.agg (recA encM z)) = true := fun z => by
    unfold Value.formed
    rw [hu]
    simp [T.ce, recA, encM_len]
  obtain ⟨r, hr, hiff⟩ := equalIn_lits T.ke (by omega) (hf p) (hf q) (D := 3) (lx := litsM p) (ly := litsM q) (by simpa [recA] using T.lits p hp) (by simpa [recA] using T.lits q hq) w
  rw [hr]
  congr 1
  rw [Bool.eq_iff_iff, hiff, decide_eq_true_eq]
  exact ⟨litsM_inj, fun h => by rw [h]⟩
end

/-! ### Built -/
set_option maxRecDepth 100000 in
theorem placesM : ∃ fs, Tryd.prog.underlying 46 = some (.struct fs) ∧ fs.toList.mapM (fun f => (Tryd.prog.info? f.type).map fun i => (f.offset, i.size)) = some [(0, 1), (1, 20), (21, 1)] := ⟨_, Tryd.underlying46, by kernel_rfl⟩
set_option maxRecDepth 100000 in
theorem placesN : ∃ fs, Tryd.prog.underlying 54 = some (.struct fs) ∧ fs.toList.mapM (fun f => (Tryd.prog.info? f.type).map fun i => (f.offset, i.size)) = some [(0, 1), (1, 20), (21, 1)] := ⟨_, Tryd.underlying54, by kernel_rfl⟩
theorem idc_cells (x : Id20) : (Value.agg (idA x)).cells.toList = idc x := by simp [Value.cells, idA]
theorem fillM (p : List UInt8) (x : Id20) (f : List UInt8) : Instr.fill (([(0, 1), (1, 20), (21, 1)] : List (Nat × Nat)).toArray[·]?) (encM mf0).toArray [(0, .string (strOf p)), (1, .agg (idA x)), (2, .string (strOf f))] = some (recA encM ⟨p, x, f⟩) := by
  have l20 : ∀ y : Id20, (idc y).length = 20 := idc_len
  rw [fill_cons (o := 0) (n := 1) rfl rfl (by rw [encM_len]; omega), fill_cons (v := .agg (idA x)) (o := 1) (n := 20) rfl (idA_size x) (by simp [encM, Value.cells, l20]), fill_cons (o := 21) (n := 1) rfl rfl (by simp [encM, Value.cells, idA, l20, mf0]), fill_nil]
  simp only [idc_cells]
  simp [encM, Value.cells, recA, mf0, l20, List.take_append, List.drop_append]
theorem buildM (p : List UInt8) (x : Id20) (f : List UInt8) (w : World) : (Instr.build 46 #[(0, .string (strOf p)), (1, .agg (idA x)), (2, .string (strOf f))]).run Tryd.prog w = .ok (.agg (recA encM ⟨p, x, f⟩)) w := by
  obtain ⟨fs, h1, h2⟩ := placesM
  exact built_at (Z := encM mf0) (by kernel_rfl) h1 h2 (fillM p x f) w
theorem buildN (p : List UInt8) (x : Id20) (f : List UInt8) (w : World) : (Instr.build 54 #[(0, .string (strOf p)), (1, .agg (idA x)), (2, .string (strOf f))]).run Tryd.prog w = .ok (.agg (recA encM ⟨p, x, f⟩)) w := by
  obtain ⟨fs, h1, h2⟩ := placesN
  exact built_at (Z := encM mf0) (by kernel_rfl) h1 h2 (fillM p x f) w
theorem buildM0 (w : World) : (Instr.build 46 #[]).run Tryd.prog w = .ok (.agg (recA encM mf0)) w := by
  obtain ⟨fs, h1, h2⟩ := placesM
  exact built_at (Z := encM mf0) (parts := []) (by kernel_rfl) h1 h2 fill_nil w
end Go.Proofs.YtifoledkmjlmoaaDoor
namespace Go.Proofs.YtifoledkmjlmoaaDoor
open Go.RowKit Go.Mix Go.WideMaps

theorem mg_buildSlice {P : Program} {ops : Array Oper} {Q : Act → World → Prop} {i : Nat} {r : List (Nat × Nat)} {o : Oper} {a : Act} {w : World} (ho : ops[i]? = some o) (hw : Region.wanted o (yielded ops a.tmps) = true) (hgd : o.guard = none)
    (ty : TypeId) (k : Nat) (ps : Array (Nat × Operand)) (hop : o.op = .buildSlice ty k ps) (PS : List (Nat × Value)) (C : Array Value) (et : TypeId) (n c : Nat) (hx : (ps.toList.map fun p => (p.1, a.eval p.2)) = PS)
    (hl : ∀ y : World, (Instr.buildSlice ty k PS.toArray).run P y = .ok (.slice (some ⟨y.heap.size, 0, none⟩) n c) (y.alloc (.cells C et)))
    (h : ∀ w', Grow w w' → MG P ops Q r (a.put o.dst (.slice (some ⟨w'.heap.size, 0, none⟩) n c)) (w'.alloc (.cells C et))) : MG P ops Q ((i, 1) :: r) a w :=
  mg_loud ho hw fun w' hw' K hK => by
    have e : (ps.map fun (i, x) => (i, a.eval x)) = PS.toArray := Array.ext' (by rw [Array.toList_map]; exact hx)
    refine wpList_plain hgd fun K' hK' => ?_
    unfold Oper.wp execOp
    simp only [hop, e, Sem.run_bind, Sem.run_pure, Result.andThen_ok, hl]
    exact hK' _ _ (hK _ _ ((Below.refl _ _).alloc (Nat.le_refl _) _) (h w' hw'))

set_option maxRecDepth 100000 in
set_option maxHeartbeats 2000000 in
theorem as_any {w : World} {l : List MFile} {a : Option Addr} {cap : Nat} (hg : RsAt encM 22 w a cap l) (hlen : l.length ≤ 1000000) :
    Calls Tryd.prog 9 #[.slice a l.length cap] w fun e w' => ∃ v, e = .returned v ∧ OwnR encM 22 54 w w' v l := by
  obtain ⟨n, hn⟩ : ∃ n, n = l.length := ⟨_, rfl⟩
  have HN := Lib.hid hn
  have HG := Lib.hid hg
  have HLEN := Lib.hid hlen
  rw [← hn]
  clear hn hg hlen
  have hF0 : Below w.heap.size w w := Below.refl _ _
  go_enter Tryd.func9, Tryd.ntmps9
  go_wp2_with fail
  go_loopw [3, 4] (fun s3 s4 wr => ∃ i : Nat, s4 = .int .i64 (i : Int) ∧ i ≤ n ∧ OwnR encM 22 54 w wr s3 (l.take i)) (fun _ s4 _ => n - (intOf s4).toNat)
  case atStart => exact ⟨0, rfl, Nat.zero_le _, OwnR.nil hF0⟩
  case round =>
    obtain ⟨i, rfl, hi, hrow⟩ := hrel
    by_cases him : i < n
    · have t1 : decide ((i : Int) < (n : Int)) = true := decide_eq_true (by omega)
      have t1' : decide (i < n) = true := decide_eq_true (by omega)
      have hil : i < l.length := by rw [← HN.out]; omega
      obtain ⟨b, q, IX, R, -⟩ := (HG.out.below hrow.frame).at tyM (i : Int) i rfl hil
      rw [← HN.out] at IX
      obtain ⟨f0, f1, f2⟩ := mf_fields R
      have HS := Lib.hid (take_succM hil)
      have HL := Lib.hid (show (l.take i).length ≤ 1000000 by have := HLEN.out; rw [List.length_take]; omega)
      have hi6 : i ≤ 1000000 := by have := HLEN.out; omega
      generalize l[i]! = p at *
      generalize l.take i = xs at *
      have L0 : ∀ y : Later wr, (Instr.loadAt 9 (.pointer (some ⟨b, q, none⟩))).run Tryd.prog y.1 = .ok (.string (strOf p.path)) y.1 := fun y => by
        have c := load_later f0 y
        clear IX t1
        go_simp
      have L1 : ∀ y : Later wr, (Instr.loadAt 44 (.pointer (some ⟨b, q + 1, none⟩))).run Tryd.prog y.1 = .ok (.agg (idA p.node)) y.1 := fun y => load_id arrG (by kernel_rfl) _ _ _ _ (rangeR_below f1 y.2)
      have L2 : ∀ y : Later wr, (Instr.loadAt 9 (.pointer (some ⟨b, q + 21, none⟩))).run Tryd.prog y.1 = .ok (.string (strOf p.flag)) y.1 := fun y => by
        have c := load_later f2 y
        clear IX t1
        go_simp
      have B := fun W : World => buildN p.path p.node p.flag W
      have B1 := fun W : World => tyN.slice1 p W
      have HP := Lib.hid (show (⟨p.path, p.node, p.flag⟩ : MFile) = p from rfl)
      rw [HP.out] at B
      clear R f0 f1 f2 hil
      go_upto_region 5 with (fail)
      refine wp_region_mg [(0, 0), (1, 0), (2, 0), (3, 0), (4, 0), (5, 0), (6, 0), (7, 0), (8, 0), (9, 0), (10, 0), (11, 0), (12, 0), (13, 0), (14, 0), (15, 0), (16, 0), (17, 1), (18, 2), (19, 0)] (by kernel_rfl) (by kernel_rfl) ?_
      iterate 5 (refine mg_calm rfl (fun K hK => ?_); go_simp; (refine hK _ ?_; clear hK K))
      refine mg_load rfl rfl _ _ rfl _ _ rfl L0 ?_
      iterate 4 (refine mg_calm rfl (fun K hK => ?_); go_simp; (refine hK _ ?_; clear hK K))
      refine mg_load rfl rfl _ _ rfl _ _ rfl L1 ?_
      iterate 4 (refine mg_calm rfl (fun K hK => ?_); go_simp; (refine hK _ ?_; clear hK K))
      refine mg_load rfl rfl _ _ rfl _ _ rfl L2 ?_
      refine mg_build rfl rfl _ _ rfl [(0, .string (strOf p.path)), (1, .agg (idA p.node)), (2, .string (strOf p.flag))] _ rfl B ?_
      refine mg_buildSlice rfl rfl rfl _ _ _ rfl [(0, .agg (recA encM p))] (recA encM p) 54 1 1 rfl B1 (fun w8 hw8 => ?_)
      have hp9 := RsAt.one (enc := encM) (L := 22) w8 54 p
      have hrow9 := (hrow.later hw8).later ((Below.refl _ _).alloc (Nat.le_refl _) (.cells (recA encM p) 54))
      generalize w8.alloc (.cells (recA encM p) 54) = w9 at *
      clear L0 L1 L2 IX B B1 hrow hw8
      refine mg_sync rfl rfl (fun w10 hw10 K hK => ?_)
      have hrow10 := hrow9.later hw10
      have hp10 := hp9.below hw10
      clear hrow9 hp9 hw10
      refine wpList_append_r tyN rfl (.tmp 11) (.tmp 28) rfl _ xs rfl hrow10 (some ⟨w8.heap.size, 0, none⟩) 1 1 [p] rfl rfl hp10 (by have := HL.out; simp; omega) ?_
      intro v5 w5 hb5 hgr5 hgr0
      rw [← HS.out] at hb5
      clear hgr5 hgr0 hrow10 hp10
      go_wp2_with fail
      iterate 1 (refine mg_calm rfl (fun K hK => ?_); go_simp; (refine hK _ ?_; clear hK K))
      refine mg_nil fun w12 hw12 => ?_
      have hb12 := hb5.later hw12
      clear hb5 hw12
      go_wp2_with fail
      go_roundw
      case rel => exact ⟨i + 1, by go_num, by omega, hb12⟩
      case measure => simp [intOf]; omega
    · obtain rfl : i = n := by omega
      have e : l.take i = l := by rw [HN.out]; exact List.take_of_length_le (Nat.le_refl _)
      have hres := hrow
      rw [e] at hres
      have HRES := Lib.hid hres
      clear hres hrow
      have t1 : decide ((i : Int) < (i : Int)) = false := decide_eq_false (by omega)
      have t1' : decide (i < i) = false := decide_eq_false (by omega)
      go_wp2_with fail
      go_ret
      exact ⟨_, rfl, HRES.out⟩

/-- The document's files as the program's: at most forty, with short paths. -/
def shortM (p : MFile) : MFile := ⟨p.path.take 300, p.node, p.flag.take 20⟩
def fewL (l : List MFile) : List MFile := (l.take 40).map shortM

set_option maxRecDepth 100000 in
set_option maxHeartbeats 2000000 in
theorem few_any {w : World} {l : List MFile} {a : Option Addr} {cap : Nat} (hg : RsAt encM 22 w a cap l) (hbig : ∀ p ∈ l, p.path.length ≤ 9223372036854775807 ∧ p.flag.length ≤ 9223372036854775807) :
    Calls Tryd.prog 8 #[.slice a l.length cap] w fun e w' => ∃ v, e = .returned v ∧ OwnR encM 22 46 w w' v (fewL l) := by
  obtain ⟨n, hn⟩ : ∃ n, n = l.length := ⟨_, rfl⟩
  have HN := Lib.hid (And.intro hn hbig)
  have HG := Lib.hid hg
  rw [← hn]
  obtain ⟨m, hm⟩ : ∃ m, m = min n 40 := ⟨_, rfl⟩
  clear hn hg hbig
  have hF0 : Below w.heap.size w w := Below.refl _ _
  go_enter Tryd.func8, Tryd.ntmps8
  go_wp2_with fail
  go_loopw [3, 4] (fun s3 s4 wr => ∃ i : Nat, s4 = .int .i64 (i : Int) ∧ i ≤ m ∧ OwnR encM 22 46 w wr s3 ((l.take i).map shortM)) (fun _ s4 _ => m - (intOf s4).toNat)
  case atStart => exact ⟨0, rfl, Nat.zero_le _, OwnR.nil hF0⟩
  case round =>
    obtain ⟨i, rfl, hi, hrow⟩ := hrel
    by_cases him : i < m
    · have t1 : decide ((i : Int) < (n : Int)) = true := decide_eq_true (by omega)
      have t1' : decide (i < n) = true := decide_eq_true (by omega)
      have t2 : decide ((i : Int) < 40) = true := decide_eq_true (by omega)
      have t2' : decide (i < 40) = true := decide_eq_true (by omega)
      have hil : i < l.length := by rw [← HN.out.1]; omega
      obtain ⟨b, q, IX, R, -⟩ := (HG.out.below hrow.frame).at tyN (i : Int) i rfl hil
      rw [← HN.out.1] at IX
      obtain ⟨f0, f1, f2⟩ := mf_fields R
      have hpn : l[i]!.path.length ≤ 9223372036854775807 ∧ l[i]!.flag.length ≤ 9223372036854775807 := HN.out.2 _ (by rw [getElem!_pos l i hil]; exact List.getElem_mem hil)
      have HS := Lib.hid (show (l.take (i + 1)).map shortM = (l.take i).map shortM ++ [shortM l[i]!] by rw [take_succM hil, List.map_append]; rfl)
      have HL := Lib.hid (show ((l.take i).map shortM).length ≤ 40 by rw [List.length_map, List.length_take]; omega)
      generalize l[i]! = p at *
      generalize (l.take i).map shortM = xs at *
      have L0 : ∀ y : Later wr, (Instr.loadAt 9 (.pointer (some ⟨b, q, none⟩))).run Tryd.prog y.1 = .ok (.string (strOf p.path)) y.1 := fun y => by
        have c := load_later f0 y
        clear IX t1
        go_simp
      have L1 : ∀ y : Later wr, (Instr.loadAt 43 (.pointer (some ⟨b, q + 1, none⟩))).run Tryd.prog y.1 = .ok (.agg (idA p.node)) y.1 := fun y => load_id arrR (by kernel_rfl) _ _ _ _ (rangeR_below f1 y.2)
      have L2 : ∀ y : Later wr, (Instr.loadAt 9 (.pointer (some ⟨b, q + 21, none⟩))).run Tryd.prog y.1 = .ok (.string (strOf p.flag)) y.1 := fun y => by
        have c := load_later f2 y
        clear IX t1
        go_simp
      obtain ⟨k, hk⟩ : ∃ k, k = min p.path.length 300 := ⟨_, rfl⟩
      obtain ⟨k2, hk2⟩ : ∃ k, k = min p.flag.length 20 := ⟨_, rfl⟩
      have MR := min_run (p.path.length : Int) 300 k (by split <;> omega)
      have MR2 := min_run (p.flag.length : Int) 20 k2 (by split <;> omega)
      have SL := fun W => str_to Tryd.underlying9 p.path (i := k) (by omega) W
      have SL2 := fun W => str_to Tryd.underlying9 p.flag (i := k2) (by omega) W
      have htk : p.path.take k = p.path.take 300 := by
        rw [hk]
        rcases Nat.le_total p.path.length 300 with h | h
        · rw [Nat.min_eq_left h, List.take_of_length_le (Nat.le_refl _), List.take_of_length_le h]
        · rw [Nat.min_eq_right h]
      have htk2 : p.flag.take k2 = p.flag.take 20 := by
        rw [hk2]
        rcases Nat.le_total p.flag.length 20 with h | h
        · rw [Nat.min_eq_left h, List.take_of_length_le (Nat.le_refl _), List.take_of_length_le h]
        · rw [Nat.min_eq_right h]
      rw [htk] at SL
      rw [htk2] at SL2
      have B := fun W : World => buildM (p.path.take 300) p.node (p.flag.take 20) W
      have B1 := fun W : World => tyM.slice1 (shortM p) W
      have HPS := Lib.hid (show (⟨p.path.take 300, p.node, p.flag.take 20⟩ : MFile) = shortM p from rfl)
      rw [HPS.out] at B
      have hsz := strOf_size p.path
      have hsz2 := strOf_size p.flag
      obtain ⟨p2, hp2⟩ : ∃ p2, p2 = shortM p := ⟨_, rfl⟩
      rw [← hp2] at B B1
      have HP2 := Lib.hid hp2
      generalize hnl : p.path.length = nl at *
      generalize hnl2 : p.flag.length = nl2 at *
      generalize strOf (p.path.take 300) = S2 at *
      generalize strOf (p.flag.take 20) = S4 at *
      generalize strOf p.path = S1 at *
      generalize strOf p.flag = S3 at *
      clear R f0 f1 f2 hil hk htk hk2 htk2 hp2 hnl hnl2 hpn
      go_upto_region 5 with (fail)
      refine wp_region_mg [(0, 0), (1, 0), (2, 0), (3, 0), (4, 0), (5, 0), (6, 0), (7, 0), (8, 0), (9, 0), (10, 0), (11, 0), (12, 0), (13, 0), (14, 0), (15, 0), (16, 0), (17, 0), (18, 0), (19, 0), (20, 0), (21, 0), (22, 0), (23, 0), (24, 0), (25, 0), (26, 0), (27, 0), (28, 0), (29, 0), (30, 0), (31, 0), (32, 0), (33, 1), (34, 2), (35, 0)] (by kernel_rfl) (by kernel_rfl) ?_
      iterate 5 (refine mg_calm rfl (fun K hK => ?_); go_simp; (refine hK _ ?_; clear hK K))
      refine mg_load rfl rfl _ _ rfl _ _ rfl L0 ?_
      iterate 4 (refine mg_calm rfl (fun K hK => ?_); go_simp; (refine hK _ ?_; clear hK K))
      refine mg_load rfl rfl _ _ rfl _ _ rfl L0 ?_
      iterate 2 (refine mg_calm rfl (fun K hK => ?_); go_simp; (refine hK _ ?_; clear hK K))
      refine mg_slice rfl rfl _ _ _ _ _ rfl _ none (some (.int .i64 (k : Int))) none _ rfl rfl rfl rfl SL ?_
      iterate 4 (refine mg_calm rfl (fun K hK => ?_); go_simp; (refine hK _ ?_; clear hK K))
      refine mg_load rfl rfl _ _ rfl _ _ rfl L1 ?_
      iterate 4 (refine mg_calm rfl (fun K hK => ?_); go_simp; (refine hK _ ?_; clear hK K))
      refine mg_load rfl rfl _ _ rfl _ _ rfl L2 ?_
      iterate 4 (refine mg_calm rfl (fun K hK => ?_); go_simp; (refine hK _ ?_; clear hK K))
      refine mg_load rfl rfl _ _ rfl _ _ rfl L2 ?_
      iterate 2 (refine mg_calm rfl (fun K hK => ?_); go_simp; (refine hK _ ?_; clear hK K))
      refine mg_slice rfl rfl _ _ _ _ _ rfl _ none (some (.int .i64 (k2 : Int))) none _ rfl rfl rfl rfl SL2 ?_
      refine mg_build rfl rfl _ _ rfl [(0, .string S2), (1, .agg (idA p.node)), (2, .string S4)] _ rfl B ?_
      refine mg_buildSlice rfl rfl rfl _ _ _ rfl [(0, .agg (recA encM p2))] (recA encM p2) 46 1 1 rfl B1 (fun w8 hw8 => ?_)
      have hp9 := RsAt.one (enc := encM) (L := 22) w8 46 p2
      have hrow9 := (hrow.later hw8).later ((Below.refl _ _).alloc (Nat.le_refl _) (.cells (recA encM p2) 46))
      generalize w8.alloc (.cells (recA encM p2) 46) = w9 at *
      clear L0 L1 L2 IX B B1 hrow hw8 MR SL MR2 SL2
      refine mg_sync rfl rfl (fun w10 hw10 K hK => ?_)
      have hrow10 := hrow9.later hw10
      have hp10 := hp9.below hw10
      clear hrow9 hp9 hw10
      refine wpList_append_r tyM rfl (.tmp 15) (.tmp 48) rfl _ xs rfl hrow10 (some ⟨w8.heap.size, 0, none⟩) 1 1 [p2] rfl rfl hp10 (by have := HL.out; simp; omega) ?_
      intro v5 w5 hb5 hgr5 hgr0
      rw [HP2.out, ← HS.out] at hb5
      clear hgr5 hgr0 hrow10 hp10
      go_wp2_with fail
      iterate 1 (refine mg_calm rfl (fun K hK => ?_); go_simp; (refine hK _ ?_; clear hK K))
      refine mg_nil fun w12 hw12 => ?_
      have hb12 := hb5.later hw12
      clear hb5 hw12
      go_wp2_with fail
      go_roundw
      case rel => exact ⟨i + 1, by go_num, by omega, hb12⟩
      case measure => simp [intOf]; omega
    · obtain rfl : i = m := by omega
      have e : l.take i = l.take 40 := by
        rw [hm, HN.out.1]
        rcases Nat.lt_or_ge l.length 40 with h | h
        · rw [show min l.length 40 = l.length by omega, List.take_of_length_le (Nat.le_refl _), List.take_of_length_le (by omega)]
        · rw [show min l.length 40 = 40 by omega]
      have hres := hrow
      rw [e] at hres
      have HRES := Lib.hid hres
      clear hres hrow
      by_cases hin : i < n
      · have t1 : decide ((i : Int) < (n : Int)) = true := decide_eq_true (by omega)
        have t1' : decide (i < n) = true := decide_eq_true hin
        have t2 : decide ((i : Int) < 40) = false := decide_eq_false (by omega)
        have t2' : decide (i < 40) = false := decide_eq_false (by omega)
        go_wp2_with fail
        go_ret
        exact ⟨_, rfl, HRES.out⟩
      · have t1 : decide ((i : Int) < (n : Int)) = false := decide_eq_false (by omega)
        have t1' : decide (i < n) = false := decide_eq_false hin
        go_wp2_with fail
        go_ret
        exact ⟨_, rfl, HRES.out⟩

set_option maxRecDepth 100000 in
set_option maxHeartbeats 2000000 in
theorem same_any {w : World} {l m : List MFile} {a b : Option Addr} {ca cb : Nat} (hl : RsAt encM 22 w a ca l) (hm : RsAt encM 22 w b cb m) (wl : ∀ p ∈ l, WfM p) (wm : ∀ p ∈ m, WfM p) :
    Calls Tryd.prog 14 #[.slice a l.length ca, .slice b m.length cb] w fun e w' => e = .returned (.bool (decide (l = m))) ∧ Below w.heap.size w w' := by
  obtain ⟨n, hn⟩ : ∃ n, n = l.length := ⟨_, rfl⟩
  obtain ⟨k, hk⟩ : ∃ n, n = m.length := ⟨_, rfl⟩
  have HN := Lib.hid (And.intro hn hk)
  have HG := Lib.hid (And.intro hl hm)
  have HW := Lib.hid (And.intro wl wm)
  have hnb : n ≤ 9223372036854775807 := by rw [hn]; exact Nat.le_trans hl.le hl.big
  rw [← hn, ← hk]
  clear hn hk hl hm wl wm
  obtain ⟨R, hR⟩ : ∃ R, R = decide (l = m) := ⟨_, rfl⟩
  have HR := Lib.hid hR
  rw [← hR]
  clear hR
  go_enter Tryd.func14, Tryd.ntmps14
  by_cases hnk : n = k
  · subst hnk
    have tt : ((n : Int) != (n : Int)) = false := by simp
    have tt' : (n != n) = false := by simp
    have hF0 : Below w.heap.size w w := Below.refl _ _
    go_wp2_with fail
    go_loopw [5] (fun s5 wr => ∃ i : Nat, s5 = .int .i64 (i : Int) ∧ i ≤ n ∧ l.take i = m.take i ∧ Below w.heap.size w wr) (fun s5 _ => n - (intOf s5).toNat)
    case atStart => exact ⟨0, rfl, Nat.zero_le _, rfl, hF0⟩
    case round =>
      obtain ⟨i, rfl, hi, he, hb⟩ := hrel
      by_cases hin : i < n
      · have t1 : decide ((i : Int) < (n : Int)) = true := decide_eq_true (by omega)
        have t1' : decide (i < n) = true := decide_eq_true (by omega)
        have hil : i < l.length := by rw [← HN.out.1]; omega
        have him : i < m.length := by rw [← HN.out.2]; omega
        obtain ⟨b1, q1, IX1, -, L1⟩ := (HG.out.1.below hb).at tyN (i : Int) i rfl hil
        obtain ⟨b2, q2, IX2, -, L2⟩ := (HG.out.2.below hb).at tyN (i : Int) i rfl him
        rw [← HN.out.1] at IX1
        rw [← HN.out.2] at IX2
        have L1' : ∀ y : Later wr, (Instr.loadAt 54 (.pointer (some ⟨b1, q1, none⟩))).run Tryd.prog y.1 = .ok (.agg (recA encM l[i]!)) y.1 := fun y => L1 y.1 y.2
        have L2' : ∀ y : Later wr, (Instr.loadAt 54 (.pointer (some ⟨b2, q2, none⟩))).run Tryd.prog y.1 = .ok (.agg (recA encM m[i]!)) y.1 := fun y => L2 y.1 y.2
        have E := etN.eq_run l[i]! m[i]! (HW.out.1 _ (by rw [getElem!_pos l i hil]; exact List.getElem_mem hil)) (HW.out.2 _ (by rw [getElem!_pos m i him]; exact List.getElem_mem him))
        have G := fun op x y w => run_eqGuard_agg (P := Tryd.prog) w op 54 x y (recA encM l[i]!) (recA encM m[i]!) etN.ge
        have S1 := take_succM hil
        have S2 := take_succM him
        obtain ⟨d, hd⟩ : ∃ d, d = decide (l[i]! = m[i]!) := ⟨_, rfl⟩
        rw [← hd] at E
        have HS := Lib.hid (And.intro S1 (And.intro S2 (And.intro he hd)))
        have HBR := Lib.hid hb
        clear S1 S2 he L1 L2 hil him hd hb
        generalize l[i]! = p1 at *
        generalize m[i]! = p2 at *
        go_upto_region 6 with (fail)
        refine wp_region_mg [(0, 0), (1, 0), (2, 0), (3, 0), (4, 0), (5, 0), (6, 0), (7, 0), (8, 0)] (by kernel_rfl) (by kernel_rfl) ?_
        iterate 9 (first | (refine mg_load rfl rfl _ _ rfl _ _ rfl L1' ?_) | (refine mg_load rfl rfl _ _ rfl _ _ rfl L2' ?_) | (refine mg_calm rfl (fun K hK => ?_); go_simp; (refine hK _ ?_; clear hK K)))
        refine mg_nil fun w7 hw7 => ?_
        have HB7 := Lib.hid (HBR.out.trans (Below.mono hw7 HBR.out.size))
        clear L1' L2' IX1 IX2 E G hw7
        cases d
        · go_wp2_with fail
          go_ret
          refine ⟨?_, HB7.out⟩
          show Ending.returned (.bool false) = _
          rw [HR.out]
          have hne : ¬ p1 = p2 := of_decide_eq_false HS.out.2.2.2.symm
          rw [decide_eq_false (p := l = m)]
          intro hlm
          obtain ⟨s1, s2, s3, -⟩ := HS.out
          subst hlm
          have := s1.symm.trans s2
          simp at this
          exact hne this
        · go_wp2_with fail
          go_roundw
          case rel =>
            refine ⟨i + 1, by go_num, by omega, ?_, HB7.out⟩
            obtain ⟨s1, s2, s3, s4⟩ := HS.out
            rw [s1, s2, s3, of_decide_eq_true s4.symm]
          case measure => simp [intOf]; omega
      · obtain rfl : i = n := by omega
        have t1 : decide ((i : Int) < (i : Int)) = false := decide_eq_false (by omega)
        have t1' : decide (i < i) = false := decide_eq_false (by omega)
        have heq : l = m := by
          rw [List.take_of_length_le (by rw [← HN.out.1]; exact Nat.le_refl _), List.take_of_length_le (by rw [← HN.out.2]; exact Nat.le_refl _)] at he; exact he
        have hres : R = true := by rw [HR.out]; exact decide_eq_true heq
        clear heq he
        subst hres
        go_wp2_with fail
        go_ret
        exact ⟨rfl, hb⟩
  · have tt : ((n : Int) != (k : Int)) = true := by rw [bne_iff_ne]; omega
    have tt' : (n != k) = true := by rw [bne_iff_ne]; omega
    have hres : R = false := by
      rw [HR.out]; refine decide_eq_false fun h => hnk ?_
      rw [HN.out.1, HN.out.2, h]
    subst hres
    go_wp2_with fail
    go_ret
    exact ⟨rfl, Below.refl _ _⟩
end Go.Proofs.YtifoledkmjlmoaaDoor
namespace Go.Proofs.YtifoledkmjlmoaaDoor
open Go.RowKit Go.Mix

theorem sizeOf_u8 (w : World) : (sizeOf 5).run Tryd.prog w = .ok 1 w := by kernel_rfl
theorem neq0 (x : Nat) (h : x ≠ 0) : (((x : Nat) : Int) != 0) = true := by rw [bne_iff_ne]; omega
theorem eq0 (x : Nat) (h : x ≠ 0) : (((x : Nat) : Int) == 0) = false := by rw [beq_eq_false_iff_ne]; omega

theorem xor_255 : ∀ x, x < 256 → 255 ^^^ x = 255 - x := by decide +kernel
theorem not_u8 (x : Int) (k : Nat) (hx : x = (k : Int)) (h : k < 256) : bits .xor .u8 IntKind.u8.max x = ((255 - k : Nat) : Int) := by
  subst hx
  have e : IntKind.u8.max = ((255 : Nat) : Int) := by decide
  rw [e, u8_xor_nat 255 k (by decide) h, xor_255 k h]

theorem OwnB.other {w : World} {B P : Nat} {v : Value} {l : List UInt8} {C : Array Value} {e : TypeId} {fr : Nat × Nat} (h : OwnB w B v l) (hP : w.heap[P]? = some (.cells C e fr)) (he : e ≠ 5) : v.ownBlock ≠ some P := by
  rcases h.2 with ⟨rfl, _⟩ | ⟨g, cap, cur, rfl, _, hg, _⟩
  · simp [Value.ownBlock]
  · simp [Value.ownBlock]
    rintro rfl
    rw [hg] at hP
    simp at hP
    exact he hP.2.1.symm

theorem OwnB.apart {w w' : World} {B : Nat} {v v2 : Value} {l : List UInt8} (h : OwnB w B v l) (hlt : ∀ k, v2.ownBlock = some k → k < B) (hg : w.grownBy w' v2.ownBlock) : OwnB w' B v l := by
  refine World.ownsRow.kept h hg ?_
  cases hv : v.ownBlock with
  | none => exact .inl rfl
  | some k =>
    refine .inr fun e => ?_
    have h1 := (World.ownsRow.lt h k hv).1
    have h2 := hlt k e.symm
    omega

theorem OwnB.bs_of {w : World} {B : Nat} {a : Option Addr} {n c : Nat} {l : List UInt8} (h : OwnB w B (.slice a n c) l) : Bs w a l := by
  obtain ⟨a', c', e, hb, _⟩ := h.bs
  injection e with e1
  rw [e1]; exact hb

theorem Buf.rebase {B B' : Nat} {w0 w1 w : World} {v : Value} {l : List UInt8} (h : Buf B' w1 w v l) (hB : B ≤ B') (g : Below B w0 w1) (hB2 : B ≤ w0.heap.size) : Buf B w0 w v l := by
  refine ⟨?_, g.trans (h.2.1.mono hB), hB2⟩
  obtain ⟨h1, h2⟩ := h.1
  refine ⟨h1, h2.imp id ?_⟩
  rintro ⟨g, cap, cur, e, hg, r⟩
  exact ⟨g, cap, cur, e, Nat.le_trans hB hg, r⟩

/-- The slice (a, l.length, cap) reads as l. -/
structure Sl (w : World) (a : Option Addr) (cap : Nat) (l : List UInt8) : Prop where
  bs : Bs w a l
  le : l.length ≤ cap
  max : cap ≤ 9223372036854775807
  non : a = none → cap = 0

theorem Sl.below {w w' : World} {a : Option Addr} {cap : Nat} {l : List UInt8} (h : Sl w a cap l) (g : Below w.heap.size w w') : Sl w' a cap l := ⟨h.bs.below g, h.le, h.max, h.non⟩

theorem OwnB.sl {w : World} {B : Nat} {v : Value} {l : List UInt8} (h : OwnB w B v l) : ∃ a cap, v = .slice a l.length cap ∧ Sl w a cap l := by
  obtain ⟨a, cap, rfl, hb, hc, hm, hn⟩ := h.bs
  exact ⟨a, cap, rfl, hb, hc, hm, fun e => (hn e).2⟩

theorem Sl.str {w : World} {a : Option Addr} {cap : Nat} {l : List UInt8} (h : Sl w a cap l) : (convert 26 9 (.slice a l.length cap)).run Tryd.prog w = .ok (.string ⟨l.toArray⟩) w :=
  run_string_of_bytes (P := Tryd.prog) h.bs 26 5 9 Tryd.underlying26 Tryd.underlying5 Tryd.underlying9 cap

def RowIn (w : World) (a : Option Addr) (len cap : Nat) (zs : List Int) : Prop :=
  (a = none ∧ len = 0 ∧ cap = 0 ∧ zs = []) ∨ ∃ x, a = some x ∧ len ≤ cap ∧ cap ≤ maxLen ∧ zs.length = cap ∧ (∀ i, i < zs.length → w.cell? (x.add i) = some (.int .u8 (zs.getD i 0))) ∧ ∀ n ∈ zs, (Lit.int .u8 n).wf = true

/-- What an argument of a law is. -/
theorem open_sl {w : World} {a : Option Addr} {len cap : Nat} {zs : List Int} (h : RowIn w a len cap zs) : ∃ L : List UInt8, L.length = len ∧ Sl w a cap L := by
  obtain ⟨L, hL, hb, hle, hc, hn⟩ := open_row h
  exact ⟨L.take len, by rw [List.length_take]; omega, hb.take _, by rw [List.length_take]; omega, hc, fun e => (hn e).2⟩

/-- 's[:k]', 's[k:]', 's[i:k]' of such a slice, the bounds as Ints. -/
theorem Sl.to {w : World} {a : Option Addr} {cap : Nat} {l : List UInt8} (h : Sl w a cap l) (ki : Int) (k : Nat) (hki : ki = k) (hk : k ≤ l.length) :
    ∃ l2, l2 = l.take k ∧ l2.length = k ∧ Sl w a cap l2 ∧ ∀ w : World, (Instr.slice 26 (.slice a l.length cap) none (some (.int .i64 ki)) none).run Tryd.prog w = .ok (.slice a l2.length cap) w := by
  obtain ⟨l2, h1, h2, h3, h4⟩ := cut_to_i (P := Tryd.prog) h.bs 26 Tryd.underlying26 sizeOf_u8 cap ki k hki h.le h.non hk
  exact ⟨l2, h1, h2, ⟨h3, by have := h.le; omega, h.max, h.non⟩, h4⟩
theorem Sl.from {w : World} {a : Option Addr} {cap : Nat} {l : List UInt8} (h : Sl w a cap l) (ki : Int) (k : Nat) (hki : ki = k) (hk : k ≤ l.length) :
    ∃ a2 l2 cap2, l2 = l.drop k ∧ Sl w a2 cap2 l2 ∧ ∀ w : World, (Instr.slice 26 (.slice a l.length cap) (some (.int .i64 ki)) none none).run Tryd.prog w = .ok (.slice a2 l2.length cap2) w := by
  obtain ⟨a2, l2, cap2, h1, h2, h3, h4, h5, h6⟩ := cut_from_i (P := Tryd.prog) h.bs 26 Tryd.underlying26 sizeOf_u8 cap ki k hki h.le h.non hk
  exact ⟨a2, l2, cap2, h1, ⟨h2, h3, by have := h.max; omega, h5⟩, h6⟩
theorem Sl.mid {w : World} {a : Option Addr} {cap : Nat} {l : List UInt8} (h : Sl w a cap l) (ii ki : Int) (i k : Nat) (hii : ii = i) (hki : ki = k) (hi : i ≤ k) (hk : k ≤ l.length) :
    ∃ a2 l2 cap2, l2 = (l.drop i).take (k - i) ∧ l2.length = k - i ∧ Sl w a2 cap2 l2 ∧ ∀ w : World, (Instr.slice 26 (.slice a l.length cap) (some (.int .i64 ii)) (some (.int .i64 ki)) none).run Tryd.prog w = .ok (.slice a2 l2.length cap2) w := by
  obtain ⟨a2, l2, cap2, h1, h1n, h2, h3, h4, h5, h6⟩ := cut_mid_i (P := Tryd.prog) h.bs 26 Tryd.underlying26 sizeOf_u8 cap ii ki i k hii hki h.le h.non hi hk
  exact ⟨a2, l2, cap2, h1, h1n, ⟨h2, h3, by have := h.max; omega, h5⟩, h6⟩
/-- 's[k]': where it lies, what it holds. -/
theorem Sl.at {w : World} {a : Option Addr} {cap : Nat} {l : List UInt8} (h : Sl w a cap l) (ki : Int) (k : Nat) (hki : ki = k) (hk : k < l.length) :
    (∀ w : World, (Instr.indexAt 26 (.slice a l.length cap) (.int .i64 ki)).run Tryd.prog w = .ok (.pointer (some (elt a k))) w) ∧ w.cell? (elt a k) = some (.int .u8 (l[k].toNat : Int)) := by
  subst hki
  exact ⟨fun w => run_index_any (P := Tryd.prog) h.bs.cells 26 Tryd.underlying26 sizeOf_u8 cap (n := l.length) hk (by rw [bcells_length]; omega) .i64 w, h.bs.cell hk⟩

/-- '[]byte(s)'. -/
theorem bytes_made (w : World) (s : ByteArray) (hs : s.size ≤ 140737488355328) :
    ∃ cap w', (convert 9 26 (.string s)).run Tryd.prog w = .ok (.slice (some ⟨w.heap.size, 0, none⟩) s.size cap) w' ∧ Sl w' (some ⟨w.heap.size, 0, none⟩) cap s.data.toList ∧ Below w.heap.size w w' := by
  have hsz : s.data.toList.length = s.size := Array.length_toList
  refine ⟨_, _, Lib.run_convert_string_bytes w 9 26 5 s Tryd.underlying9 Tryd.underlying26 Tryd.underlying5, ⟨?_, ?_, ?_, fun h => nomatch h⟩, ?_⟩
  · have hlen : (Lib.bytesCells w 5 s).toList.take s.data.toList.length = bcells s.data.toList := by
      unfold Lib.bytesCells
      rw [Array.toList_append, List.take_append_of_le_length (by simp)]
      refine (List.take_of_length_le ?_).trans ?_
      · simp
      · simp [bcells]
    exact .block (Lib.bytesWorld_at_new w 5 s) hlen
  · rw [hsz]; exact grownCap_ge _ _ _ _
  · have := grownCap_le_maxLen w s.size 0 5 (by unfold maxLen; omega)
    unfold maxLen at this; omega
  · refine ⟨rfl, rfl, rfl, by rw [Lib.bytesWorld_size]; omega, fun k hk => Lib.bytesWorld_at_old w _ _ k hk⟩
end Go.Proofs.YtifoledkmjlmoaaDoor
