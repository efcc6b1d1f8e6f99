/-
  '==' of a manifest's files; files that are built.
-/
import Derived.Test.YtifoledkmjlmoaaDoorMFile
import Derived.Test.YtifoledkmjlmoaaDoorBuild
namespace Go.Proofs.YtifoledkmjlmoaaDoor
open Go.RowKit Go.Mix Go.WideMaps

/-- What is asked of a file that is compared: short texts. -/
def WfM (p : MFile) : Prop := p.path.length ≤ 1000000 ∧ p.flag.length ≤ 1000000

structure FileTy (e f : TypeId) : Prop where
  he : ∃ f0 f1 f2 : Field, Tryd.prog.underlying e = some (.struct #[f0, f1, f2]) ∧ f0.type = 9 ∧ f1.type = f ∧ f2.type = 9 ∧ f0.offset = 0 ∧ f1.offset = 1 ∧ f2.offset = 21 ∧ (f0.name != "_") = true ∧ (f1.name != "_") = true ∧ (f2.name != "_") = true
  hf : ArrKey Tryd.prog f 5 20
  ce : Tryd.prog.cellsOf e = 22
  ke : Tryd.prog.keyTypeAt 3 e = true
  ge : Tryd.prog.eqGuardType Tryd.prog.depth e = false
set_option maxRecDepth 100000 in
theorem etM : FileTy 46 44 := ⟨⟨_, _, _, Tryd.underlying46, rfl, rfl, rfl, rfl, rfl, rfl, rfl, rfl, rfl⟩, arrG, by kernel_rfl, by kernel_rfl, by kernel_rfl⟩
set_option maxRecDepth 100000 in
theorem etN : FileTy 54 43 := ⟨⟨_, _, _, Tryd.underlying54, rfl, rfl, rfl, rfl, rfl, rfl, rfl, rfl, rfl⟩, arrR, by kernel_rfl, by kernel_rfl, by kernel_rfl⟩

section
variable {e f : TypeId} (T : FileTy e f)
include T
def litsM (p : MFile) : List Lit := .string p.path :: (litsOf p.node.1 ++ [.string p.flag])
set_option maxRecDepth 100000 in
theorem FileTy.lits (p : MFile) (hw : WfM p) : Tryd.prog.keyLits 3 e (encM p) = some (litsM p) := by
  obtain ⟨f0, f1, f2, hu, t0, t1, t2, o0, o1, o2, n0, n1, n2⟩ := T.he
  unfold Program.keyLits
  rw [hu]
  have hl := encM_len p
  have hce := T.ce
  have c1 : Tryd.prog.cellsOf 9 = 1 := by kernel_rfl
  have hcf : Tryd.prog.cellsOf f = 20 := T.hf.size
  have h0 : ((encM p).drop 0).take 1 = [.string (strOf p.path)] := rfl
  have h1 : ((encM p).drop 1).take 20 = bcells p.node.1 := by
    show (idc p.node ++ [Value.string (strOf p.flag)]).take 20 = _
    rw [List.take_append_of_le_length (by rw [idc_len]; exact Nat.le_refl _), List.take_of_length_le (by rw [idc_len]; exact Nat.le_refl _)]; rfl
  have h2 : ((encM p).drop 21).take 1 = [.string (strOf p.flag)] := by
    show ((idc p.node ++ [Value.string (strOf p.flag)]).drop 20).take 1 = _
    rw [List.drop_append_of_le_length (by rw [idc_len]; exact Nat.le_refl _), List.drop_of_length_le (by rw [idc_len]; exact Nat.le_refl _)]; rfl
  have g1 : ∀ x : List UInt8, x.length ≤ 1000000 → Tryd.prog.keyLits 2 9 [.string (strOf x)] = some [.string x] := fun x hx => by
    unfold Program.keyLits
    rw [Tryd.underlying9]
    have hsz : (strOf x).size ≤ maxLen := by rw [strOf_size]; unfold maxLen; omega
    simp only [hsz, if_true]
    rfl
  have g0 := g1 p.path hw.1
  have g3 := g1 p.flag hw.2
  have g2 := arr_lits T.hf Tryd.underlying5 p.node.1 p.node.2
  simp only [hl, hce, List.mapM_cons, List.mapM_nil, t0, t1, t2, o0, o1, o2, hcf, c1, h0, h1, h2, g0, g2, g3]
  simp [n0, n1, n2, litsM]
omit T in
theorem litsM_inj {p q : MFile} (h : litsM p = litsM q) : p = q := by
  unfold litsM at h
  simp only [List.cons.injEq, Lit.string.injEq] at h
  obtain ⟨h1, h2⟩ := h
  have hl : (litsOf p.node.1).length = (litsOf q.node.1).length := by simp [litsOf, p.node.2, q.node.2]
  obtain ⟨h3, h4⟩ := List.append_inj h2 hl
  obtain ⟨m, n, i⟩ := p
  obtain ⟨m2, n2, i2⟩ := q
  simp only [List.cons.injEq, Lit.string.injEq, and_true] at h1 h3 h4
  subst h1 h4
  rw [Subtype.ext (lits_inj _ _ h3)]
set_option maxRecDepth 100000 in
theorem FileTy.eq_run (p q : MFile) (hp : WfM p) (hq : WfM q) (w : World) : (Op.equalIn 10000 e (.agg (recA encM p)) (.agg (recA encM q))).run Tryd.prog w = .ok (decide (p = q)) w := by
  obtain ⟨f0, f1, f2, hu, -⟩ := T.he
  have hf : ∀ z : MFile, Value.formed Tryd.prog e (.agg (recA encM z)) = true := fun z => by
    unfold Value.formed
    rw [hu]
    simp [T.ce, recA, encM_len]
  obtain ⟨r, hr, hiff⟩ := equalIn_lits T.ke (by omega) (hf p) (hf q) (D := 3) (lx := litsM p) (ly := litsM q) (by simpa [recA] using T.lits p hp) (by simpa [recA] using T.lits q hq) w
  rw [hr]
  congr 1
  rw [Bool.eq_iff_iff, hiff, decide_eq_true_eq]
  exact ⟨litsM_inj, fun h => by rw [h]⟩
end

/-! ### Built -/
set_option maxRecDepth 100000 in
theorem placesM : ∃ fs, Tryd.prog.underlying 46 = some (.struct fs) ∧ fs.toList.mapM (fun f => (Tryd.prog.info? f.type).map fun i => (f.offset, i.size)) = some [(0, 1), (1, 20), (21, 1)] := ⟨_, Tryd.underlying46, by kernel_rfl⟩
set_option maxRecDepth 100000 in
theorem placesN : ∃ fs, Tryd.prog.underlying 54 = some (.struct fs) ∧ fs.toList.mapM (fun f => (Tryd.prog.info? f.type).map fun i => (f.offset, i.size)) = some [(0, 1), (1, 20), (21, 1)] := ⟨_, Tryd.underlying54, by kernel_rfl⟩
theorem idc_cells (x : Id20) : (Value.agg (idA x)).cells.toList = idc x := by simp [Value.cells, idA]
theorem fillM (p : List UInt8) (x : Id20) (f : List UInt8) : Instr.fill (([(0, 1), (1, 20), (21, 1)] : List (Nat × Nat)).toArray[·]?) (encM mf0).toArray [(0, .string (strOf p)), (1, .agg (idA x)), (2, .string (strOf f))] = some (recA encM ⟨p, x, f⟩) := by
  have l20 : ∀ y : Id20, (idc y).length = 20 := idc_len
  rw [fill_cons (o := 0) (n := 1) rfl rfl (by rw [encM_len]; omega), fill_cons (v := .agg (idA x)) (o := 1) (n := 20) rfl (idA_size x) (by simp [encM, Value.cells, l20]), fill_cons (o := 21) (n := 1) rfl rfl (by simp [encM, Value.cells, idA, l20, mf0]), fill_nil]
  simp only [idc_cells]
  simp [encM, Value.cells, recA, mf0, l20, List.take_append, List.drop_append]
theorem buildM (p : List UInt8) (x : Id20) (f : List UInt8) (w : World) : (Instr.build 46 #[(0, .string (strOf p)), (1, .agg (idA x)), (2, .string (strOf f))]).run Tryd.prog w = .ok (.agg (recA encM ⟨p, x, f⟩)) w := by
  obtain ⟨fs, h1, h2⟩ := placesM
  exact built_at (Z := encM mf0) (by kernel_rfl) h1 h2 (fillM p x f) w
theorem buildN (p : List UInt8) (x : Id20) (f : List UInt8) (w : World) : (Instr.build 54 #[(0, .string (strOf p)), (1, .agg (idA x)), (2, .string (strOf f))]).run Tryd.prog w = .ok (.agg (recA encM ⟨p, x, f⟩)) w := by
  obtain ⟨fs, h1, h2⟩ := placesN
  exact built_at (Z := encM mf0) (by kernel_rfl) h1 h2 (fillM p x f) w
theorem buildM0 (w : World) : (Instr.build 46 #[]).run Tryd.prog w = .ok (.agg (recA encM mf0)) w := by
  obtain ⟨fs, h1, h2⟩ := placesM
  exact built_at (Z := encM mf0) (parts := []) (by kernel_rfl) h1 h2 fill_nil w
end Go.Proofs.YtifoledkmjlmoaaDoor
