/-
  '==' of entries.
-/
import Derived.Test.YtbllpjphlanchaaEnt
namespace Go.Proofs.Ytbllpjphlanchaa
open Go.RowKit Go.Mix Go.WideMaps

/-- What is asked of an entry that is compared: an int's mode, a short name. -/
def WfE (p : Ent) : Prop := (Lit.int .i64 p.mode).wf = true ∧ p.name.length ≤ 1000000

structure EntTy (e f : TypeId) : Prop where
  he : ∃ f0 f1 f2 : Field, Try.prog.underlying e = some (.struct #[f0, f1, f2]) ∧ f0.type = 3 ∧ f1.type = 9 ∧ f2.type = f ∧ f0.offset = 0 ∧ f1.offset = 1 ∧ f2.offset = 2 ∧ (f0.name != "_") = true ∧ (f1.name != "_") = true ∧ (f2.name != "_") = true
  hf : ArrKey Try.prog f 5 20
  ce : Try.prog.cellsOf e = 22
  ke : Try.prog.keyTypeAt 3 e = true
  ge : Try.prog.eqGuardType Try.prog.depth e = false
theorem etE : EntTy 40 38 := ⟨⟨_, _, _, Try.underlying40, rfl, rfl, rfl, rfl, rfl, rfl, rfl, rfl, rfl⟩, arrG, by kernel_rfl, by kernel_rfl, by kernel_rfl⟩
theorem etF : EntTy 43 37 := ⟨⟨_, _, _, Try.underlying43, rfl, rfl, rfl, rfl, rfl, rfl, rfl, rfl, rfl⟩, arrR, by kernel_rfl, by kernel_rfl, by kernel_rfl⟩

section
variable {e f : TypeId} (T : EntTy e f)
include T
def litsE (p : Ent) : List Lit := .int .i64 p.mode :: .string p.name :: litsOf p.id.1
theorem EntTy.lits (p : Ent) (hw : WfE p) : Try.prog.keyLits 3 e (encE p) = some (litsE p) := by
  obtain ⟨f0, f1, f2, hu, t0, t1, t2, o0, o1, o2, n0, n1, n2⟩ := T.he
  unfold Program.keyLits
  rw [hu]
  have hl := encE_len p
  have hce := T.ce
  have c0 : Try.prog.cellsOf 3 = 1 := by kernel_rfl
  have c1 : Try.prog.cellsOf 9 = 1 := by kernel_rfl
  have hcf : Try.prog.cellsOf f = 20 := T.hf.size
  have h0 : ((encE p).drop 0).take 1 = [.int .i64 p.mode] := rfl
  have h1 : ((encE p).drop 1).take 1 = [.string (strOf p.name)] := rfl
  have h2 : ((encE p).drop 2).take 20 = bcells p.id.1 := by
    show (idc p.id).take 20 = _
    rw [List.take_of_length_le (by rw [idc_len]; exact Nat.le_refl _)]; rfl
  have g0 : Try.prog.keyLits 2 3 [.int .i64 p.mode] = some [.int .i64 p.mode] := by
    unfold Program.keyLits
    rw [Try.underlying3]
    simp only [hw.1, and_self, if_true]
  have g1 : Try.prog.keyLits 2 9 [.string (strOf p.name)] = some [.string p.name] := by
    unfold Program.keyLits
    rw [Try.underlying9]
    have hsz : (strOf p.name).size ≤ maxLen := by rw [strOf_size]; have := hw.2; unfold maxLen; omega
    simp only [hsz, if_true]
    rfl
  have g2 := arr_lits T.hf Try.underlying5 p.id.1 p.id.2
  simp only [hl, hce, List.mapM_cons, List.mapM_nil, t0, t1, t2, o0, o1, o2, hcf, c0, c1, h0, h1, h2, g0, g1, g2]
  simp [n0, n1, n2, litsE]
omit T in
theorem litsE_inj {p q : Ent} (h : litsE p = litsE q) : p = q := by
  unfold litsE at h
  simp only [List.cons.injEq, Lit.int.injEq, true_and, Lit.string.injEq] at h
  obtain ⟨h1, h2, h3⟩ := h
  obtain ⟨m, n, i⟩ := p
  obtain ⟨m2, n2, i2⟩ := q
  simp only at h1 h2 h3
  subst h1 h2
  rw [Subtype.ext (lits_inj _ _ h3)]
theorem EntTy.eq_run (p q : Ent) (hp : WfE p) (hq : WfE q) (w : World) : (Op.equalIn 10000 e (.agg (recA encE p)) (.agg (recA encE q))).run Try.prog w = .ok (decide (p = q)) w := by
  obtain ⟨f0, f1, f2, hu, -⟩ := T.he
  have hf : ∀ z : Ent, Value.formed Try.prog e (.agg (recA encE z)) = true := fun z => by
    unfold Value.formed
    rw [hu]
    simp [T.ce, recA, encE_len]
  obtain ⟨r, hr, hiff⟩ := equalIn_lits T.ke (by omega) (hf p) (hf q) (D := 3) (lx := litsE p) (ly := litsE q) (by simpa [recA] using T.lits p hp) (by simpa [recA] using T.lits q hq) w
  rw [hr]
  congr 1
  rw [Bool.eq_iff_iff, hiff, decide_eq_true_eq]
  exact ⟨litsE_inj, fun h => by rw [h]⟩
end
end Go.Proofs.Ytbllpjphlanchaa
