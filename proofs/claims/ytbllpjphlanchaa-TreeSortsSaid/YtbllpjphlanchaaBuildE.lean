/-
  Entries that are built.
-/
import Derived.Test.YtbllpjphlanchaaBuild
import Derived.Test.YtbllpjphlanchaaEnt
namespace Go.Proofs.Ytbllpjphlanchaa
open Go.RowKit Go.Mix

theorem placesE : ∃ fs, Try.prog.underlying 40 = some (.struct fs) ∧ fs.toList.mapM (fun f => (Try.prog.info? f.type).map fun i => (f.offset, i.size)) = some [(0, 1), (1, 1), (2, 20)] := ⟨_, Try.underlying40, by kernel_rfl⟩
theorem placesF : ∃ fs, Try.prog.underlying 43 = some (.struct fs) ∧ fs.toList.mapM (fun f => (Try.prog.info? f.type).map fun i => (f.offset, i.size)) = some [(0, 1), (1, 1), (2, 20)] := ⟨_, Try.underlying43, by kernel_rfl⟩
theorem fillE (m : Int) (nm : List UInt8) (x : Id20) : Instr.fill (([(0, 1), (1, 1), (2, 20)] : List (Nat × Nat)).toArray[·]?) (encE ent0).toArray [(0, .int .i64 m), (1, .string (strOf nm)), (2, .agg (idA x))] = some (recA encE ⟨m, nm, x⟩) := by
  have l20 : (idc ent0.id).length = 20 := idc_len _
  rw [fill_cons (o := 0) (n := 1) rfl rfl (by rw [encE_len]; omega), fill_cons (o := 1) (n := 1) rfl rfl (by simp [encE, Value.cells]), fill_cons (v := .agg (idA x)) (o := 2) (n := 20) rfl (idA_size x) (by simp [encE, Value.cells, l20]), fill_nil]
  simp [encE, Value.cells, recA, idA, ent0, show (idc id0).length = 20 from idc_len _]
theorem fillE2 (m : Int) (nm : List UInt8) : Instr.fill (([(0, 1), (1, 1), (2, 20)] : List (Nat × Nat)).toArray[·]?) (encE ent0).toArray [(0, .int .i64 m), (1, .string (strOf nm))] = some (recA encE ⟨m, nm, id0⟩) := by
  rw [fill_cons (o := 0) (n := 1) rfl rfl (by rw [encE_len]; omega), fill_cons (o := 1) (n := 1) rfl rfl (by simp [encE, Value.cells]), fill_nil]
  simp [encE, Value.cells, recA, ent0]
theorem buildE3 (m : Int) (nm : List UInt8) (x : Id20) (w : World) : (Instr.build 40 #[(0, .int .i64 m), (1, .string (strOf nm)), (2, .agg (idA x))]).run Try.prog w = .ok (.agg (recA encE ⟨m, nm, x⟩)) w := by
  obtain ⟨fs, h1, h2⟩ := placesE
  exact built_at (Z := encE ent0) (by kernel_rfl) h1 h2 (fillE m nm x) w
theorem buildE2 (m : Int) (nm : List UInt8) (w : World) : (Instr.build 40 #[(0, .int .i64 m), (1, .string (strOf nm))]).run Try.prog w = .ok (.agg (recA encE ⟨m, nm, id0⟩)) w := by
  obtain ⟨fs, h1, h2⟩ := placesE
  exact built_at (Z := encE ent0) (by kernel_rfl) h1 h2 (fillE2 m nm) w
theorem buildE0 (w : World) : (Instr.build 40 #[]).run Try.prog w = .ok (.agg (recA encE ent0)) w := by
  obtain ⟨fs, h1, h2⟩ := placesE
  exact built_at (Z := encE ent0) (parts := []) (by kernel_rfl) h1 h2 fill_nil w
theorem buildF3 (m : Int) (nm : List UInt8) (x : Id20) (w : World) : (Instr.build 43 #[(0, .int .i64 m), (1, .string (strOf nm)), (2, .agg (idA x))]).run Try.prog w = .ok (.agg (recA encE ⟨m, nm, x⟩)) w := by
  obtain ⟨fs, h1, h2⟩ := placesF
  exact built_at (Z := encE ent0) (by kernel_rfl) h1 h2 (fillE m nm x) w
end Go.Proofs.Ytbllpjphlanchaa
