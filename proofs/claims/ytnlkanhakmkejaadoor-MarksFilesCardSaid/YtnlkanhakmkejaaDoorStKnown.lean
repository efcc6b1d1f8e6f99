
/-
  The chapter's example (known): the walk.
-/
import Derived.Test.YtnlkanhakmkejaaDoorStCrash
import Derived.Test.YtnlkanhakmkejaaDoorStOk
namespace Go.Proofs.YtnlkanhakmkejaaDoor
open Go.RowKit Go.Mix Go.WideMaps Go.Maps

section
variable {own : Owns} {w : World} {p Z : Nat} {S : StP}
theorem write_at (h : StoreAt own w p S) (ok : OkS Z S) (hZ : Z ≤ 100000000) (path : Bytes) (hp : path.length ≤ 100000) (at_ : Int) (hat : -9223372036854775808 ≤ at_ ∧ at_ ≤ 9223372036854775807)
    {ab : Option Addr} {nb cb : Nat} {b : Bytes} (hb : Sl w ab cb b) (hn : nb = b.length) (hbl : nb ≤ 1000000000) (hbo : ∀ x, ab = some x → own x.block = none) :
    Calls Tryd.prog 16 #[ptr p, .string (strOf path), .int .i64 at_, .slice ab nb cb] w fun e w' => Left own w p (writeS S path at_ b) e w' := by
  obtain ⟨M, G, h⟩ := h
  exact write_any h ok hZ path hp at_ hat hb hn hbl hbo
theorem cut_at (h : StoreAt own w p S) (ok : OkS Z S) (hZ : Z ≤ 100000000) (path : Bytes) (hp : path.length ≤ 100000) (n : Int) (hnb : -9223372036854775808 ≤ n ∧ n ≤ 9223372036854775807) :
    Calls Tryd.prog 17 #[ptr p, .string (strOf path), .int .i64 n] w fun e w' => Left own w p (cutS S path n) e w' := by
  obtain ⟨M, G, h⟩ := h
  exact cut_any h ok hZ path hp n hnb
theorem sync_at (h : StoreAt own w p S) (ok : OkS Z S) (path : Bytes) (hp : path.length ≤ 100000) :
    Calls Tryd.prog 18 #[ptr p, .string (strOf path)] w fun e w' => Left own w p (syncS S path) e w' := by
  obtain ⟨M, G, h⟩ := h
  exact sync_any h ok path hp
theorem rename_at (h : StoreAt own w p S) (ok : OkS Z S) (hZ : Z ≤ 100000000) (src dst : Bytes) (hp : src.length ≤ 100000) (hp2 : dst.length ≤ 100000) :
    Calls Tryd.prog 19 #[ptr p, .string (strOf src), .string (strOf dst)] w fun e w' => Left own w p (renameS S src dst) e w' := by
  obtain ⟨M, G, h⟩ := h
  exact rename_any h ok hZ src dst hp hp2
theorem read_at (h : StoreAt own w p S) (ok : OkS Z S) (hZ : Z ≤ 100000000) (path : Bytes) (hp : path.length ≤ 100000) :
    Calls Tryd.prog 25 #[ptr p, .string (strOf path)] w fun e w' => ReadIs S.files path w e w' := by
  obtain ⟨M, G, h⟩ := h
  exact read_any h path hp fun q hq => by have := (ok.ok q hq).2.2.1; omega
theorem list_at (h : StoreAt own w p S) (ok : OkS Z S) (under : Bytes) :
    Calls Tryd.prog 9 #[ptr p, .string (strOf under)] w fun e w' => ∃ a c, e = .returned (.slice a (listS S under).length c) ∧ RsAt encS 1 w' a c (listS S under) ∧ Below w.heap.size w w' := by
  obtain ⟨M, G, h⟩ := h
  exact list_any h ok under
theorem arm_at (h : StoreAt own w p S) (n : Int) : Calls Tryd.prog 12 #[ptr p, .int .i64 n] w fun e w' => CrashLeft own w p (armS S n) e w' := by
  obtain ⟨M, G, h⟩ := h
  exact (arm_any h n).mono fun e w' ⟨h1, h2, h3⟩ => ⟨h1, own, ⟨M, G, h2⟩, turn_root h3⟩
theorem crash_at (h : StoreAt own w p S) (ok : OkS Z S) (hZ : Z ≤ 100000000) {ak : Option Addr} {ck nk : Nat} {K : List Int} (hk : RsAt encI 1 w ak ck K) (hnk : nk = K.length) (hkl : nk ≤ 1000000) (hko : ∀ x, ak = some x → own x.block = none) :
    Calls Tryd.prog 13 #[ptr p, .slice ak nk ck] w fun e w' => CrashLeft own w p (crashS S K) e w' := by
  obtain ⟨M, G, h⟩ := h
  exact crash_any h ok hZ hk hnk hkl hko
/-- What was made behind the store is none of it. -/
theorem StoreAt.none_new (h : StoreAt own w p S) {k : Nat} (hk : w.heap.size ≤ k) : own k = none := by
  cases ho : own k with
  | none => rfl
  | some t => exact absurd (h.lt k (by rw [ho]; simp)) (by omega)
end

/-- Bytes of a constant. -/
theorem flat_ints (l : List Int) : flatR encI l = l.map intV := by
  unfold flatR encI one1
  induction l with
  | nil => rfl
  | cons x l ih => rw [List.flatMap_cons, List.map_cons, ih]; rfl
theorem const_bytes (w : World) (l : List UInt8) (hl : l.length ≤ 1000000) (fr : Nat × Nat) : Sl (w.alloc (.cells (bcells l).toArray 5 fr)) (some ⟨w.heap.size, 0, none⟩) l.length l :=
  ⟨.block (heap_alloc_last _ _ _ rfl) (by rw [List.take_of_length_le (by simp [bcells])]; rfl), Nat.le_refl _, by omega, fun h => nomatch h⟩
theorem const_ints (w : World) (l : List Int) (hl : l.length ≤ 1000000) (fr : Nat × Nat) : RsAt encI 1 (w.alloc (.cells (l.map intV).toArray 3 fr)) (some ⟨w.heap.size, 0, none⟩) l.length l :=
  ⟨Nat.le_refl _, by omega, (fun h => nomatch h), .inr ⟨w.heap.size, 0, rfl, (tyI.range_flat l 0).1 fun j v hj => by
    rw [flat_ints] at hj
    rw [cell_of_row _ _ _ _ _ _ (heap_alloc_last w _ _ rfl), Nat.zero_add]
    simpa using hj⟩⟩

/-! ### The example -/
def kn1 : StP := ⟨100, 2, [([97], ⟨[120, 121], [], [⟨0, -1, [120, 121]⟩]⟩)], false, false, 0⟩
def kn2 : StP := ⟨100, 2, [([97], ⟨[120, 121], [120, 121], []⟩)], false, false, 0⟩
def kn3 : StP := ⟨100, 2, [([97], ⟨[120, 122], [120, 121], [⟨1, -1, [122]⟩]⟩)], false, false, 0⟩
def kn4 : StP := ⟨100, 1, [([97], ⟨[120], [120, 121], [⟨1, -1, [122]⟩, ⟨0, 1, []⟩]⟩)], false, false, 0⟩
def kn5 : StP := ⟨100, 2, [([97], ⟨[120, 122], [120, 122], []⟩)], false, false, 0⟩
theorem kn1_eq : writeS (newS 100) [97] 0 [120, 121] = (kn1, 0) := rfl
theorem kn2_eq : syncS kn1 [97] = (kn2, 0) := rfl
theorem kn3_eq : writeS kn2 [97] 1 [122] = (kn3, 0) := rfl
theorem kn4_eq : cutS kn3 [97] 1 = (kn4, 0) := rfl
theorem kn4_no : writeS kn4 [97, 47, 98] 0 [] = (kn4, 9) := rfl
theorem kn5_eq : crashS kn4 [1] = kn5 := rfl
theorem ok0 : OkS 0 (newS 100) := OkS.new 100 ⟨by decide, by decide⟩
theorem ok1 : OkS 3 kn1 := by have := ok0.write [97] 0 [120, 121]; rw [kn1_eq] at this; exact this
theorem ok2 : OkS 3 kn2 := by have := ok1.sync [97]; rw [kn2_eq] at this; exact this
theorem ok3 : OkS 5 kn3 := by have := ok2.write [97] 1 [122]; rw [kn3_eq] at this; exact this
theorem ok4 : OkS 6 kn4 := by have := ok3.cut [97] 1; rw [kn4_eq] at this; exact this
theorem ok5 : OkS 6 kn5 := by have := ok4.crash [1] (fun h => absurd (show (100 : Int) < 0 from h) (by decide)); rw [kn5_eq] at this; exact this

/-- A store that a call has made behind the world w0. -/
structure Live (B : Nat) (w0 : World) (own : Owns) (w : World) (p : Nat) (S : StP) : Prop where
  at_ : StoreAt own w p S
  far : ∀ k, own k ≠ none → B ≤ k
  frame : Below B w0 w
  le : B ≤ w0.heap.size
section
variable {B p : Nat} {w0 w w' : World} {own own' : Owns} {S S' : StP}
theorem Live.turn (h : Live B w0 own w p S) (hs : StoreAt own' w' p S') (g : Turn Any own own' w w') : Live B w0 own' w' p S' := by
  have hB : B ≤ w.heap.size := Nat.le_trans h.le h.frame.size
  refine ⟨hs, fun k hk => ?_, ⟨g.frame.os.trans h.frame.os, g.frame.tape.trans h.frame.tape, g.frame.output.trans h.frame.output, Nat.le_trans h.frame.size g.frame.size, fun k hk => ?_⟩, h.le⟩
  · by_cases hlt : k < w.heap.size
    · rw [g.ow.old k hlt] at hk
      exact h.far k hk
    · omega
  · refine (g.frame.keep k ⟨Nat.lt_of_lt_of_le hk hB, fun ho => ?_⟩).2.trans (h.frame.block k hk)
    exact absurd (h.far k ho) (by omega)
theorem Live.below (h : Live B w0 own w p S) (g : Below w.heap.size w w') : Live B w0 own w' p S := ⟨h.at_.below g, h.far, h.frame.trans (g.mono (Nat.le_trans h.le h.frame.size)), h.le⟩
theorem Live.left (h : Live B w0 own w p S) {r : StP × Int} {e : Ending} (k : Left own w p r e w') : e = .returned (.int .i64 r.2) ∧ ∃ own', Live B w0 own' w' p r.1 := by
  obtain ⟨e1, own', h1, h2⟩ := k
  exact ⟨e1, own', h.turn h1 h2⟩
theorem Live.crashed (h : Live B w0 own w p S) {e : Ending} (k : CrashLeft own w p S' e w') : e = .returned (.tuple #[]) ∧ ∃ own', Live B w0 own' w' p S' := by
  obtain ⟨e1, own', h1, h2⟩ := k
  exact ⟨e1, own', h.turn h1 h2⟩
theorem Live.not_new (h : Live B w0 own w p S) {k : Nat} (hk : w.heap.size ≤ k) : own k = none := h.at_.none_new hk
theorem Live.not_old (h : Live B w0 own w p S) {k : Nat} (hk : k < B) : own k = none := by
  cases ho : own k with
  | none => rfl
  | some t => exact absurd (h.far k (by rw [ho]; simp)) (by omega)
end
theorem new_live (q : Int) (w : World) : Calls Tryd.prog 4 #[.int .i64 q] w fun e w' => ∃ p own, e = .returned (ptr p) ∧ Live w.heap.size w own w' p (newS q) :=
  (new_any q w).mono fun _ _ ⟨p, own, h1, h2, h3, h4⟩ => ⟨p, own, h1, h2, h3, h4, Nat.le_refl _⟩

end Go.Proofs.YtnlkanhakmkejaaDoor
