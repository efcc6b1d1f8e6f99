/-
  refs' place: lay, with its closures: the walks.
  refs' place: lay: the walk.
  refs.Set, refs.SetHead: the walks.
  refs.SetHead, refs.Pack: the walks.
  refs.Pack: the walk.
-/
import Derived.Test.YtponfkfeflnilaaGreatDoorMaAll
import Derived.Test.YtponfkfeflnilaaGreatDoorMaStC
import Derived.Test.YtponfkfeflnilaaGreatDoorMaStA
import Derived.Test.YtponfkfeflnilaaGreatDoorMaGet
namespace Go.Proofs.YtponfkfeflnilaaGreatDoor
open Go.RowKit Go.Mix Go.WideMaps Go.Maps

/-! ### Plain -/
def tmpT : Bytes := [116, 109, 112]
/-- What is done where that was. -/
def andS (r : StP × Int) (f : StP → StP × Int) : StP × Int := if r.2 = 0 then f r.1 else r
theorem andS_ok (S : StP) (f : StP → StP × Int) : andS (S, 0) f = f S := if_pos rfl
theorem andS_no (S : StP) {n : Int} (h : n ≠ 0) (f : StP → StP × Int) : andS (S, n) f = (S, n) := if_neg h
/-- A file is laid down. -/
def layS (S : StP) (f name b : Bytes) : StP × Int :=
  andS (writeS S (f ++ tmpT) 0 b) fun S1 => andS (cutS S1 (f ++ tmpT) b.length) fun S2 => andS (syncS S2 (f ++ tmpT)) fun S3 => renameS S3 (f ++ tmpT) (f ++ name)
theorem and_step {P Q : StP → Prop} {r : StP × Int} {f : StP → StP × Int} (h : P r.1) (hf : ∀ S, P S → Q (f S).1) (hpq : ∀ S, P S → Q S) : Q (andS r f).1 := by
  unfold andS
  split
  · exact hf _ h
  · exact hpq _ h
theorem OkS.lay {Z : Nat} {S : StP} (h : OkS Z S) (f name b : Bytes) : OkS (Z + b.length + 2) (layS S f name b).1 := by
  unfold layS
  refine and_step (P := OkS (Z + b.length + 1)) (h.write _ 0 b) (fun S1 h1 => ?_) (fun S1 h1 => h1.mono (by omega))
  refine and_step (P := OkS (Z + b.length + 2)) (h1.cut _ _) (fun S2 h2 => ?_) (fun S2 h2 => h2)
  exact and_step (P := OkS (Z + b.length + 2)) (h2.sync _) (fun S3 h3 => h3.rename _ _) (fun S3 h3 => h3)

/-! ### One step -/
def DoP (own : Owns) (w : World) (p E : Nat) (r : StP × Int) (w' : World) : Prop := ∃ own', StoreAt own' w' p r.1 ∧ FrameS (fun k => k < w.heap.size ∧ own k = none ∧ k ≠ E) w w' ∧ own.onto own' w.heap.size w'.heap.size ∧ w'.heap[E]? = some (.cells #[.int .i64 r.2] 27 (0, 0))

set_option maxRecDepth 100000 in
set_option maxHeartbeats 2000000 in
theorem do_any2 {k : FuncId} {lb : Array Value} {own : Owns} {w : World} {p E : Nat} {S : StP} {n : Int} {r : StP × Int} (hst : StoreAt own w p S) (he : w.heap[E]? = some (.cells #[.int .i64 n] 27 (0, 0))) (hE : own E = none)
    (hc : n = 0 → Calls Tryz.prog k lb w fun e w' => Left own w p r e w') (ek : ∀ args w, (callFunc k args).run Tryz.prog w = .ok (.enter k args) w) :
    Calls Tryz.prog 92 #[.func (.func k) #[] lb, ptr E] w fun e w' => e = .returned (.tuple #[]) ∧ DoP own w p E (andS (S, n) fun _ => r) w' := by
  have c0 := cell_blk he 0 _ rfl
  by_cases hn : n = 0
  · subst hn
    have C := hc rfl
    have HH := Lib.hid (And.intro hst (And.intro he hE))
    clear hc he hE hst
    rw [andS_ok]
    go_enter Tryz.func92, Tryz.ntmps92
    go_wp2_with fail
    refine C.mono ?_
    clear C
    rintro e w1 ⟨rfl, own1, h1, t1⟩
    have hlt : E < w.heap.size := lt_of_block HH.out.2.1
    have he1 := (t1.frame.keep E ⟨hlt, by rw [HH.out.2.2]; exact fun h => h rfl⟩).2.trans HH.out.2.1
    have hE1 : own1 E = none := by rw [t1.ow.old E hlt]; exact HH.out.2.2
    have c1 := cell_blk he1 0 _ rfl
    have f1 := free_blk he1 0
    have h2 := h1.keep (w' := w1.setCell ⟨E, 0, none⟩ (.int .i64 r.2)) (FrameS.setCell (FrameS.refl h1.lt) (fun hk => hk hE1) _)
    have he2 := Go.heap_setCell_same w1 E 0 _ _ (.int .i64 r.2) he1
    have hf2 : FrameS (fun k => k < w.heap.size ∧ own k = none ∧ k ≠ E) w (w1.setCell ⟨E, 0, none⟩ (.int .i64 r.2)) := (t1.frame.sub (fun k hk => ⟨hk.1, by rw [hk.2.1]; exact fun h => h rfl⟩)).setCell (fun hk => hk.2.2 rfl) _
    have ho2 : own.onto own1 w.heap.size (w1.setCell ⟨E, 0, none⟩ (.int .i64 r.2)).heap.size := by
      have e : (w1.setCell ⟨E, 0, none⟩ (.int .i64 r.2)).heap.size = w1.heap.size := by simp [World.setCell]
      rw [e]; exact t1.ow
    have H2 := Lib.hid (And.intro h2 (And.intro hf2 (And.intro ho2 he2)))
    clear h1 t1 he1 hE1 h2 hf2 ho2 he2 hlt c0
    go_wp2_with fail
    refine bodyPost_end (results_none rfl _ _ _) rfl ?_
    exact ⟨rfl, own1, H2.out.1, H2.out.2.1, H2.out.2.2.1, H2.out.2.2.2⟩
  · have t0 : (n == 0) = false := by rw [beq_eq_false_iff_ne]; exact hn
    rw [andS_no _ hn]
    have HH := Lib.hid (And.intro hst he)
    clear hc he hE hst
    go_enter Tryz.func92, Tryz.ntmps92
    go_wp2_with fail
    refine bodyPost_end (results_none rfl _ _ _) rfl ?_
    exact ⟨rfl, own, HH.out.1, FrameS.refl (fun k hk => hk.1), Owns.onto.refl HH.out.1.lt, HH.out.2⟩

section
variable {own : Owns} {w : World} {p Z : Nat} {S : StP}
set_option maxRecDepth 100000 in
theorem layWrite_any (h : StoreAt own w p S) (ok : OkS Z S) (hZ : Z ≤ 100000000) {X XT XB : Nat} {tmp : Bytes} (ht : tmp.length ≤ 100000) {ab : Option Addr} {nb cb : Nat} {b : Bytes} (c0 : w.cell? ⟨X, 0, none⟩ = some (ptr p)) (ct : w.cell? ⟨XT, 0, none⟩ = some (.string (strOf tmp))) (cbb : w.cell? ⟨XB, 0, none⟩ = some (.slice ab nb cb))
    (hb : Sl w ab cb b) (hn : nb = b.length) (hbl : nb ≤ 1000000000) (hbo : b ≠ [] → ∀ x, ab = some x → own x.block = none) :
    Calls Tryz.prog 93 #[ptr X, ptr XT, ptr XB] w fun e w' => Left own w p (writeS S tmp 0 b) e w' := by
  have C := write_at2 h ok hZ tmp ht 0 ⟨by decide, by decide⟩ hb hn hbl hbo
  clear h ok hb hn hbl hbo
  generalize strOf tmp = T at *
  go_enter Tryz.func93, Tryz.ntmps93
  go_wp2_with fail
  refine C.mono ?_
  rintro e w1 ⟨rfl, hl⟩
  have HL := Lib.hid hl
  clear C c0 ct cbb hl
  go_wp2_with fail
  go_ret
  exact ⟨rfl, HL.out⟩
set_option maxRecDepth 100000 in
theorem layCut_any (h : StoreAt own w p S) (ok : OkS Z S) (hZ : Z ≤ 100000000) {X XT XB : Nat} {tmp : Bytes} (ht : tmp.length ≤ 100000) {ab : Option Addr} {nb cb : Nat} (c0 : w.cell? ⟨X, 0, none⟩ = some (ptr p)) (ct : w.cell? ⟨XT, 0, none⟩ = some (.string (strOf tmp))) (cbb : w.cell? ⟨XB, 0, none⟩ = some (.slice ab nb cb)) (hbl : nb ≤ 1000000000) :
    Calls Tryz.prog 94 #[ptr X, ptr XT, ptr XB] w fun e w' => Left own w p (cutS S tmp (nb : Int)) e w' := by
  have C := cut_at h ok hZ tmp ht (nb : Int) ⟨by omega, by omega⟩
  clear h ok
  generalize strOf tmp = T at *
  go_enter Tryz.func94, Tryz.ntmps94
  go_wp2_with fail
  refine C.mono ?_
  rintro e w1 ⟨rfl, hl⟩
  have HL := Lib.hid hl
  clear C c0 ct cbb hl
  go_wp2_with fail
  go_ret
  exact ⟨rfl, HL.out⟩
set_option maxRecDepth 100000 in
theorem laySync_any (h : StoreAt own w p S) (ok : OkS Z S) {X XT : Nat} {tmp : Bytes} (ht : tmp.length ≤ 100000) (c0 : w.cell? ⟨X, 0, none⟩ = some (ptr p)) (ct : w.cell? ⟨XT, 0, none⟩ = some (.string (strOf tmp))) :
    Calls Tryz.prog 96 #[ptr X, ptr XT] w fun e w' => Left own w p (syncS S tmp) e w' := by
  have C := sync_at h ok tmp ht
  clear h ok
  generalize strOf tmp = T at *
  go_enter Tryz.func96, Tryz.ntmps96
  go_wp2_with fail
  refine C.mono ?_
  rintro e w1 ⟨rfl, hl⟩
  have HL := Lib.hid hl
  clear C c0 ct hl
  go_wp2_with fail
  go_ret
  exact ⟨rfl, HL.out⟩
set_option maxRecDepth 100000 in
theorem layRename_any (h : StoreAt own w p S) (ok : OkS Z S) (hZ : Z ≤ 100000000) {X XT XN : Nat} {tmp f name : Bytes} (ht : tmp.length ≤ 100000) (hf : f.length ≤ 10000) (hnm : name.length ≤ 10000) (c0 : w.cell? ⟨X, 0, none⟩ = some (ptr p)) (c1 : w.cell? ⟨X, 1, none⟩ = some (.string (strOf f))) (ct : w.cell? ⟨XT, 0, none⟩ = some (.string (strOf tmp))) (cn : w.cell? ⟨XN, 0, none⟩ = some (.string (strOf name))) :
    Calls Tryz.prog 98 #[ptr X, ptr XT, ptr XN] w fun e w' => Left own w p (renameS S tmp (f ++ name)) e w' := by
  have C := rename_at h ok hZ tmp (f ++ name) ht (by rw [List.length_append]; omega)
  have A := fun W => str_add f name (by omega) (by omega) W
  clear h ok
  generalize strOf tmp = T at *
  generalize strOf (f ++ name) = FN at *
  generalize strOf name = NM at *
  generalize strOf f = F at *
  go_enter Tryz.func98, Tryz.ntmps98
  go_wp2_with fail
  refine C.mono ?_
  rintro e w1 ⟨rfl, hl⟩
  have HL := Lib.hid hl
  clear C c0 c1 ct cn hl A
  go_wp2_with fail
  go_ret
  exact ⟨rfl, HL.out⟩
end
end Go.Proofs.YtponfkfeflnilaaGreatDoor
namespace Go.Proofs.YtponfkfeflnilaaGreatDoor
open Go.RowKit Go.Mix Go.WideMaps Go.Maps

theorem andS_assoc (r : StP × Int) (f g : StP → StP × Int) : andS (andS r f) g = andS r fun S => andS (f S) g := by
  unfold andS
  by_cases h : r.2 = 0
  · rw [if_pos h, if_pos h]
  · rw [if_neg h, if_neg h, if_neg h]
theorem layS_eq (S : StP) (f name b : Bytes) : layS S f name b = andS (andS (andS (andS (S, 0) fun S => writeS S (f ++ tmpT) 0 b) fun S => cutS S (f ++ tmpT) b.length) fun S => syncS S (f ++ tmpT)) fun S => renameS S (f ++ tmpT) (f ++ name) := by
  rw [andS_assoc, andS_assoc, andS_ok]
  unfold layS
  congr 1

structure LayAt (own : Owns) (w : World) (p E : Nat) (Keeps : Nat → Obj → Prop) (ab : Option Addr) (cb : Nat) (b : Bytes) (r : StP × Int) (own1 : Owns) (w1 : World) : Prop where
  st : StoreAt own1 w1 p r.1
  tn : Turn Any own own1 w w1
  e : w1.heap[E]? = some (.cells #[.int .i64 r.2] 27 (0, 0))
  eo : own1 E = none
  far : w.heap.size ≤ E
  keep : ∀ k o, Keeps k o → w1.heap[k]? = some o ∧ own1 k = none ∧ k ≠ E
  sl : Sl w1 ab cb b
  bo : b ≠ [] → ∀ x, ab = some x → own1 x.block = none ∧ x.block ≠ E
theorem LayAt.next {own own1 : Owns} {w w1 w2 : World} {p E : Nat} {Keeps : Nat → Obj → Prop} {ab : Option Addr} {cb : Nat} {b : Bytes} {r r' : StP × Int} (L : LayAt own w p E Keeps ab cb b r own1 w1) (d : DoP own1 w1 p E r' w2) : ∃ own2, LayAt own w p E Keeps ab cb b r' own2 w2 := by
  obtain ⟨own2, h1, h2, h3, h4⟩ := d
  have hlE : E < w1.heap.size := lt_of_block L.e
  have key : ∀ k, k < w1.heap.size → own1 k = none → k ≠ E → w2.heap[k]? = w1.heap[k]? ∧ own2 k = none := fun k hk ho hne => ⟨(h2.keep k ⟨hk, ho, hne⟩).2, (h3.old k hk).trans ho⟩
  refine ⟨own2, h1, ⟨L.tn.frame.trans (h2.sub fun k hk => ?_), L.tn.ow.trans h3 L.tn.frame.size⟩, h4, (h3.old E hlE).trans L.eo, L.far, fun k o ho => ?_, ?_, fun hb x hx => ?_⟩
  · have hn : own k = none := by cases hq : own k with | none => rfl | some t => exact absurd (by rw [hq]; simp) hk.2
    refine ⟨Nat.lt_of_lt_of_le hk.1 L.tn.frame.size, by rw [L.tn.ow.old k hk.1]; exact hn, fun e => ?_⟩
    have := L.far
    have := hk.1
    omega
  · obtain ⟨q1, q2, q3⟩ := L.keep k o ho
    obtain ⟨q4, q5⟩ := key k (lt_of_block q1) q2 q3
    exact ⟨q4.trans q1, q5, q3⟩
  · by_cases hb : b = []
    · subst hb; exact ⟨.inl rfl, L.sl.le, L.sl.max, L.sl.non⟩
    · exact sl_same L.sl fun x hx => (key x.block (L.sl.blk hb x hx) (L.bo hb x hx).1 (L.bo hb x hx).2).1
  · obtain ⟨q1, q2⟩ := L.bo hb x hx
    exact ⟨(key x.block (L.sl.blk hb x hx) q1 q2).2, q2⟩
theorem blk_alloc {w : World} {k : Nat} {o : Obj} (h : w.heap[k]? = some o) (x : Obj) : (w.alloc x).heap[k]? = some o :=
  (((Below.refl w.heap.size w).alloc (Nat.le_refl _) x).block k (lt_of_block h)).trans h

set_option maxRecDepth 100000 in
set_option maxHeartbeats 8000000 in
theorem lay_any {own : Owns} {w : World} {p Z : Nat} {S : StP} (h : StoreAt own w p S) (ok : OkS Z S) (hZ : Z ≤ 1000000) {f name : Bytes} (hf : f.length ≤ 1001) (hnm : name.length ≤ 1000) {ab : Option Addr} {cb : Nat} {b : Bytes} (hb : Sl w ab cb b) (hbl : b.length ≤ 1000000) (hbo : b ≠ [] → ∀ x, ab = some x → own x.block = none) :
    Calls Tryz.prog 60 #[.agg (placeA p f), .string (strOf name), .slice ab b.length cb] w fun e w' => Left own w p (layS S f name b) e w' := by
  obtain ⟨nb, hnb⟩ : ∃ n, n = b.length := ⟨_, rfl⟩
  rw [← hnb] at hbl ⊢
  obtain ⟨w3, hw3⟩ : ∃ w3, w3 = ((w.alloc (.cells (placeA p f) 106)).alloc (.cells #[.string (strOf name)] 9)).alloc (.cells #[.slice ab nb cb] 24) := ⟨_, rfl⟩
  have s1 : (w.alloc (.cells (placeA p f) 106)).heap.size = w.heap.size + 1 := by simp
  have s2 : ((w.alloc (.cells (placeA p f) 106)).alloc (.cells #[.string (strOf name)] 9)).heap.size = w.heap.size + 2 := by simp
  have s3 : w3.heap.size = w.heap.size + 3 := by rw [hw3]; simp
  have b0 : w3.heap[w.heap.size]? = some (.cells (placeA p f) 106 (0, 0)) := by rw [hw3]; exact blk_alloc (blk_alloc (heap_alloc_last _ _ _ rfl) _) _
  have b1 : w3.heap[w.heap.size + 1]? = some (.cells #[.string (strOf name)] 9 (0, 0)) := by rw [hw3]; exact blk_alloc (heap_alloc_last _ _ _ s1.symm) _
  have b2 : w3.heap[w.heap.size + 2]? = some (.cells #[.slice ab nb cb] 24 (0, 0)) := by rw [hw3]; exact heap_alloc_last _ _ _ s2.symm
  have g3 : Below w.heap.size w w3 := by rw [hw3]; exact (((Below.refl _ _).alloc (Nat.le_refl _) _).alloc (by omega) _).alloc (by omega) _
  obtain ⟨T, hT⟩ : ∃ T, T = f ++ tmpT := ⟨_, rfl⟩
  have hTl : T.length ≤ 2000 := by rw [hT, List.length_append]; show f.length + 3 ≤ _; omega
  have A1 := fun W => str_add f tmpT (by omega) (by decide) W
  rw [show strOf tmpT = ⟨#[116, 109, 112]⟩ from rfl, ← hT] at A1
  obtain ⟨w4, hw4⟩ : ∃ w4, w4 = w3.alloc (.cells #[.string (strOf T)] 9) := ⟨_, rfl⟩
  have b3 : w4.heap[w3.heap.size]? = some (.cells #[.string (strOf T)] 9 (0, 0)) := by rw [hw4]; exact heap_alloc_last _ _ _ rfl
  have g4 : Below w3.heap.size w3 w4 := by rw [hw4]; exact (Below.refl _ _).alloc (Nat.le_refl _) _
  have s4 : w4.heap.size = w3.heap.size + 1 := by rw [hw4]; simp
  obtain ⟨w5, hw5⟩ : ∃ w5, w5 = w4.alloc (.cells #[.int .i64 0] 27) := ⟨_, rfl⟩
  have g5 : Below w4.heap.size w4 w5 := by rw [hw5]; exact (Below.refl _ _).alloc (Nat.le_refl _) _
  have b4 : w5.heap[(w3.heap.size + 1)]? = some (.cells #[.int .i64 0] 27 (0, 0)) := by rw [hw5]; exact heap_alloc_last _ _ _ s4.symm
  have g35 := g4.trans (g5.mono g4.size)
  have gAll := g3.trans (g35.mono g3.size)
  have hnew : ∀ k, w.heap.size ≤ k → own k = none := fun k hk => h.none_new hk
  obtain ⟨Keeps, hK⟩ : ∃ Keeps : Nat → Obj → Prop, Keeps = fun k o => (k = w.heap.size ∧ o = .cells (placeA p f) 106 (0, 0)) ∨ (k = w.heap.size + 1 ∧ o = .cells #[.string (strOf name)] 9 (0, 0)) ∨ (k = w.heap.size + 2 ∧ o = .cells #[.slice ab nb cb] 24 (0, 0)) ∨ (k = w3.heap.size ∧ o = .cells #[.string (strOf T)] 9 (0, 0)) := ⟨_, rfl⟩
  have L0 : LayAt own w p ((w3.heap.size + 1)) Keeps ab cb b (S, 0) own w5 := by
    refine ⟨h.below gAll, Turn.below gAll h.lt, b4, hnew _ (by omega), by omega, fun k o hk => ?_, hb.below gAll, fun hb0 x hx => ⟨hbo hb0 x hx, fun e => ?_⟩⟩
    · rw [hK] at hk
      rcases hk with ⟨rfl, rfl⟩ | ⟨rfl, rfl⟩ | ⟨rfl, rfl⟩ | ⟨rfl, rfl⟩
      · exact ⟨(g35.block _ (by omega)).trans b0, hnew _ (Nat.le_refl _), by omega⟩
      · exact ⟨(g35.block _ (by omega)).trans b1, hnew _ (by omega), by omega⟩
      · exact ⟨(g35.block _ (by omega)).trans b2, hnew _ (by omega), by omega⟩
      · exact ⟨(g5.block _ (by omega)).trans b3, hnew _ (by omega), by omega⟩
    · have := hb.blk hb0 x hx; omega
  have K0 : Keeps w.heap.size (.cells (placeA p f) 106 (0, 0)) := by rw [hK]; exact .inl ⟨rfl, rfl⟩
  have K1 : Keeps (w.heap.size + 1) (.cells #[.string (strOf name)] 9 (0, 0)) := by rw [hK]; exact .inr (.inl ⟨rfl, rfl⟩)
  have K2 : Keeps (w.heap.size + 2) (.cells #[.slice ab nb cb] 24 (0, 0)) := by rw [hK]; exact .inr (.inr (.inl ⟨rfl, rfl⟩))
  have K3 : Keeps (w3.heap.size) (.cells #[.string (strOf T)] 9 (0, 0)) := by rw [hK]; exact .inr (.inr (.inr ⟨rfl, rfl⟩))
  have zE : ∀ w, (zeroValue 27).run Tryz.prog w = .ok (.int .i64 0) w := fun w => by kernel_rfl
  have c1 : w3.cell? ⟨w.heap.size, 1, none⟩ = some (.string (strOf f)) := by rw [cell_of_row _ _ _ _ _ _ b0]; rfl
  have HL := Lib.hid (And.intro L0 (And.intro K0 (And.intro K1 (And.intro K2 K3))))
  have HO := Lib.hid (And.intro ok (And.intro hZ (And.intro hf (And.intro hnm (And.intro hnb (And.intro hbl (And.intro hT hTl)))))))
  have HW := Lib.hid (And.intro hw3 (And.intro hw4 (And.intro hw5 s3)))
  clear L0 K0 K1 K2 K3 ok hZ hf hnm hnb hbl hT hTl hb hbo h b0 b1 b2 b3 b4 g3 g4 g5 g35 gAll hnew hK s1 s2 s3 s4 hw3 hw4 hw5
  go_enter Tryz.func60, Tryz.ntmps60
  go_upto_region 1 with (fail)
  rw [show w.heap.size + 1 + 1 = w.heap.size + 2 from rfl, ← HW.out.1]
  go_upto_region 3 with (fail)
  rw [← HW.out.2.1, ← HW.out.2.2.1]
  obtain ⟨X, hX⟩ : ∃ X, X = w.heap.size := ⟨_, rfl⟩
  obtain ⟨XT, hXT⟩ : ∃ X, X = w3.heap.size := ⟨_, rfl⟩
  obtain ⟨E, hE⟩ : ∃ X, X = XT + 1 := ⟨_, rfl⟩
  have HL1 := HL.out
  rw [← hX, ← hXT, ← hE] at HL1
  rw [← hX, ← hXT, ← hE]
  have HL2 := Lib.hid HL1
  clear HL HL1 HW c1 A1 hXT hE hX
  have ent2 : ∀ args w, (callFunc 93 args).run Tryz.prog w = .ok (.enter 93 args) w := enters_of Tryz.func93 (by kernel_rfl) rfl
  have ent3 : ∀ args w, (callFunc 94 args).run Tryz.prog w = .ok (.enter 94 args) w := enters_of Tryz.func94 (by kernel_rfl) rfl
  have ent4 : ∀ args w, (callFunc 96 args).run Tryz.prog w = .ok (.enter 96 args) w := enters_of Tryz.func96 (by kernel_rfl) rfl
  have ent5 : ∀ args w, (callFunc 98 args).run Tryz.prog w = .ok (.enter 98 args) w := enters_of Tryz.func98 (by kernel_rfl) rfl
  have HEN := Lib.hid (And.intro ent2 (And.intro ent3 (And.intro ent4 ent5)))
  clear ent2 ent3 ent4 ent5
  obtain ⟨own0, hown0⟩ : ∃ o, o = own := ⟨_, rfl⟩
  have HLz : Hid (LayAt own w p E Keeps ab cb b (S, 0) own0 w5) := Lib.hid (by rw [hown0]; exact HL2.out.1)
  have okW := HO.out.1.write T 0 b
  obtain ⟨r1, hr1⟩ : ∃ r, r = writeS S T 0 b := ⟨_, rfl⟩
  obtain ⟨r2, hr2⟩ : ∃ r, r = andS r1 fun S => cutS S T (nb : Int) := ⟨_, rfl⟩
  obtain ⟨r3, hr3⟩ : ∃ r, r = andS r2 fun S => syncS S T := ⟨_, rfl⟩
  obtain ⟨r4, hr4⟩ : ∃ r, r = andS r3 fun S => renameS S T (f ++ name) := ⟨_, rfl⟩
  rw [← hr1] at okW
  have ok2 : OkS (Z + b.length + 2) r2.1 := by rw [hr2]; exact and_step (P := OkS (Z + b.length + 1)) okW (fun S1 h1 => h1.cut _ _) (fun S1 h1 => h1.mono (by omega))
  have ok3 : OkS (Z + b.length + 2) r3.1 := by rw [hr3]; exact and_step (P := OkS (Z + b.length + 2)) ok2 (fun S1 h1 => h1.sync _) (fun S1 h1 => h1)
  have hlay : layS S f name b = r4 := by rw [layS_eq, andS_ok, ← HO.out.2.2.2.2.2.2.1, ← hr1, ← HO.out.2.2.2.2.1, ← hr2, ← hr3, ← hr4]
  have HK := Lib.hid (And.intro okW (And.intro ok2 (And.intro ok3 (And.intro hlay (And.intro hr1 (And.intro hr2 (And.intro hr3 hr4)))))))
  have hnbl : nb ≤ 1000000 := HO.out.2.2.2.2.2.1
  have hz6 : Z + b.length + 2 ≤ 100000000 := by have := HO.out; omega
  clear okW ok2 ok3 hlay hown0 hr1 hr2 hr3 hr4
  -- step 1
  have D1 : Calls Tryz.prog 92 #[.func (.func 93) #[] #[ptr X, ptr XT, ptr (X + 2)], ptr E] w5 fun e w' => e = .returned (.tuple #[]) ∧ DoP own0 w5 p E (andS (S, 0) fun _ => writeS S T 0 b) w' := by
    have L := HLz.out
    have c0 := cell_blk (L.keep X _ HL2.out.2.1).1 0 (ptr p) rfl
    have c1 := cell_blk (L.keep X _ HL2.out.2.1).1 1 (.string (strOf f)) rfl
    have cn := cell_blk (L.keep (X + 1) _ HL2.out.2.2.1).1 0 (.string (strOf name)) rfl
    have cbb := cell_blk (L.keep (X + 2) _ HL2.out.2.2.2.1).1 0 (.slice ab nb cb) rfl
    have ct := cell_blk (L.keep XT _ HL2.out.2.2.2.2).1 0 (.string (strOf T)) rfl
    exact do_any2 L.st L.e L.eo (fun _ => layWrite_any L.st HO.out.1 (by have := HO.out.2.1; omega) (by have := HO.out.2.2.2.2.2.2.2; omega) c0 ct cbb L.sl HO.out.2.2.2.2.1 (by omega) (fun hb x hx => (L.bo hb x hx).1)) HEN.out.1
  go_wp2_with fail
  refine D1.mono ?_
  clear D1
  rintro e w6 ⟨rfl, hd1⟩
  obtain ⟨own1, hL1⟩ := HLz.out.next hd1
  rw [andS_ok, ← HK.out.2.2.2.2.1] at hL1
  have HL1 := Lib.hid hL1
  clear hd1 hL1
  -- step 2
  have D2 : Calls Tryz.prog 92 #[.func (.func 94) #[] #[ptr X, ptr XT, ptr (X + 2)], ptr E] w6 fun e w' => e = .returned (.tuple #[]) ∧ DoP own1 w6 p E (andS (r1.1, r1.2) fun _ => cutS r1.1 T (nb : Int)) w' := by
    have L := HL1.out
    have c0 := cell_blk (L.keep X _ HL2.out.2.1).1 0 (ptr p) rfl
    have c1 := cell_blk (L.keep X _ HL2.out.2.1).1 1 (.string (strOf f)) rfl
    have cn := cell_blk (L.keep (X + 1) _ HL2.out.2.2.1).1 0 (.string (strOf name)) rfl
    have cbb := cell_blk (L.keep (X + 2) _ HL2.out.2.2.2.1).1 0 (.slice ab nb cb) rfl
    have ct := cell_blk (L.keep XT _ HL2.out.2.2.2.2).1 0 (.string (strOf T)) rfl
    exact do_any2 L.st L.e L.eo (fun _ => layCut_any L.st HK.out.1 (by omega) (by have := HO.out.2.2.2.2.2.2.2; omega) c0 ct cbb (by omega)) HEN.out.2.1
  go_wp2_with fail
  refine D2.mono ?_
  clear D2
  rintro e w7 ⟨rfl, hd2⟩
  obtain ⟨own2, hL2⟩ := HL1.out.next hd2
  rw [show (andS (r1.1, r1.2) fun _ => cutS r1.1 T (nb : Int)) = r2 from HK.out.2.2.2.2.2.1.symm] at hL2
  have HM2 := Lib.hid hL2
  clear hd2 hL2
  -- step 3
  have D3 : Calls Tryz.prog 92 #[.func (.func 96) #[] #[ptr X, ptr XT], ptr E] w7 fun e w' => e = .returned (.tuple #[]) ∧ DoP own2 w7 p E (andS (r2.1, r2.2) fun _ => syncS r2.1 T) w' := by
    have L := HM2.out
    have c0 := cell_blk (L.keep X _ HL2.out.2.1).1 0 (ptr p) rfl
    have c1 := cell_blk (L.keep X _ HL2.out.2.1).1 1 (.string (strOf f)) rfl
    have cn := cell_blk (L.keep (X + 1) _ HL2.out.2.2.1).1 0 (.string (strOf name)) rfl
    have cbb := cell_blk (L.keep (X + 2) _ HL2.out.2.2.2.1).1 0 (.slice ab nb cb) rfl
    have ct := cell_blk (L.keep XT _ HL2.out.2.2.2.2).1 0 (.string (strOf T)) rfl
    exact do_any2 L.st L.e L.eo (fun _ => laySync_any L.st HK.out.2.1 (by have := HO.out.2.2.2.2.2.2.2; omega) c0 ct) HEN.out.2.2.1
  go_wp2_with fail
  refine D3.mono ?_
  clear D3
  rintro e w8 ⟨rfl, hd3⟩
  obtain ⟨own3, hL3⟩ := HM2.out.next hd3
  rw [show (andS (r2.1, r2.2) fun _ => syncS r2.1 T) = r3 from HK.out.2.2.2.2.2.2.1.symm] at hL3
  have HL3 := Lib.hid hL3
  clear hd3 hL3
  -- step 4
  have D4 : Calls Tryz.prog 92 #[.func (.func 98) #[] #[ptr X, ptr XT, ptr (X + 1)], ptr E] w8 fun e w' => e = .returned (.tuple #[]) ∧ DoP own3 w8 p E (andS (r3.1, r3.2) fun _ => renameS r3.1 T (f ++ name)) w' := by
    have L := HL3.out
    have c0 := cell_blk (L.keep X _ HL2.out.2.1).1 0 (ptr p) rfl
    have c1 := cell_blk (L.keep X _ HL2.out.2.1).1 1 (.string (strOf f)) rfl
    have cn := cell_blk (L.keep (X + 1) _ HL2.out.2.2.1).1 0 (.string (strOf name)) rfl
    have cbb := cell_blk (L.keep (X + 2) _ HL2.out.2.2.2.1).1 0 (.slice ab nb cb) rfl
    have ct := cell_blk (L.keep XT _ HL2.out.2.2.2.2).1 0 (.string (strOf T)) rfl
    exact do_any2 L.st L.e L.eo (fun _ => layRename_any L.st HK.out.2.2.1 hz6 (by have := HO.out.2.2.2.2.2.2.2; omega) (by have := HO.out.2.2.1; omega) (by have := HO.out.2.2.2.1; omega) c0 c1 ct cn) HEN.out.2.2.2
  go_wp2_with fail
  refine D4.mono ?_
  clear D4
  rintro e w9 ⟨rfl, hd4⟩
  obtain ⟨own4, hL4⟩ := HL3.out.next hd4
  rw [show (andS (r3.1, r3.2) fun _ => renameS r3.1 T (f ++ name)) = r4 from HK.out.2.2.2.2.2.2.2.symm] at hL4
  have HL4 := Lib.hid hL4
  clear hd4 hL4
  have ce := cell_blk HL4.out.e 0 _ rfl
  go_wp2_with fail
  go_ret
  rw [HK.out.2.2.2.1]
  exact ⟨rfl, own4, HL4.out.st, HL4.out.tn⟩
end Go.Proofs.YtponfkfeflnilaaGreatDoor
namespace Go.Proofs.YtponfkfeflnilaaGreatDoor
open Go.RowKit Go.Mix Go.WideMaps Go.Maps

/-- Is a name within a ref's, or the other way round? -/
def clashP (L : Refs) (name : Bytes) : Bool := L.any fun r => underF name r.name || underF r.name name
noncomputable def setK (S : StP) (f name : Bytes) (id : Id20) : StP × Int :=
  if rightN name then (match allK S f with
    | none => (S, 4)
    | some L => if clashP L name then (S, 9) else layS S f name (hexL id.1 ++ [10]))
  else (S, 1)
theorem Left.before {own : Owns} {w w1 w' : World} {p : Nat} {r : StP × Int} {e : Ending} (g : Below w.heap.size w w1) (hlt : ∀ k, own k ≠ none → k < w.heap.size) (h : Left own w1 p r e w') : Left own w p r e w' := by
  obtain ⟨e1, own', h1, h2⟩ := h
  exact ⟨e1, own', h1, (Turn.below (T := Any) g hlt).trans h2⟩
theorem Left.after {own : Owns} {w w1 w' : World} {p : Nat} {r : StP × Int} {e : Ending} (h : Left own w p r e w1) (g : Below w1.heap.size w1 w') : Left own w p r e w' := by
  obtain ⟨e1, own', h1, h2⟩ := h
  exact ⟨e1, own', h1.below g, h2.trans (Turn.below (T := Any) g h1.lt)⟩
theorem Left.stay {own : Owns} {w w' : World} {p : Nat} {S : StP} {n : Int} (h : StoreAt own w p S) (g : Below w.heap.size w w') : Left own w p (S, n) (.returned (.int .i64 n)) w' := ⟨rfl, own, h.below g, Turn.below (T := Any) g h.lt⟩

theorem next_keyI {w : World} {ops : Array Oper} {rest : List Oper} {o : Oper} {a : Act} {Q : Exit → Act → World → Prop} (hg : o.guard = none) (it : Operand) (hop : o.op = Op.next it false) (b r n : Nat) (D : DataW Unit) (left : Lit → Bool) (cnt : Nat)
    (hit : a.eval it = .pointer (some ⟨r, 0, none⟩)) (h : w.ranges Tryz.prog 9 idR b r n D left cnt)
    (hDone : (∀ kl, left kl = false) → wpList Tryz.prog ops Q rest (a.put o.dst (.tuple #[.bool false])) w)
    (hMore : ∀ (x : Bytes) (v : Value) (w' : World) (cnt' : Nat), left (.string x) = true → Maps.has D (.string x) = true → w'.ranges Tryz.prog 9 idR b r n D (fun z => left z && !z.sameKey (.string x)) cnt' → cnt' < cnt →
      w.grownBy w' (some r) → (Instr.entry (.pointer (some ⟨r, 0, none⟩))).run Tryz.prog w' = .ok (.tuple #[.string (strOf x), v]) w' → wpList Tryz.prog ops Q rest (a.put o.dst (.tuple #[.bool true, .string (strOf x), v])) w') :
    wpList Tryz.prog ops Q (o :: rest) a w :=
  wpList_next_ranges w hg it hop 9 keyed idR (fun x : Bytes => .string (strOf x)) (fun v : Value => v)
    (fun key kl hkey => by obtain ⟨x, rfl, _, _⟩ := Maps.keyOf_str Tryz.underlying9 hkey; exact ⟨x, rfl⟩) (fun v _ _ => ⟨v, rfl⟩) b r n D left cnt hit h (fun _ hl => hDone hl)
    (fun x c kl y w' cnt' hkey hlk _ hat hrg hlt hgr _ hen => by
      obtain ⟨x', ex, rfl, _⟩ := Maps.keyOf_str Tryz.underlying9 hkey
      have e : x = x' := strOf_inj (by injection ex)
      subst e
      exact hMore x c w' cnt' hlk (has_true_of_atKey hat) hrg hlt hgr hen)

set_option maxRecDepth 100000 in
set_option maxHeartbeats 8000000 in
theorem Set_any {own : Owns} {w : World} {p Z : Nat} {S : StP} {front : Bytes} (h : StoreAt own w p S) (hr : RefsIn Z S (frontL front)) (hm : MaxIs w) (hf : front.length ≤ 1000) (name : Bytes) (hn : name.length ≤ 1000000) (id : Id20) :
    Calls Tryz.prog 23 #[ptr p, .string (strOf front), .string (strOf name), .agg (idA id)] w fun e w' => Left own w p (setK S (frontL front) name id) e w' := by
  have r1 : ResId w w.heap.size (idA id) (w.alloc (.cells (idA id) 42)) := ⟨heap_alloc_last _ _ _ rfl, (Below.refl _ _).alloc (Nat.le_refl _) _⟩
  obtain ⟨fl, hfl⟩ : ∃ f, f = frontL front := ⟨_, rfl⟩
  have hfll : fl.length ≤ 1001 := by rw [hfl]; unfold frontL; split <;> simp <;> omega
  have hsk : setK S fl name id = if rightN name then (match allK S fl with | none => (S, (4 : Int)) | some L => if clashP L name then (S, 9) else layS S fl name (hexL id.1 ++ [10])) else (S, 1) := rfl
  rw [← hfl] at hr ⊢
  obtain ⟨SK, hSK⟩ : ∃ G, G = setK S fl name id := ⟨_, rfl⟩
  rw [← hSK] at hsk ⊢
  have C0 := rightN_any name hn (w.alloc (.cells (idA id) 42)) (hm.below r1.fr)
  obtain ⟨R0, hR0⟩ : ∃ R, R = rightN name := ⟨_, rfl⟩
  rw [← hR0] at C0 hsk
  obtain ⟨R, hR⟩ : ∃ R, R = w.heap.size := ⟨_, rfl⟩
  have HH := Lib.hid (And.intro h (And.intro hr (And.intro hm (And.intro hf (And.intro hn hfl)))))
  have HG := Lib.hid (And.intro hsk hR0)
  have H1 := Lib.hid (And.intro r1 trivial)
  obtain ⟨F, hF⟩ : ∃ F, F = strOf front := ⟨_, rfl⟩
  obtain ⟨NM, hNM⟩ : ∃ F, F = strOf name := ⟨_, rfl⟩
  have HF := Lib.hid (And.intro hF hNM)
  rw [← hNM] at C0
  rw [← hF, ← hNM]
  clear h hr hm hf hn hsk r1 hSK hR0 hF hNM hfl
  go_enter Tryz.func23, Tryz.ntmps23
  go_upto_region 1 with (fail)
  rw [← hR] at H1 ⊢
  clear hR
  generalize w.alloc (.cells (idA id) 42) = w1 at *
  go_wp2_with fail
  refine C0.mono ?_
  clear C0
  rintro e w2 ⟨rfl, hb2⟩
  cases R0
  case false =>
    have hg : SK = (S, 1) := by have := HG.out.1; simpa using this
    have HE := Lib.hid (And.intro hg ((H1.out.1.below hb2).fr))
    clear hg hb2
    go_wp2_with fail
    go_ret
    rw [HE.out.1]
    exact Left.stay HH.out.1 HE.out.2
  have C1 := at_any p front (by have := HH.out.2.2.2.1; omega) w2
  rw [← HF.out.1, ← HH.out.2.2.2.2.2] at C1
  have H2 := Lib.hid (H1.out.1.below hb2)
  clear hb2
  have zL : ∀ w, (zeroValue 106).run Tryz.prog w = .ok (.agg #[.pointer none, .string ByteArray.empty]) w := fun w => by kernel_rfl
  go_wp2_with fail
  refine C1.mono ?_
  clear C1
  rintro e w3 ⟨rfl, hb3⟩
  have hzb : (w3.alloc (.cells #[.pointer none, .string ByteArray.empty] 106)).heap[w3.heap.size]? = some (.cells #[.pointer none, .string ByteArray.empty] 106 (0, 0)) := heap_alloc_last _ _ _ rfl
  have zi : (Tryz.prog.info? 106).map (·.size) = some (placeA p fl).size := by kernel_rfl
  have zs : (#[.pointer none, .string ByteArray.empty] : Array Value).size = (placeA p fl).size := rfl
  have z1 : (placeA p fl).all (·.oneCell') = true := all_oneCell_toArray (cs := [ptr p, .string (strOf fl)]) (fun u hu => by
    rcases List.mem_cons.1 hu with rfl | hu
    · rfl
    · rw [List.mem_singleton] at hu; subst hu; rfl)
  have gA : Below w3.heap.size w3 ((w3.alloc (.cells #[.pointer none, .string ByteArray.empty] 106)).setRow w3.heap.size (placeA p fl)) := below_setRow ((Below.refl _ _).alloc (Nat.le_refl _) _) (Nat.le_refl _) _
  have hrw := setRow_heap _ _ _ (placeA p fl) _ _ hzb
  have HA := Lib.hid (And.intro hrw ((H2.out.below hb3).below gA))
  clear gA hrw hb3
  go_upto_region 4 with (refine wpList_store_row rfl 106 _ _ rfl w3.heap.size (placeA p fl) rfl rfl 106 _ hzb zi zs z1 ?_)
  have H3 := HA.out
  obtain ⟨X, hX⟩ : ∃ X, X = w3.heap.size := ⟨_, rfl⟩
  rw [← hX] at H3 ⊢
  clear HA hzb hX
  generalize (w3.alloc (.cells #[.pointer none, .string ByteArray.empty] 106)).setRow X (placeA p fl) = w4 at *
  have L4 := place_load H3.1
  have C2 := all_any (HH.out.1.below H3.2.fr) HH.out.2.1 (HH.out.2.2.1.below H3.2.fr)
  have H4 := Lib.hid H3
  clear H3
  go_wp2_with (first | (refine wpList_load_at rfl _ _ rfl _ _ rfl L4 ?_))
  refine C2.mono ?_
  clear C2 L4
  rintro e w5 hpost
  rcases hpost with ⟨L, hL, M, rfl, hmap, -, hb5⟩ | ⟨hL, rfl, hb5⟩
  case inr =>
    have hg : SK = (S, 4) := by have := HG.out.1; rw [hL] at this; simpa using this
    have HE := Lib.hid (And.intro hg ((H4.out.2.below hb5).fr))
    clear hg hb5 hL
    go_wp2_with fail
    go_ret
    rw [HE.out.1]
    exact Left.stay HH.out.1 HE.out.2
  have hg : SK = if clashP L name then (S, (9 : Int)) else layS S fl name (hexL id.1 ++ [10]) := by have := HG.out.1; rw [hL] at this; simpa using this
  have hnl : name.length ≤ 200 := (right_ten HG.out.2.symm).2
  obtain ⟨D, hown, hmD, hat⟩ := hmap.ex
  have hLs := all_short HH.out.2.1 hL
  have HAT := Lib.hid (And.intro (has_ids hat) hLs)
  have H5 := Lib.hid (And.intro hg (And.intro (H4.out.2.below hb5) (And.intro (blockR_below H4.out.1 hb5) hnl)))
  have A1 := fun W => str_add name [47] (by omega) (by decide) W
  have e47 : strOf [47] = ⟨#[47]⟩ := rfl
  rw [e47, ← HF.out.2] at A1
  clear hg hL hmap hb5 hmD hat hLs
  generalize hnD : Maps.size D = n at hown
  clear hnD
  have hnm2 : name.length ≤ 200 := hnl
  clear hnl
  go_wp2_with (first
    | (at_range; refine wpList_range_own _ rfl _ 108 rfl 9 42 keyed Tryz.underlying108 idR M n D rfl hown ?_; intro w0 hrg0 hg0 hs0)
    | go_in)
  go_frame
  have HG0 := Lib.hid (And.intro hg0 hs0)
  clear hg0 hs0
  go_loopw [12] (fun _ wr => ∃ (left : Lit → Bool) (cnt : Nat), wr.ranges Tryz.prog 9 idR M w5.heap.size n D left cnt ∧ w5.grownBy wr none ∧ (∀ x, left (.string x) = false → Maps.has D (.string x) = true → (underF name x || underF x name) = false))
    (fun _ wr => wr.rangeLeft M w5.heap.size)
  case atStart => exact ⟨_, _, hrg0, HG0.out.1, fun x h1 h2 => by rw [h2] at h1; cases h1⟩
  case round =>
    clear hrg0 HG0 hown
    obtain ⟨left, cnt, hrg, hgw, hno⟩ := hrel
    have HR := Lib.hid (And.intro hgw hno)
    clear hgw hno
    go_wp2_with (first
      | (at_next; refine next_keyI rfl _ rfl M w5.heap.size n D left cnt rfl hrg ?_ ?_)
      | go_in)
    · intro hl0
      have hcl : clashP L name = false := by
        unfold clashP
        rw [List.any_eq_false]
        intro q hq
        have hh : Maps.has D (.string q.name) = true := by
          rw [HAT.out.1, Option.isSome_iff_ne_none, Ne, getP_none]
          exact fun hn => hn q hq rfl
        rw [HR.out.2 q.name (hl0 _) hh]
        simp
      have hg := H5.out.1
      rw [hcl] at hg
      have hg2 : SK = layS S fl name (hexL id.1 ++ [10]) := by simpa using hg
      have gr : Below w5.heap.size w5 wr := ⟨HR.out.1.os, HR.out.1.tape, HR.out.1.output, HR.out.1.size, fun k hk => HR.out.1.block k hk (by simp)⟩
      have r5 := H5.out.2.1.below gr
      have bX := blockR_below H5.out.2.2.1 gr
      have LP : ∀ y : Later wr, (Instr.loadAt 106 (.pointer (some ⟨X, 0, none⟩))).run Tryz.prog y.1 = .ok (.agg (placeA p fl)) y.1 := fun y => place_load (blockR_below bX y.2)
      have LI : ∀ y : Later wr, (Instr.loadAt 42 (.pointer (some ⟨R, 0, none⟩))).run Tryz.prog y.1 = .ok (.agg (idA id)) y.1 := fun y => load_id arrG (by kernel_rfl) id R 0 y.1 (rangeR_below (idBox r5.box) y.2)
      have CX := fun W => hex_any id W
      have hsx : hexS id = strOf (hexL id.1) := rfl
      rw [hsx] at CX
      have hl40 : (hexL id.1).length = 40 := by rw [hexL_len, id.2]
      have A2 := fun W => str_add (hexL id.1) [10] (by omega) (by decide) W
      have e10 : strOf [10] = ⟨#[10]⟩ := rfl
      rw [e10] at A2
      have hbl : (strOf (hexL id.1 ++ [10])).size = 41 := by rw [strOf_size, List.length_append, hl40]; rfl
      have CV := fun W => bytes_made W (strOf (hexL id.1 ++ [10])) (by omega)
      have e41 : (strOf (hexL id.1 ++ [10])).data.toList = hexL id.1 ++ [10] := by simp [strOf]
      rw [e41, hbl] at CV
      have H6 := Lib.hid (And.intro hg2 (And.intro r5.fr hl40))
      clear hl0 hcl hg hg2 gr r5 bX hrg A1 hsx e10 hbl e41 hl40
      generalize strOf (hexL id.1 ++ [10]) = T1 at *
      generalize strOf (hexL id.1) = T2 at *
      go_upto_region 12 with (fail)
      refine wp_region_mg [(0, 0), (1, 0), (2, 0), (3, 0), (4, 0), (5, 1), (6, 2), (7, 0)] (by kernel_rfl) (by kernel_rfl) ?_
      iterate 5 (first | (refine mg_load rfl rfl _ _ rfl _ _ rfl LP ?_) | (refine mg_load rfl rfl _ _ rfl _ _ rfl LI ?_) | (refine mg_calm rfl (fun K hK => ?_); go_simp; apply Exists.intro; refine ⟨fun z => CX z.1, hK _ ?_⟩; clear hK K CX) | (refine mg_calm rfl (fun K hK => ?_); go_simp; (refine hK _ ?_; clear hK K)))
      refine mg_loud rfl rfl (fun w6 hw6 K hK => ?_)
      obtain ⟨cap, w7, hcv, hsl, hb7⟩ := CV w6
      go_wp2_with fail
      refine hK _ _ hb7 ?_
      clear hK K CV
      refine mg_sync rfl rfl (fun w8 hw8 K hK => ?_)
      have hg8 : Below w.heap.size w w8 := by
        exact Grow.trans H6.out.2.1 (Grow.trans hw6 (Grow.trans hb7 hw8))
      have hsz6 : w.heap.size ≤ w6.heap.size := Nat.le_trans H6.out.2.1.size hw6.size
      have hsl8 := hsl.below hw8
      have hst8 := HH.out.1.below hg8
      have hno8 : ∀ x, (some (⟨w6.heap.size, 0, none⟩ : Addr)) = some x → own x.block = none := fun x hx => by cases hx; exact HH.out.1.none_new hsz6
      have C8 := lay_any hst8 HH.out.2.1.ok HH.out.2.1.big (f := fl) (name := name) (by have := HH.out.2.1.front; omega) (by have := H5.out.2.2.2; omega) hsl8 (by rw [List.length_append, H6.out.2.2]; decide) (fun _ => hno8)
      have e8 : (hexL id.1 ++ [10]).length = 41 := by rw [List.length_append, H6.out.2.2]; rfl
      rw [e8, ← HF.out.2] at C8
      clear e8
      have H8 := Lib.hid hg8
      clear hg8 hsz6 hsl8 hst8 hno8 hw8 hb7 hsl hcv hw6 LP LI A2
      go_wp2_with fail
      refine C8.mono ?_
      clear C8
      rintro e w9 hL
      have hL2 := hL.before H8.out HH.out.1.lt
      obtain ⟨rfl, hex⟩ := hL
      have H9 := Lib.hid hL2
      clear hL2 hex
      go_wp2_with fail
      iterate 1 (refine mg_calm rfl (fun K hK => ?_); go_simp; (refine hK _ ?_; clear hK K))
      refine mg_nil fun w10 hw10 => ?_
      have H10 := Lib.hid (H9.out.after hw10)
      clear hw10
      go_wp2_with fail
      go_ret
      rw [H6.out.1]
      exact H10.out
    · intro x v w1' cnt1 hlx hhas hrg1 hlt hg1 hen
      have hgw1 : w5.grownBy w1' none := HR.out.1.andThen hg1 (fun j hj => by cases hj; exact Or.inl (Nat.le_refl _))
      have hstep : (underF name x || underF x name) = false → ∀ y, (left (.string y) && !(Lit.string y).sameKey (.string x)) = false → Maps.has D (.string y) = true → (underF name y || underF y name) = false := fun h0 y h1 h2 => by
        by_cases hy : y = x
        · rw [hy]; exact h0
        · refine HR.out.2 y ?_ h2
          rw [sameKey_ne (fun e => hy (by injection e))] at h1
          simpa using h1
      have hin : ∃ q ∈ L, q.name = x := by
        have h1 := HAT.out.1 x
        rw [hhas] at h1
        obtain ⟨f, hf⟩ := Option.isSome_iff_exists.1 h1.symm
        exact ⟨_, getP_mem hf, rfl⟩
      have hxl : x.length ≤ 255 := by
        obtain ⟨q, hq, rfl⟩ := hin
        have := (HAT.out.2.2.2 q hq).2
        omega
      have hyes : (underF name x || underF x name) = true → clashP L name = true := fun h0 => by
        obtain ⟨q, hq, rfl⟩ := hin
        exact List.any_eq_true.2 ⟨q, hq, h0⟩
      have C1 := fun W => pre_any x (name ++ [47]) W
      have C2 := fun W => pre_any name (x ++ [47]) W
      have A2 := fun W => str_add x [47] (by omega) (by decide) W
      rw [e47] at A2
      have HS := Lib.hid (And.intro hgw1 (And.intro hstep (And.intro hyes (And.intro hrg1 (And.intro hlt hrg)))))
      change ∀ W, Calls _ _ _ W (fun e w' => e = .returned (.bool (underF name x)) ∧ W = w') at C1
      change ∀ W, Calls _ _ _ W (fun e w' => e = .returned (.bool (underF x name)) ∧ W = w') at C2
      rw [← HF.out.2] at C2
      obtain ⟨b1, hb1⟩ : ∃ b, b = underF name x := ⟨_, rfl⟩
      obtain ⟨b2, hb2⟩ : ∃ b, b = underF x name := ⟨_, rfl⟩
      rw [← hb1] at C1
      rw [← hb2] at C2
      have HB := Lib.hid (And.intro hb1 hb2)
      have HW1 := Lib.hid (show Below w5.heap.size w5 w1' from ⟨hgw1.os, hgw1.tape, hgw1.output, hgw1.size, fun k hk => hgw1.block k hk (by simp)⟩)
      clear hgw1 hstep hyes hrg1 hlt hg1 hrg hb1 hb2 hin hxl hhas hlx
      generalize strOf (name ++ [47]) = T1 at *
      generalize strOf (x ++ [47]) = T2 at *
      generalize strOf x = T5 at *
      cases b1
      · cases b2
        · go_wp2_with (first | (go_at_call 59; first | (refine (C1 _).mono ?_; rintro e w' ⟨rfl, rfl⟩) | (refine (C2 _).mono ?_; rintro e w' ⟨rfl, rfl⟩)))
          go_roundw
          case rel => exact ⟨_, cnt1, HS.out.2.2.2.1, HS.out.1, HS.out.2.1 (by rw [← HB.out.1, ← HB.out.2]; rfl)⟩
          case measure => rw [HS.out.2.2.2.1.left_eq, HS.out.2.2.2.2.2.left_eq]; exact HS.out.2.2.2.2.1
        · go_wp2_with (first | (go_at_call 59; first | (refine (C1 _).mono ?_; rintro e w' ⟨rfl, rfl⟩) | (refine (C2 _).mono ?_; rintro e w' ⟨rfl, rfl⟩)))
          go_ret
          rw [H5.out.1, HS.out.2.2.1 (by rw [← HB.out.1, ← HB.out.2]; rfl)]
          exact Left.stay HH.out.1 (H5.out.2.1.below HW1.out).fr
      · go_wp2_with (first | (go_at_call 59; first | (refine (C1 _).mono ?_; rintro e w' ⟨rfl, rfl⟩) | (refine (C2 _).mono ?_; rintro e w' ⟨rfl, rfl⟩)))
        go_ret
        rw [H5.out.1, HS.out.2.2.1 (by rw [← HB.out.1, ← HB.out.2]; rfl)]
        exact Left.stay HH.out.1 (H5.out.2.1.below HW1.out).fr
end Go.Proofs.YtponfkfeflnilaaGreatDoor
namespace Go.Proofs.YtponfkfeflnilaaGreatDoor
open Go.RowKit Go.Mix Go.WideMaps Go.Maps

/-- What the store's calls leave of MaxLen. -/
structure MaxAt (own : Owns) (w : World) : Prop where
  is : MaxIs w
  no : own 0 = none
theorem MaxIs.lt {w : World} (h : MaxIs w) : 0 < w.heap.size := by obtain ⟨m, h⟩ := h; exact lt_of_cell h
theorem MaxAt.below {own : Owns} {w w' : World} (h : MaxAt own w) (g : Below w.heap.size w w') : MaxAt own w' := ⟨h.is.below g, h.no⟩
theorem MaxAt.turn {own own' : Owns} {w w' : World} (h : MaxAt own w) (t : Turn Any own own' w w') : MaxAt own' w' := by
  have hl := h.is.lt
  obtain ⟨m, hm⟩ := h.is
  have hk := (t.frame.keep _ ⟨hl, by rw [h.no]; exact fun h => h rfl⟩).2
  exact ⟨⟨m, by rw [← hm]; exact World.cell?_of_block (a := ⟨_, 0, none⟩) hk⟩, (t.ow.old _ hl).trans h.no⟩
theorem RsAt.keepB {α : Type} [Inhabited α] {enc : α → List Value} {L : Nat} {w w' : World} {a : Option Addr} {c : Nat} {l : List α} (h : RsAt enc L w a c l) (hk : ∀ y, a = some y → w'.heap[y.block]? = w.heap[y.block]?) : RsAt enc L w' a c l := by
  refine ⟨h.le, h.big, h.non, h.cells.imp id ?_⟩
  rintro ⟨b, o, rfl, hc⟩
  refine ⟨b, o, rfl, fun j hj i v hv => ?_⟩
  have h1 := hc j hj i v hv
  rw [World.cell?_of_block (a := ⟨b, o + j * L + i, none⟩) (hk ⟨b, o, none⟩ rfl)]
  exact h1
/-- A block of nobody's lasts. -/
theorem turn_block {own own' : Owns} {w w' : World} (t : Turn Any own own' w w') {k : Nat} (hk : own k = none) (hl : k < w.heap.size) : w'.heap[k]? = w.heap[k]? ∧ own' k = none :=
  ⟨(t.frame.keep _ ⟨hl, by rw [hk]; exact fun h => h rfl⟩).2, (t.ow.old _ hl).trans hk⟩
theorem Left.from {own own1 : Owns} {w w1 w' : World} {p : Nat} {r : StP × Int} {e : Ending} (t : Turn Any own own1 w w1) (h : Left own1 w1 p r e w') : Left own w p r e w' := by
  obtain ⟨e1, own', h1, h2⟩ := h
  exact ⟨e1, own', h1, t.trans h2⟩

def setHeadS (S : StP) (f name : Bytes) : StP × Int := if rightN name then layS S f headT (refcT ++ name ++ [10]) else (S, 1)
set_option maxRecDepth 100000 in
set_option maxHeartbeats 4000000 in
theorem SetHead_any {own : Owns} {w : World} {p Z : Nat} {S : StP} {front : Bytes} (h : StoreAt own w p S) (ok : OkS Z S) (hZ : Z ≤ 1000000) (hm : MaxIs w) (hf : front.length ≤ 1000) (name : Bytes) (hn : name.length ≤ 1000000) :
    Calls Tryz.prog 36 #[ptr p, .string (strOf front), .string (strOf name)] w fun e w' => Left own w p (setHeadS S (frontL front) name) e w' := by
  obtain ⟨fl, hfl⟩ : ∃ f, f = frontL front := ⟨_, rfl⟩
  have hfll : fl.length ≤ 1001 := by rw [hfl]; unfold frontL; split <;> simp <;> omega
  have hsk : setHeadS S fl name = if rightN name then layS S fl headT (refcT ++ name ++ [10]) else (S, 1) := rfl
  rw [← hfl]
  obtain ⟨SK, hSK⟩ : ∃ G, G = setHeadS S fl name := ⟨_, rfl⟩
  rw [← hSK] at hsk ⊢
  have C0 := rightN_any name hn w hm
  obtain ⟨R0, hR0⟩ : ∃ R, R = rightN name := ⟨_, rfl⟩
  rw [← hR0] at C0 hsk
  have HH := Lib.hid (And.intro h (And.intro ok (And.intro hZ (And.intro hf (And.intro hn (And.intro hfl hfll))))))
  have HG := Lib.hid (And.intro hsk hR0)
  obtain ⟨F, hF⟩ : ∃ F, F = strOf front := ⟨_, rfl⟩
  obtain ⟨NM, hNM⟩ : ∃ F, F = strOf name := ⟨_, rfl⟩
  have HF := Lib.hid (And.intro hF hNM)
  rw [← hNM] at C0
  rw [← hF, ← hNM]
  clear h ok hZ hm hf hn hsk hSK hR0 hF hNM hfl hfll
  go_enter Tryz.func36, Tryz.ntmps36
  go_wp2_with fail
  refine C0.mono ?_
  clear C0
  rintro e w2 ⟨rfl, hb2⟩
  cases R0
  case false =>
    have hg : SK = (S, 1) := by have := HG.out.1; simpa using this
    have HE := Lib.hid (And.intro hg hb2)
    clear hg hb2
    go_wp2_with fail
    go_ret
    rw [HE.out.1]
    exact Left.stay HH.out.1 HE.out.2
  have hnl : name.length ≤ 200 := (right_ten HG.out.2.symm).2
  have C1 := at_any p front (by have := HH.out.2.2.2.1; omega) w2
  rw [← HF.out.1, ← HH.out.2.2.2.2.2.1] at C1
  have A1 := fun W => str_add refcT name (by have : refcT.length = 5 := rfl; omega) (by omega) W
  rw [show strOf refcT = ⟨#[114, 101, 102, 58, 32]⟩ from rfl, ← HF.out.2] at A1
  have hl5 : (refcT ++ name).length ≤ 205 := by rw [List.length_append]; show 5 + _ ≤ _; omega
  have A2 := fun W => str_add (refcT ++ name) [10] (by omega) (by decide) W
  rw [show strOf [10] = ⟨#[10]⟩ from rfl] at A2
  have hbl : (refcT ++ name ++ [10]).length ≤ 206 := by rw [List.length_append]; show _ + 1 ≤ _; omega
  obtain ⟨B, hB⟩ : ∃ B, B = refcT ++ name ++ [10] := ⟨_, rfl⟩
  have hbs : (strOf B).size = B.length := strOf_size _
  have CV := fun W => bytes_made W (strOf B) (by rw [hbs, hB]; omega)
  have eB : (strOf B).data.toList = B := by simp [strOf]
  rw [eB, hbs] at CV
  rw [← hB] at A2 hbl
  have hg : SK = layS S fl headT B := by have := HG.out.1; rw [hB]; simpa using this
  have H2 := Lib.hid (And.intro hb2 (And.intro hg hbl))
  clear hb2 hg hnl hl5 hbs eB hB
  generalize strOf (refcT ++ name) = T2 at *
  generalize strOf B = TB at *
  go_wp2_with fail
  refine C1.mono ?_
  clear C1
  rintro e w3 ⟨rfl, hb3⟩
  obtain ⟨cap, w4, hcv, hsl, hb4⟩ := CV w3
  have hg4 : Below w.heap.size w w4 := Grow.trans H2.out.1 (Grow.trans hb3 hb4)
  have hsz3 : w.heap.size ≤ w3.heap.size := (Grow.trans H2.out.1 hb3).size
  have hno : ∀ x, (some (⟨w3.heap.size, 0, none⟩ : Addr)) = some x → own x.block = none := fun x hx => by cases hx; exact HH.out.1.none_new hsz3
  have C4 := lay_any (HH.out.1.below hg4) HH.out.2.1 HH.out.2.2.1 (f := fl) (name := headT) HH.out.2.2.2.2.2.2 (by decide) hsl (by omega) (fun _ => hno)
  rw [show strOf headT = ⟨#[72, 69, 65, 68]⟩ from rfl] at C4
  have H4 := Lib.hid hg4
  clear hb3 hsl hb4 hg4 hsz3 hno CV hbl
  generalize B.length = NB at *
  go_wp2_with fail
  refine C4.mono ?_
  clear C4
  rintro e w9 hL
  have hL2 := hL.before H4.out HH.out.1.lt
  obtain ⟨rfl, hex⟩ := hL
  rw [← H2.out.2.1] at hL2 ⊢
  have H9 := Lib.hid hL2
  clear hL2 hex
  go_wp2_with fail
  go_ret
  exact H9.out
end Go.Proofs.YtponfkfeflnilaaGreatDoor
namespace Go.Proofs.YtponfkfeflnilaaGreatDoor
open Go.RowKit Go.Mix Go.WideMaps Go.Maps

def rmAll (f : Bytes) : List RefP → StP → StP × Int
  | [], S => (S, 0)
  | r :: l, S => andS (removeS S (f ++ r.name)) (rmAll f l)
noncomputable def packS (S : StP) (f : Bytes) : StP × Int := match allK S f with
  | none => (S, 4)
  | some L => if L = [] then (S, 0) else andS (layS S f packedT (textP L)) fun S1 => rmAll f ((looseK S1 f).getD []) S1

set_option maxRecDepth 100000 in
set_option maxHeartbeats 8000000 in
theorem Pack_any {own : Owns} {w : World} {p Z Z1 : Nat} {S : StP} {front : Bytes} (h : StoreAt own w p S) (hr : RefsIn Z S (frontL front)) (hm : MaxAt own w) (hf : front.length ≤ 1000)
    (h2 : ∀ L, allK S (frontL front) = some L → RefsIn Z1 (layS S (frontL front) packedT (textP L)).1 (frontL front)) :
    Calls Tryz.prog 25 #[ptr p, .string (strOf front)] w fun e w' => Left own w p (packS S (frontL front)) e w' := by
  obtain ⟨fl, hfl⟩ : ∃ f, f = frontL front := ⟨_, rfl⟩
  have hfll : fl.length ≤ 1001 := by rw [hfl]; unfold frontL; split <;> simp <;> omega
  have hsk : packS S fl = match allK S fl with | none => (S, (4 : Int)) | some L => if L = [] then (S, 0) else andS (layS S fl packedT (textP L)) fun S1 => rmAll fl ((looseK S1 fl).getD []) S1 := rfl
  have C1 := at_any p front (by omega) w
  rw [← hfl] at hr h2 C1 ⊢
  obtain ⟨SK, hSK⟩ : ∃ G, G = packS S fl := ⟨_, rfl⟩
  rw [← hSK] at hsk ⊢
  have HH := Lib.hid (And.intro h (And.intro hr (And.intro hm (And.intro hf (And.intro h2 hfl)))))
  have HG := Lib.hid hsk
  obtain ⟨F, hF⟩ : ∃ F, F = strOf front := ⟨_, rfl⟩
  rw [← hF] at C1 ⊢
  clear h hr hm hf h2 hsk hSK hF hfl
  obtain ⟨Z0, hZ0⟩ : ∃ Z, Z = recA encP ref0 := ⟨_, rfl⟩
  have z : ∀ w, (zeroValue 88).run Tryz.prog w = .ok (.agg Z0) w := fun w => by rw [hZ0]; kernel_rfl
  have HZ := Lib.hid hZ0
  clear hZ0
  go_enter Tryz.func25, Tryz.ntmps25
  have zL : ∀ w, (zeroValue 106).run Tryz.prog w = .ok (.agg #[.pointer none, .string ByteArray.empty]) w := fun w => by kernel_rfl
  go_wp2_with fail
  refine C1.mono ?_
  clear C1
  rintro e w3 ⟨rfl, hb3⟩
  have hzb : (w3.alloc (.cells #[.pointer none, .string ByteArray.empty] 106)).heap[w3.heap.size]? = some (.cells #[.pointer none, .string ByteArray.empty] 106 (0, 0)) := heap_alloc_last _ _ _ rfl
  have zi : (Tryz.prog.info? 106).map (·.size) = some (placeA p fl).size := by kernel_rfl
  have zs : (#[.pointer none, .string ByteArray.empty] : Array Value).size = (placeA p fl).size := rfl
  have z1 : (placeA p fl).all (·.oneCell') = true := all_oneCell_toArray (cs := [ptr p, .string (strOf fl)]) (fun u hu => by
    rcases List.mem_cons.1 hu with rfl | hu
    · rfl
    · rw [List.mem_singleton] at hu; subst hu; rfl)
  have gA : Below w3.heap.size w3 ((w3.alloc (.cells #[.pointer none, .string ByteArray.empty] 106)).setRow w3.heap.size (placeA p fl)) := below_setRow ((Below.refl _ _).alloc (Nat.le_refl _) _) (Nat.le_refl _) _
  have hrw := setRow_heap _ _ _ (placeA p fl) _ _ hzb
  have HA := Lib.hid (And.intro hrw (And.intro (Grow.trans hb3 gA) hb3.size))
  clear gA hrw hb3
  go_upto_region 2 with (refine wpList_store_row rfl 106 _ _ rfl w3.heap.size (placeA p fl) rfl rfl 106 _ hzb zi zs z1 ?_)
  have H3 := HA.out
  obtain ⟨X, hX⟩ : ∃ X, X = w3.heap.size := ⟨_, rfl⟩
  rw [← hX] at H3 ⊢
  clear HA hzb hX zi zs z1
  generalize (w3.alloc (.cells #[.pointer none, .string ByteArray.empty] 106)).setRow X (placeA p fl) = w4 at *
  have L4 := place_load H3.1
  have C2 := all_any (HH.out.1.below H3.2.1) HH.out.2.1 (HH.out.2.2.1.is.below H3.2.1)
  have H4 := Lib.hid H3
  clear H3
  go_wp2_with (first | (refine wpList_load_at rfl _ _ rfl _ _ rfl L4 ?_))
  refine C2.mono ?_
  clear C2 L4
  rintro e w5 hpost
  rcases hpost with ⟨L, hL, M, rfl, hmap, -, hb5⟩ | ⟨hL, rfl, hb5⟩
  case inr =>
    have hg : SK = (S, 4) := by have := HG.out; rw [hL] at this; simpa using this
    have HE := Lib.hid (And.intro hg (Grow.trans H4.out.2.1 hb5))
    clear hg hb5 hL
    go_wp2_with fail
    go_ret
    rw [HE.out.1]
    exact Left.stay HH.out.1 HE.out.2
  obtain ⟨q1, q2, q3⟩ := all_short HH.out.2.1 hL
  have hsz := hmap.size q1
  obtain ⟨nL, hnL⟩ : ∃ n, n = L.length := ⟨_, rfl⟩
  rw [← hnL] at hsz
  have hg : SK = if L = [] then (S, (0 : Int)) else andS (layS S fl packedT (textP L)) fun S1 => rmAll fl ((looseK S1 fl).getD []) S1 := by have := HG.out; rw [hL] at this; exact this
  have C3 := lst_any hmap q1 (by omega) (fun r hr => by have := (q3 r hr).2; omega)
  have H5 := Lib.hid (And.intro hg (And.intro (Grow.trans H4.out.2.1 hb5) (And.intro (blockR_below H4.out.1 hb5) (And.intro hnL (And.intro (HH.out.2.2.2.2.1 L hL) (And.intro q1 q3))))))
  clear hg hmap hL q1 q3 hb5
  by_cases hn0 : nL = 0
  · have t1 : decide ((nL : Int) = 0) = true := decide_eq_true (by omega)
    have t1' : decide (nL = 0) = true := decide_eq_true hn0
    have hg2 : SK = (S, 0) := by rw [H5.out.1, if_pos (List.eq_nil_of_length_eq_zero (by rw [← H5.out.2.2.2.1]; exact hn0))]
    have HE := Lib.hid hg2
    clear hg2 hnL C3
    subst hn0
    go_wp2_with fail
    go_ret
    rw [HE.out]
    exact Left.stay HH.out.1 H5.out.2.1
  · have t1 : decide ((nL : Int) = 0) = false := decide_eq_false (by omega)
    have t1' : decide (nL = 0) = false := decide_eq_false hn0
    have hg2 : SK = andS (layS S fl packedT (textP L)) fun S1 => rmAll fl ((looseK S1 fl).getD []) S1 := by rw [H5.out.1, if_neg (fun e => hn0 (by rw [H5.out.2.2.2.1, e]; rfl))]
    have H6 := Lib.hid (And.intro hg2 q2)
    clear hg2 hnL q2
    go_wp2_with fail
    refine C3.mono ?_
    clear C3
    rintro e w6 ⟨v, rfl, ho⟩
    obtain ⟨a6, c6, rfl, hrs6, -⟩ := ho.rs tyP
    have hb6 := ho.frame
    have hg6 := Grow.trans H5.out.2.1 hb6
    have hord := sorted_ord H5.out.2.2.2.2.2.1 (fun r hr => (H5.out.2.2.2.2.2.2 r hr).1)
    have C4 := printPk_any hrs6 (by have := H6.out.2; omega) (fun r hr => by have := (H5.out.2.2.2.2.2.2 r hr).2; omega) (HH.out.2.2.1.is.below hg6)
    have hbX6 := blockR_below H5.out.2.2.1 hb6
    have H7 := Lib.hid (And.intro hg6 (And.intro hord hbX6))
    clear ho hrs6 hb6 hg6 hord hbX6
    rw [← H5.out.2.2.2.1] at C4 ⊢
    go_wp2_with fail
    refine C4.mono ?_
    clear C4
    rintro e w7 ⟨hp1, -, hb7⟩
    obtain ⟨b7, c7, rfl, hsl7, hfar7⟩ := hp1 H7.out.2.1
    obtain ⟨B, hB⟩ : ∃ B, B = textP L := ⟨_, rfl⟩
    rw [← hB] at hsl7 ⊢
    have hg7 := Grow.trans H7.out.1 hb7
    have hBl : B.length ≤ 242000 := by
      have h1 := textP_len 200 L (fun r hr => (H5.out.2.2.2.2.2.2 r hr).2)
      have h2 := H6.out.2
      rw [hB]; omega
    have hno : B ≠ [] → ∀ x, b7 = some x → own x.block = none := fun _ x hx => HH.out.1.none_new (Nat.le_trans H7.out.1.size (hfar7 x hx))
    have hr2 : RefsIn Z1 (layS S fl packedT B).1 fl := by rw [hB]; exact H5.out.2.2.2.2.1
    have C5 := lay_any (HH.out.1.below hg7) HH.out.2.1.ok HH.out.2.1.big (f := fl) (name := packedT) hfll (by decide) hsl7 (by omega) hno
    rw [show strOf packedT = ⟨#[112, 97, 99, 107, 101, 100, 45, 114, 101, 102, 115]⟩ from rfl] at C5
    have hbX7 := blockR_below H7.out.2.2 hb7
    have L7 := place_load hbX7
    have hg3 : SK = andS (layS S fl packedT B) fun S1 => rmAll fl ((looseK S1 fl).getD []) S1 := by rw [hB]; exact H6.out.1
    have H8 := Lib.hid (And.intro hg7 (And.intro hbX7 (And.intro hr2 hg3)))
    clear hp1 hsl7 hfar7 hg7 hBl hno hr2 hb7 hg3 hbX7 hB
    obtain ⟨NB, hNB⟩ : ∃ n, n = B.length := ⟨_, rfl⟩
    rw [← hNB] at C5 ⊢
    clear hNB
    go_wp2_with (first | (refine wpList_load_at rfl _ _ rfl _ _ rfl L7 ?_))
    refine C5.mono ?_
    clear C5 L7
    rintro e w8 ⟨rfl, own8, hst8, ht8⟩
    obtain ⟨S1, hS1⟩ : ∃ S1, S1 = (layS S fl packedT B).1 := ⟨_, rfl⟩
    obtain ⟨n1, hn1⟩ : ∃ n1, n1 = (layS S fl packedT B).2 := ⟨_, rfl⟩
    have hlay : layS S fl packedT B = (S1, n1) := by rw [hS1, hn1]
    have hT8 : Turn Any own own8 w w8 := (Turn.below (T := Any) H8.out.1 HH.out.1.lt).trans ht8
    have hr1 := H8.out.2.2.1
    have hg3 := H8.out.2.2.2
    rw [hlay] at hst8 hr1 hg3
    rw [← hn1]
    have hXn : own X = none := HH.out.1.none_new H4.out.2.2
    have hXl : X < w7.heap.size := lt_of_block H8.out.2.1
    obtain ⟨kx8, ox8⟩ := turn_block ht8 hXn hXl
    have hbX8 := kx8.trans H8.out.2.1
    have hm8 := (HH.out.2.2.1.turn hT8)
    have H9 := Lib.hid (And.intro hst8 (And.intro hT8 (And.intro hr1 (And.intro hg3 (And.intro ox8 hbX8)))))
    have C6 := loose_any hst8 hr1 hm8.is
    have L8 := place_load hbX8
    clear ht8 hst8 hT8 hr1 hg3 hS1 hn1 hlay kx8 ox8 hXl hXn hbX8 hm8
    by_cases hn1 : n1 = 0
    case neg =>
      have t1 : (n1 == 0) = false := by rw [beq_eq_false_iff_ne]; exact hn1
      have hg4 : SK = (S1, n1) := by rw [H9.out.2.2.2.1]; exact andS_no S1 hn1 _
      have HE := Lib.hid hg4
      clear hg4 hn1 C6
      go_wp2_with fail
      go_ret
      rw [HE.out]
      exact ⟨rfl, own8, H9.out.1, H9.out.2.1⟩
    subst hn1
    obtain ⟨l2, hl2⟩ : ∃ l, l = (looseK S1 fl).getD [] := ⟨_, rfl⟩
    have hg4 : SK = rmAll fl l2 S1 := by rw [H9.out.2.2.2.1, hl2]; exact andS_ok S1 _
    go_wp2_with (first | (refine wpList_load_at rfl _ _ rfl _ _ rfl L8 ?_))
    refine C6.mono ?_
    clear C6 L8
    rintro e w9 hpost
    have hpost2 : ∃ (a : Option Addr) (c : Nat) (er : Int), e = .returned (.tuple #[.slice a l2.length c, .int .i64 er]) ∧ RsAt encP 21 w9 a c l2 ∧ Below w8.heap.size w8 w9 ∧ (∀ y, a = some y → w8.heap.size ≤ y.block ∧ y.block < w9.heap.size) ∧ (∀ r ∈ l2, rightN r.name = true) ∧ l2.length ≤ 200 := by
      rcases hpost with ⟨l, hl, v, rfl, ho⟩ | ⟨hl, rfl, hb⟩
      · have e2 : l2 = l := by rw [hl2, hl]; rfl
        subst e2
        obtain ⟨a, c, rfl, hrs, -⟩ := ho.rs tyP
        have hlen := allSome_len hl
        exact ⟨a, c, 0, rfl, hrs, ho.frame, fun y hy => ho.block y.block (by rw [hy]; rfl), loose_right hl, by rw [hlen]; exact H9.out.2.2.1.few⟩
      · have e2 : l2 = [] := by rw [hl2, hl]; rfl
        subst e2
        exact ⟨none, 0, 4, rfl, RsAt.nil w9, hb, fun y hy => by simp at hy, fun r hr => by simp at hr, by simp⟩
    obtain ⟨a, c, er, rfl, hrs, hb9, hblk, hrt, hl2n⟩ := hpost2
    obtain ⟨n, hn⟩ : ∃ n, n = l2.length := ⟨_, rfl⟩
    rw [← hn] at hl2n ⊢
    have hbX9 := blockR_below H9.out.2.2.2.2.2 hb9
    have hst9 := H9.out.1.below hb9
    have HX := Lib.hid (And.intro hg4 (And.intro hrs (And.intro hb9 (And.intro hblk (And.intro hrt (And.intro hn (And.intro hbX9 hst9)))))))
    clear hg4 hrs hb9 hblk hrt hn hbX9 hl2 hpost hst9
    go_wp2_with fail
    go_loopw [51] (fun s51 wr => ∃ (i : Nat) (own2 : Owns) (S2 : StP), s51 = .int .i64 (i : Int) ∧ i ≤ n ∧ StoreAt own2 wr p S2 ∧ Turn Any own8 own2 w9 wr ∧ OkS Z1 S2 ∧ rmAll fl l2 S1 = rmAll fl (l2.drop i) S2) (fun s51 _ => n - (intOf s51).toNat)
    case atStart => exact ⟨0, own8, S1, rfl, Nat.zero_le _, HX.out.2.2.2.2.2.2.2, Turn.below (T := Any) (Below.refl _ _) HX.out.2.2.2.2.2.2.2.lt, H9.out.2.2.1.ok, rfl⟩
    case round =>
      obtain ⟨i, own2, S2, rfl, hi, hst, htn, hok, heq⟩ := hrel
      have HR := Lib.hid (And.intro hst (And.intro htn (And.intro hok heq)))
      have hX2 := turn_block htn H9.out.2.2.2.2.1 (lt_of_block HX.out.2.2.2.2.2.2.1)
      have hrs := HX.out.2.1.keepB (w' := wr) fun y hy => (turn_block htn (H9.out.1.none_new (HX.out.2.2.2.1 y hy).1) (HX.out.2.2.2.1 y hy).2).1
      clear hst htn hok heq
      by_cases hin : i < n
      · have t1 : decide ((i : Int) < (n : Int)) = true := decide_eq_true (by omega)
        have t1' : decide (i < n) = true := decide_eq_true hin
        have hil : i < l2.length := by rw [← HX.out.2.2.2.2.2.1]; exact hin
        obtain ⟨b, q, IX, -, LD⟩ := hrs.at tyP (i : Int) i rfl hil
        rw [← HX.out.2.2.2.2.2.1] at IX
        have L0 := LD wr (Below.refl _ _)
        have hdr : l2.drop i = l2[i]! :: l2.drop (i + 1) := by rw [List.drop_eq_getElem_cons hil, getElem!_pos l2 i hil]
        have hrm := (right_ten (HX.out.2.2.2.2.1 l2[i]! (by rw [getElem!_pos l2 i hil]; exact List.getElem_mem hil))).2
        obtain ⟨r, hr⟩ : ∃ r, r = l2[i]! := ⟨_, rfl⟩
        rw [← hr] at L0 hdr hrm
        have hzb : (wr.alloc (.cells Z0 88)).heap[wr.heap.size]? = some (.cells Z0 88 (0, 0)) := heap_alloc_last _ _ _ rfl
        have zs : Z0.size = (recA encP r).size := by rw [HZ.out]; simp [recA, encP_len]
        have zi : (Tryz.prog.info? 88).map (·.size) = some (recA encP r).size := by rw [show (recA encP r).size = 21 by simp [recA, encP_len]]; exact tyP.ie
        have z1 : (recA encP r).all (·.oneCell') = true := all_oneCell_toArray (encP_one _)
        have gA : Below wr.heap.size wr ((wr.alloc (.cells Z0 88)).setRow wr.heap.size (recA encP r)) := below_setRow ((Below.refl _ _).alloc (Nat.le_refl _) _) (Nat.le_refl _) _
        have hbox : ((wr.alloc (.cells Z0 88)).setRow wr.heap.size (recA encP r)).heap[wr.heap.size]? = some (.cells (recA encP r) 88 (0, 0)) := setRow_heap _ _ _ _ _ _ hzb
        have hXr := hX2.1.trans HX.out.2.2.2.2.2.2.1
        have HA := Lib.hid (And.intro gA (And.intro hbox (And.intro hdr (And.intro hrm hXr))))
        clear LD hr hil gA hbox hdr hrm hXr hX2
        go_upto_region 13 with (first | (refine wpList_load_at rfl _ _ rfl _ _ rfl L0 ?_) | (refine wpList_store_row rfl 88 _ _ rfl wr.heap.size (recA encP r) rfl rfl 88 Z0 hzb zi zs z1 ?_))
        have hbox := HA.out.2.1
        have gA := HA.out.1
        clear L0 IX zs zi z1 hzb
        obtain ⟨X9, hX9⟩ : ∃ X, X = wr.heap.size := ⟨_, rfl⟩
        generalize (wr.alloc (.cells Z0 88)).setRow wr.heap.size (recA encP r) = w10 at *
        rw [← hX9] at hbox ⊢
        have LN := load_name (recBoxP hbox) ⟨w10, Below.refl _ _⟩
        change (Instr.loadAt 9 (.pointer (some ⟨X9, 0, none⟩))).run Tryz.prog w10 = .ok (.string (strOf r.name)) w10 at LN
        have hXb := blockR_below HA.out.2.2.2.2 gA
        have c0 : w10.cell? ⟨X, 0, none⟩ = some (ptr p) := by rw [cell_of_row _ _ _ _ _ _ hXb]; rfl
        have c1 : w10.cell? ⟨X, 1, none⟩ = some (.string (strOf fl)) := by rw [cell_of_row _ _ _ _ _ _ hXb]; rfl
        have A1 := fun W => str_add fl r.name (by omega) (by have := HA.out.2.2.2.1; omega) W
        have CR := remove_at (HR.out.1.below gA) HR.out.2.2.1 (by have := H9.out.2.2.1.big; omega) (fl ++ r.name) (by rw [List.length_append]; have := HA.out.2.2.2.1; omega)
        have hokn := HR.out.2.2.1.remove (fl ++ r.name)
        have heq2 : rmAll fl l2 S1 = andS (removeS S2 (fl ++ r.name)) (rmAll fl (l2.drop (i + 1))) := by rw [HR.out.2.2.2, HA.out.2.2.1]; rfl
        have tA : Turn Any own8 own2 w9 w10 := HR.out.2.1.trans (Turn.below (T := Any) gA HR.out.1.lt)
        have H10 := Lib.hid (And.intro hokn (And.intro heq2 tA))
        generalize strOf r.name = NM at *
        generalize strOf (fl ++ r.name) = PN at *
        generalize strOf fl = FL at *
        clear hX9 hbox gA HA hokn heq2 tA hXb hrs
        go_wp2_with (first | (refine wpList_load_at rfl _ _ rfl _ _ rfl LN ?_))
        refine CR.mono ?_
        clear CR LN A1 c0 c1
        rintro e w11 ⟨rfl, own3, hst3, ht3⟩
        obtain ⟨S3, hS3⟩ : ∃ S1, S1 = (removeS S2 (fl ++ r.name)).1 := ⟨_, rfl⟩
        obtain ⟨n3, hn3⟩ : ∃ n1, n1 = (removeS S2 (fl ++ r.name)).2 := ⟨_, rfl⟩
        have hrmv : removeS S2 (fl ++ r.name) = (S3, n3) := by rw [hS3, hn3]
        have hok3 := H10.out.1
        have heq3 := H10.out.2.1
        rw [hrmv] at hst3 hok3 heq3
        rw [← hn3]
        have H11 := Lib.hid (And.intro hst3 (And.intro (H10.out.2.2.trans ht3) (And.intro hok3 heq3)))
        clear hst3 ht3 hok3 heq3 hrmv hS3 hn3
        by_cases hn0 : n3 = 0
        · subst hn0
          go_wp2_with fail
          go_roundw
          case rel => exact ⟨i + 1, own3, S3, by go_num, by omega, H11.out.1, H11.out.2.1, H11.out.2.2.1, H11.out.2.2.2.trans (andS_ok _ _)⟩
          case measure => simp [intOf]; omega
        · have t3 : (n3 == 0) = false := by rw [beq_eq_false_iff_ne]; exact hn0
          have hg5 : SK = (S3, n3) := by rw [HX.out.1, H11.out.2.2.2]; exact andS_no _ hn0 _
          have HE := Lib.hid hg5
          clear hg5 hn0
          go_wp2_with fail
          go_ret
          rw [HE.out]
          exact ⟨rfl, own3, H11.out.1, H9.out.2.1.trans ((Turn.below (T := Any) HX.out.2.2.1 H9.out.1.lt).trans H11.out.2.1)⟩
      · obtain rfl : i = n := by omega
        have t1 : decide ((i : Int) < (i : Int)) = false := decide_eq_false (by omega)
        have t1' : decide (i < i) = false := decide_eq_false (by omega)
        have hd : l2.drop i = [] := List.drop_eq_nil_of_le (by rw [← HX.out.2.2.2.2.2.1]; exact Nat.le_refl _)
        have hg5 : SK = (S2, 0) := by rw [HX.out.1, HR.out.2.2.2, hd]; rfl
        have HE := Lib.hid hg5
        clear hg5 hd hrs hX2
        go_wp2_with fail
        go_ret
        rw [HE.out]
        exact ⟨rfl, own2, HR.out.1, H9.out.2.1.trans ((Turn.below (T := Any) HX.out.2.2.1 H9.out.1.lt).trans HR.out.2.1)⟩
end Go.Proofs.YtponfkfeflnilaaGreatDoor
