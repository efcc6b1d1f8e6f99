/-
  (*Store).Read, Cut, Sync, Remove, Rename: the walks.
-/
import Derived.Test.YtnlkanhakmkejaaDoorStWrite
namespace Go.Proofs.YtnlkanhakmkejaaDoor
open Go.RowKit Go.Mix Go.WideMaps Go.Maps

set_option maxRecDepth 100000 in
theorem read_nil (path : Bytes) (w : World) : Calls Tryd.prog 25 #[.pointer none, .string (strOf path)] w fun e w' => e = .returned (.tuple #[.slice none 0 0, .int .i64 6]) ∧ w = w' := by
  go_enter Tryd.func25, Tryd.ntmps25
  go_wp2_with fail
  go_ret2
  exact ⟨rfl, rfl⟩
/-- What Read answers. -/
def ReadIs (l : Files) (path : Bytes) (w : World) (e : Ending) (w' : World) : Prop :=
  (∀ f, getF l path = some f → ∃ v, e = .returned (.tuple #[v, .int .i64 0]) ∧ Buf w.heap.size w w' v f.now) ∧ (getF l path = none → e = .returned (.tuple #[.slice none 0 0, .int .i64 6])) ∧ Below w.heap.size w w'
set_option maxRecDepth 100000 in
set_option maxHeartbeats 2000000 in
theorem read_any {own : Owns} {w : World} {p M : Nat} {G : Bytes → Nat} {S : StP} (h : StoreIn own w p M G S) (path : Bytes) (hp : path.length ≤ 100000) (hbig : ∀ q ∈ S.files, q.2.now.length ≤ 1000000000000) :
    Calls Tryd.prog 25 #[ptr p, .string (strOf path)] w fun e w' => ReadIs S.files path w e w' := by
  obtain ⟨-, -, c2, -⟩ := h.cells
  have LK := h.map.look_ok path (by omega)
  have HH := Lib.hid h
  clear h
  cases hx : getF S.files path with
  | none =>
    rw [hx, placeV_none hx] at LK
    have HX := Lib.hid hx
    clear hx
    go_enter Tryd.func25, Tryd.ntmps25
    go_wp2_with fail
    go_ret2
    exact ⟨fun f hf => (by rw [HX.out] at hf; cases hf), fun _ => rfl, Below.refl _ _⟩
  | some f =>
    rw [hx, placeV_some hx] at LK
    obtain ⟨v1, v2, v3, L, p1, ⟨a1, c1, rfl, s1, -⟩, -⟩ := (HH.out.file path f hx).ex
    have k0 := cell_blk p1 0 _ rfl
    have CC := clone_any s1 rfl (by have := hbig _ (getF_mem hx); show f.now.length ≤ _; have h2 : f.now.length ≤ 1000000000000 := this; omega)
    generalize f.now.length = n at *
    have HX := Lib.hid hx
    clear hx p1 s1 hbig
    go_enter Tryd.func25, Tryd.ntmps25
    go_wp2_with fail
    refine CC.mono ?_
    clear CC
    rintro e w1 ⟨v, rfl, h1⟩
    have H1 := Lib.hid h1
    clear h1
    go_wp2_with fail
    go_ret2
    exact ⟨fun f' hf => (by rw [HX.out] at hf; injection hf with hf; subst hf; exact ⟨_, rfl, H1.out⟩), fun h => (by rw [HX.out] at h; cases h), H1.out.2.1⟩

theorem OkS.at {Z : Nat} {S : StP} (ok : OkS Z S) {x : Bytes} {f : FileP} (h : getF S.files x = some f) : f.ok ∧ x.length ≤ 255 ∧ f.now.length ≤ Z ∧ f.kept.length ≤ Z ∧ f.since.length ≤ Z := ok.ok _ (getF_mem h)
theorem OkS.usedB {Z : Nat} {S : StP} (ok : OkS Z S) (hZ : Z ≤ 100000000) : 0 ≤ S.used ∧ S.used ≤ 1000000000000 := by
  have hused := ok.used
  have hsum := sumF_le Z S.files (fun q hq => (ok.ok q hq).2.2.1)
  have hmul : Z * S.files.length ≤ 1000000000000 := Nat.le_trans (Nat.mul_le_mul hZ ok.few) (by decide)
  rw [hused]; omega
theorem OkS.leftB {Z : Nat} {S : StP} (ok : OkS Z S) : -1000 ≤ S.left ∧ S.left ≤ 9223372036854775807 := by have := ok.left; omega

set_option maxRecDepth 100000 in
set_option maxHeartbeats 4000000 in
theorem cut_any {own : Owns} {w : World} {p M Z : Nat} {G : Bytes → Nat} {S : StP} (h : StoreIn own w p M G S) (ok : OkS Z S) (hZ : Z ≤ 100000000) (path : Bytes) (hp : path.length ≤ 100000) (n : Int) (hnb : -9223372036854775808 ≤ n ∧ n ≤ 9223372036854775807) :
    Calls Tryd.prog 17 #[ptr p, .string (strOf path), .int .i64 n] w fun e w' => Left own w p (cutS S path n) e w' := by
  have C1 := off_any h
  obtain ⟨-, c1, c2, -⟩ := h.cells
  have f1 := h.free 1
  have LK := h.map.look_ok path (by omega)
  have HH := Lib.hid (And.intro h ok)
  have HZ := Lib.hid hZ
  clear h ok hZ hp
  obtain ⟨D, hD⟩ : ∃ D, D = S.down := ⟨_, rfl⟩
  rw [← hD] at C1
  have HD := Lib.hid hD
  clear hD
  go_enter Tryd.func17, Tryd.ntmps17
  go_wp2_with fail
  refine C1.mono ?_
  clear C1
  rintro e w' ⟨rfl, rfl⟩
  cases D
  case true =>
    go_wp2_with fail
    go_ret
    unfold cutS
    rw [if_pos HD.out.symm]
    exact Left.same HH.out.1 (Below.refl _ _) _
  have hdn : ¬ S.down = true := by rw [← HD.out]; simp
  have HDN := Lib.hid hdn
  clear hdn
  cases hx : getF S.files path with
  | none =>
    rw [hx, placeV_none hx] at LK
    have HX := Lib.hid hx
    clear hx
    go_wp2_with fail
    go_ret
    unfold cutS
    rw [if_neg HDN.out, HX.out]
    exact Left.same HH.out.1 (Below.refl _ _) _
  | some f =>
    rw [hx, placeV_some hx] at LK
    have hfo := HH.out.2.at hx
    have hub := HH.out.2.usedB HZ.out
    have hZ := HZ.out
    obtain ⟨v1, v2, v3, L, p1, ⟨a1, ca1, rfl, s1, -⟩, -⟩ := (HH.out.1.file path f hx).ex
    have k0 := cell_blk p1 0 _ rfl
    obtain ⟨nn, hnn⟩ : ∃ nn, nn = f.now.length := ⟨_, rfl⟩
    rw [← hnn] at k0
    have hnnb : nn ≤ 100000000 := by omega
    obtain ⟨us, hus⟩ : ∃ us, us = S.used := ⟨_, rfl⟩
    rw [← hus] at c1 hub
    have HX := Lib.hid (And.intro hx (And.intro hfo (And.intro hnn hus)))
    clear hx hfo hnn hus p1 s1 hZ
    by_cases h0 : n < 0
    · have t0 : decide (n < 0) = true := decide_eq_true h0
      go_wp2_with fail
      go_ret
      unfold cutS
      rw [if_neg HDN.out, HX.out.1]
      simp only []
      rw [if_pos (Or.inl (by omega))]
      exact Left.same HH.out.1 (Below.refl _ _) _
    have t0 : decide (n < 0) = false := decide_eq_false h0
    by_cases h1 : (nn : Int) < n
    · have t1 : decide ((nn : Int) < n) = true := decide_eq_true h1
      go_wp2_with fail
      go_ret
      unfold cutS
      rw [if_neg HDN.out, HX.out.1]
      simp only []
      rw [if_pos (Or.inr (by rw [← HX.out.2.2.1]; exact h1))]
      exact Left.same HH.out.1 (Below.refl _ _) _
    have t1 : decide ((nn : Int) < n) = false := decide_eq_false h1
    go_upto_region 8 with (fail)
    have LU : ∀ x : Later w, x.1.cell? ⟨p, 1, none⟩ = some (.int .i64 us) := fun x => load_later c1 x
    have LN : ∀ x : Later w, x.1.cell? ⟨G path, 0, none⟩ = some (.slice a1 nn ca1) := fun x => load_later k0 x
    have hw1 : IntKind.i64.wrap ((nn : Int) - n) = (nn : Int) - n := IntWalk.i64_in _ (by omega)
    have hw2 : IntKind.i64.wrap (us - ((nn : Int) - n)) = us - ((nn : Int) - n) := IntWalk.i64_in _ (by omega)
    clear c1 c2 k0 LK
    refine wp_region_mg [(0, 0), (1, 0), (2, 0), (3, 0), (4, 0), (5, 0), (6, 0), (7, 0), (8, 0), (9, 0), (10, 0), (11, 0), (12, 0), (13, 0), (14, 2)] (by kernel_rfl) (by kernel_rfl) ?_
    iterate 14 (refine mg_calm rfl (fun K hK => ?_); go_simp; (refine hK _ ?_; clear hK K))
    refine mg_sync rfl rfl (fun w2 hw2' K hK => ?_)
    have hs2 := HH.out.1.below hw2'
    have q1 := hs2.cells.2.1
    have g1 := hs2.free 1
    have HW2 := Lib.hid hw2'
    clear LU LN f1 hw2'
    go_wp2_with fail
    refine mg_nil fun w3 hw3 => ?_
    obtain ⟨hs3, ht3⟩ := hs2.setRoot (k := 1) (v := .int .i64 (us - ((nn : Int) - n))) (S' := { S with used := us - ((nn : Int) - n) }) rfl rfl
    have hs3' := hs3.below hw3
    have T3 := Lib.hid (((Turn.below (T := Any) HW2.out HH.out.1.lt).trans (turn_root ht3)).trans (Turn.below hw3 hs3.lt))
    have hfit : Chg.fits ⟨0, n, []⟩ f.now := ⟨fun _ => by show n.toNat ≤ f.now.length; rw [← HX.out.2.2.1]; omega, fun h => absurd (show n < 0 from h) (by omega)⟩
    have CD := do_any (hs3'.file path f HX.out.1) hs3'.lt (ca := ⟨0, n, none, 0, 0⟩) (c := ⟨0, n, []⟩) ⟨rfl, rfl, SlO.nil _ _⟩ hfit (by have := HX.out.2.1; have := HZ.out; omega) (by show (0 : Nat) ≤ _; omega) (by have := HX.out.2.1; have := HZ.out; omega)
    rw [show recA encC (⟨0, n, none, 0, 0⟩ : ChgA) = #[Value.int .i64 0, Value.int .i64 n, Value.slice none 0 0] from rfl] at CD
    have H3 := Lib.hid hs3'
    clear hs2 q1 g1 hs3 ht3 hs3' hw3 hfit hw1 hw2
    go_wp2_with fail
    refine CD.mono ?_
    clear CD
    rintro e w4 ⟨rfl, own4, hf4, ht4⟩
    have hs4 := H3.out.filed (x := path) (f := doF f ⟨0, n, []⟩) (by show (getF S.files path).isSome = true; rw [HX.out.1]; rfl) ht4 hf4
    have CE := done_any hs4 (fun _ => HH.out.2.leftB)
    have H4 := Lib.hid (T3.out.trans (turn_file ht4))
    clear hs4 hf4 ht4
    go_wp2_with fail
    refine CE.mono ?_
    clear CE
    rintro e w5 ⟨rfl, hs5, ht5⟩
    have H5 := Lib.hid (And.intro hs5 (H4.out.trans (turn_root ht5)))
    clear hs5 ht5
    go_wp2_with fail
    go_ret
    unfold cutS
    rw [if_neg HDN.out, HX.out.1]
    simp only []
    rw [if_neg (by rw [← HX.out.2.2.1]; omega)]
    refine ⟨rfl, _, ⟨M, G, ?_⟩, H5.out.2⟩
    show StoreIn _ _ _ _ _ (doneS { S with used := S.used - ((f.now.length : Int) - n), files := putF S.files path (doF f ⟨0, n, []⟩) })
    rw [← HX.out.2.2.1, ← HX.out.2.2.2]
    exact H5.out.1

/-- What stands is kept. -/
theorem FileAt.synced {own : Owns} {w : World} {b : Nat} {f : FileP} (hf : FileAt own w b f) (hlt : ∀ k, own k ≠ none → k < w.heap.size) {v1 v2 v3 : Value} (h1 : w.heap[b]? = some (.cells #[v1, v2, v3] 70 (0, 0))) :
    FileAt own ((w.setCell ⟨b, 1, none⟩ v1).setCell ⟨b, 2, none⟩ (.slice none 0 0)) b (syncF f) ∧ Turn (fun o => o = some (.file b)) own own w ((w.setCell ⟨b, 1, none⟩ v1).setCell ⟨b, 2, none⟩ (.slice none 0 0)) := by
  obtain ⟨u1, u2, u3, L, p1, p2, p3, p4, p5, p6⟩ := hf.ex
  rw [p1] at h1
  injection h1 with h1
  injection h1 with h1
  simp only [Array.mk.injEq, List.cons.injEq, and_true] at h1
  obtain ⟨rfl, rfl, rfl⟩ := h1
  have ht : Turn (fun o => o = some (.file b)) own own w ((w.setCell ⟨b, 1, none⟩ u1).setCell ⟨b, 2, none⟩ (.slice none 0 0)) := ((Turn.below (Below.refl _ w) hlt).set (fun _ => hf.tag) u1).set (fun _ => hf.tag) _
  refine ⟨⟨hf.tag, u1, u1, .slice none 0 0, [], ?_, p2.turn ht hlt (by simp), p2.turn ht hlt (by simp), World.ownsRow_nil _ _ _ _, fun g hg => by simp [Value.ownBlock] at hg, .nil⟩, ht⟩
  have e1 := heap_setCell_same w b 1 _ _ u1 p1
  have e2 := heap_setCell_same _ b 2 _ _ (.slice none 0 0) e1
  exact e2

set_option maxRecDepth 100000 in
set_option maxHeartbeats 4000000 in
theorem sync_any {own : Owns} {w : World} {p M Z : Nat} {G : Bytes → Nat} {S : StP} (h : StoreIn own w p M G S) (ok : OkS Z S) (path : Bytes) (hp : path.length ≤ 100000) :
    Calls Tryd.prog 18 #[ptr p, .string (strOf path)] w fun e w' => Left own w p (syncS S path) e w' := by
  have C1 := off_any h
  obtain ⟨-, -, c2, -⟩ := h.cells
  have LK := h.map.look_ok path (by omega)
  have HH := Lib.hid (And.intro h ok)
  clear h ok hp
  obtain ⟨D, hD⟩ : ∃ D, D = S.down := ⟨_, rfl⟩
  rw [← hD] at C1
  have HD := Lib.hid hD
  clear hD
  go_enter Tryd.func18, Tryd.ntmps18
  go_wp2_with fail
  refine C1.mono ?_
  clear C1
  rintro e w' ⟨rfl, rfl⟩
  cases D
  case true =>
    go_wp2_with fail
    go_ret
    unfold syncS
    rw [if_pos HD.out.symm]
    exact Left.same HH.out.1 (Below.refl _ _) _
  have hdn : ¬ S.down = true := by rw [← HD.out]; simp
  have HDN := Lib.hid hdn
  clear hdn
  cases hx : getF S.files path with
  | none =>
    rw [hx, placeV_none hx] at LK
    have HX := Lib.hid hx
    clear hx
    go_wp2_with fail
    go_ret
    unfold syncS
    rw [if_neg HDN.out, HX.out]
    exact Left.same HH.out.1 (Below.refl _ _) _
  | some f =>
    rw [hx, placeV_some hx] at LK
    obtain ⟨v1, v2, v3, L, p1, ⟨a1, ca1, rfl, s1, -⟩, -⟩ := (HH.out.1.file path f hx).ex
    obtain ⟨hf2, ht2⟩ := (HH.out.1.file path f hx).synced HH.out.1.lt p1
    have k0 := cell_blk p1 0 _ rfl
    have k1 := cell_blk p1 1 _ rfl
    have k2 := cell_blk p1 2 _ rfl
    have g1 := free_blk p1 1
    have g2 := free_blk p1 2
    have hs2 := HH.out.1.filed (x := path) (f := syncF f) (by rw [hx]; rfl) ht2 hf2
    generalize f.now.length = n at *
    have HX := Lib.hid (And.intro hx (And.intro hs2 ht2))
    clear hx p1 s1 hs2 ht2 hf2
    go_upto_region 7 with (fail)
    have CE := done_any HX.out.2.1 (fun _ => HH.out.2.leftB)
    have T2 := Lib.hid (turn_file HX.out.2.2)
    generalize (w.setCell ⟨G path, 1, none⟩ (Value.slice a1 n ca1)).setCell ⟨G path, 2, none⟩ (Value.slice none 0 0) = w2 at *
    clear k0 k1 k2 g1 g2 LK c2
    go_wp2_with fail
    refine CE.mono ?_
    clear CE
    rintro e w5 ⟨rfl, hs5, ht5⟩
    have H5 := Lib.hid (And.intro hs5 (T2.out.trans (turn_root ht5)))
    clear hs5 ht5
    go_wp2_with fail
    go_ret
    unfold syncS
    rw [if_neg HDN.out, HX.out.1]
    exact ⟨rfl, _, ⟨M, G, H5.out.1⟩, H5.out.2⟩
end Go.Proofs.YtnlkanhakmkejaaDoor
