/-
  The law's Few of acts: the walk.
-/
import Derived.Test.YthjjdcfkdmhmlaaDoorActDo
import Derived.Test.YthjjdcfkdmhmlaaDoorBuild
import Derived.Test.YthjjdcfkdmhmlaaDoorBox
import Derived.Test.YthjjdcfkdmhmlaaDoorStFns
namespace Go.Proofs.YthjjdcfkdmhmlaaDoor
open Go.RowKit Go.Mix Go.WideMaps Go.Maps Go.WideShapes Go.ChangeShapes

theorem u64_modF (n : Int) (K : Nat) (h0 : 0 < K) (h1 : K ≤ 9223372036854775807) : ∃ m : Nat, m < K ∧ wrap64 ((IntKind.u64.wrap n).tmod K) = (m : Int) := by
  have hw : IntKind.u64.wrap n = n % 18446744073709551616 := IntKind.wrap_u64 n
  have h2 : 0 ≤ IntKind.u64.wrap n := by rw [hw]; omega
  refine ⟨((IntKind.u64.wrap n).tmod K).toNat, ?_, ?_⟩
  · have := Int.tmod_lt_of_pos (IntKind.u64.wrap n) (b := (K : Int)) (by omega)
    have h3 := Int.tmod_nonneg (K : Int) h2
    omega
  · have := Int.tmod_lt_of_pos (IntKind.u64.wrap n) (b := (K : Int)) (by omega)
    have h3 := Int.tmod_nonneg (K : Int) h2
    unfold wrap64
    omega

theorem mg_pure7 {P : Program} {ops : Array Oper} {Q : Go.Act → World → Prop} {i : Nat} {r : List (Nat × Nat)} {o : Oper} {a : Go.Act} {w : World} (ho : ops[i]? = some o)
    (h : ∀ K : Go.Act → Prop, (∀ a, MG P ops Q r a w → K a) → pureStep P ops o K a) : MG P ops Q ((i, 3) :: r) a w :=
  ⟨mix_pure ho fun K hK => h K fun a h => hK a h.out⟩

/-- An act in a box of one's own. -/
structure Bx (w0 w : World) (G : Nat) (x : ActA) : Prop where
  blk : w.heap[G]? = some (.cells (recA encA x) 49 (0, 0))
  frame : Below w0.heap.size w0 w
  far : w0.heap.size ≤ G
section
variable {w0 w w' : World} {G : Nat} {x x' : ActA}
theorem Bx.below (h : Bx w0 w G x) (g : Below w.heap.size w w') : Bx w0 w' G x := ⟨(g.block G (lt_of_block h.blk)).trans h.blk, h.frame.trans (g.mono h.frame.size), h.far⟩
theorem Bx.cells (h : Bx w0 w G x) :
    w.cell? ⟨G, 0, none⟩ = some (.int .i64 x.kind) ∧ w.cell? ⟨G, 1, none⟩ = some (.string (strOf x.path)) ∧ w.cell? ⟨G, 2, none⟩ = some (.string (strOf x.dst)) ∧ w.cell? ⟨G, 3, none⟩ = some (.int .i64 x.num) ∧ w.cell? ⟨G, 4, none⟩ = some (.slice x.ba x.bn x.bc) ∧ w.cell? ⟨G, 5, none⟩ = some (.slice x.ka x.kn x.kc) :=
  act_cells (x := x) (w := w) (b := G) (q := 0) (recBox h.blk)
theorem Bx.free (h : Bx w0 w G x) (k : Nat) : w.frozen? ⟨G, k, none⟩ = false := free_blk h.blk k
theorem Bx.set (h : Bx w0 w G x) (k : Nat) (v : Value) (hC : (recA encA x).setIfInBounds k v = recA encA x') : Bx w0 (w.setCell ⟨G, k, none⟩ v) G x' := by
  refine ⟨?_, ⟨h.frame.os, h.frame.tape, h.frame.output, by have := h.frame.size; simpa [World.setCell] using this, fun j hj => (Below.heap_setCell _ _ _ _ (by show j ≠ G; have := h.far; omega)).trans (h.frame.block j hj)⟩, h.far⟩
  have := Go.heap_setCell_same w G k _ _ v h.blk
  rw [this, hC]
theorem Bx.load (h : Bx w0 w G x) : (Instr.loadAt 49 (.pointer (some ⟨G, 0, none⟩))).run Tryd.prog w = .ok (.agg (recA encA x)) w := tyA.load x G 0 w (recBox h.blk)
end
theorem wpList_store_bx {ops : Array Oper} {rest : List Oper} {o : Oper} {a : Go.Act} {w : World} {Q : Exit → Go.Act → World → Prop} (hgd : o.guard = none) (x y : Operand) (ho : o.op = .store 49 x y) (w0 : World) (hf : Below w0.heap.size w0 w)
    (g : Nat) (c : ActA) (hx : a.eval x = .pointer (some ⟨g, 0, none⟩)) (hy : a.eval y = .agg (recA encA c)) (hg0 : w0.heap.size ≤ g)
    (old : Array Value) (hg : w.heap[g]? = some (.cells old 49 (0, 0))) (hold : old.size = 6)
    (h : ∀ w1, Bx w0 w1 g c → wpList Tryd.prog ops Q rest (a.put o.dst undef) w1) : wpList Tryd.prog ops Q (o :: rest) a w :=
  wpList_store_row hgd 49 x y ho g (recA encA c) hx hy 49 old hg (by rw [show (recA encA c).size = 6 from rfl]; exact tyA.ie) hold (all_oneCell_toArray (tyA.one c))
    (h _ ⟨setRow_heap _ _ _ _ _ _ hg, below_setRow hf hg0 _, hg0⟩)

set_option maxRecDepth 100000 in
set_option maxHeartbeats 4000000 in
theorem few_any {w : World} {l : List ActA} {a : Option Addr} {cap : Nat} (hg : RsAt encA 6 w a cap l) (hx : ∀ p ∈ l, ActIs w p) :
    Calls Tryd.prog 18 #[.slice a l.length cap] w fun e w' => ∃ v L X, e = .returned v ∧ OwnR encA 6 49 w w' v L ∧ L.length ≤ 60 ∧ All2 (ActOf w) L X := by
  obtain ⟨n, hn⟩ : ∃ n, n = l.length := ⟨_, rfl⟩
  have HN := Lib.hid (And.intro hn hx)
  have HG := Lib.hid hg
  rw [← hn]
  obtain ⟨m, hm⟩ : ∃ m, m = min n 60 := ⟨_, rfl⟩
  clear hn hg hx
  have hF0 : Below w.heap.size w w := Below.refl _ _
  go_enter Tryd.func18, Tryd.ntmps18
  go_wp2_with fail
  go_loopw [3, 4] (fun s3 s4 wr => ∃ (i : Nat) (v : Value) (L : List ActA) (X : List ActP), v = s3 ∧ s4 = .int .i64 (i : Int) ∧ i ≤ m ∧ L.length = i ∧ OwnR encA 6 49 w wr v L ∧ All2 (ActOf w) L X) (fun _ s4 _ => m - (intOf s4).toNat)
  case atStart => exact ⟨0, _, [], [], rfl, rfl, Nat.zero_le _, rfl, OwnR.nil hF0, .nil⟩
  case round =>
    obtain ⟨i, v, L, X, rfl, rfl, hi, hLl, hrow, hall⟩ := hrel
    have HL := Lib.hid (And.intro hLl (And.intro hrow hall))
    by_cases him : i < m
    · have t1 : decide ((i : Int) < (n : Int)) = true := decide_eq_true (by omega)
      have t1' : decide (i < n) = true := decide_eq_true (by omega)
      have t2 : decide ((i : Int) < 60) = true := decide_eq_true (by omega)
      have t2' : decide (i < 60) = true := decide_eq_true (by omega)
      have hil : i < l.length := by rw [← HN.out.1]; omega
      obtain ⟨b, q, IX, R, LD⟩ := (HG.out.below hrow.frame).at tyA (i : Int) i rfl hil
      rw [← HN.out.1] at IX
      have LD0 := LD wr (Below.refl _ _)
      have hxi := HN.out.2 l[i]! (by rw [getElem!_pos l i hil]; exact List.getElem_mem hil)
      generalize l[i]! = x at *
      have HX := Lib.hid hxi
      have F0 : Below wr.heap.size wr wr := Below.refl _ _
      clear LD R hil hxi hrow hall hLl
      go_upto_region 6 with (first | (refine wpList_load_at rfl _ _ rfl _ _ rfl LD0 ?_) | (refine wpList_store_bx rfl _ _ rfl wr ((Below.refl _ _).alloc (Nat.le_refl _) _) wr.heap.size x rfl rfl (Nat.le_refl _) _ (heap_alloc_last _ _ _ rfl) rfl ?_; intro w1 hb1; have H1 := Lib.hid hb1; clear hb1))
      obtain ⟨kind, path, dst, num, ba, bn, bc, ka, kn, kc⟩ := x
      obtain ⟨k0, -, -, -, -, -⟩ := H1.out.cells
      have f0 := H1.out.free 0
      obtain ⟨k, hk7, ek⟩ := u64_modF kind 7 (by decide) (by decide)
      change wrap64 ((IntKind.u64.wrap kind).tmod 7) = _ at ek
      dsimp only at k0
      clear F0 LD0 IX
      go_upto_region 7 with (fail)
      have H2 := Lib.hid (H1.out.set (x' := ⟨(k : Int), path, dst, num, ba, bn, bc, ka, kn, kc⟩) 0 (.int .i64 (k : Int)) rfl)
      clear k0 f0 ek
      generalize w1.setCell ⟨wr.heap.size, 0, none⟩ (.int .i64 (k : Int)) = w2 at *
      obtain ⟨-, k1, k2, -, -, -⟩ := H2.out.cells
      dsimp only at k1 k2
      have LC1 : ∀ y : Later w2, y.1.cell? ⟨wr.heap.size, 1, none⟩ = some (.string (strOf path)) := fun y => load_later k1 y
      have LC2 : ∀ y : Later w2, y.1.cell? ⟨wr.heap.size, 2, none⟩ = some (.string (strOf dst)) := fun y => load_later k2 y
      obtain ⟨n1, hn1⟩ : ∃ n1, n1 = path.length := ⟨_, rfl⟩
      obtain ⟨n2, hn2⟩ : ∃ n2, n2 = dst.length := ⟨_, rfl⟩
      obtain ⟨q1, hq1⟩ : ∃ q1, q1 = min n1 300 := ⟨_, rfl⟩
      obtain ⟨q2, hq2⟩ : ∃ q2, q2 = min n2 300 := ⟨_, rfl⟩
      have M1 := min_run (n1 : Int) 300 q1 (by split <;> omega)
      have M2 := min_run (n2 : Int) 300 q2 (by split <;> omega)
      have S1 := str_to Tryd.underlying9 path (i := q1) (by omega)
      have S2 := str_to Tryd.underlying9 dst (i := q2) (by omega)
      have z1 : (strOf path).size = n1 := by rw [strOf_size, hn1]
      have z2 : (strOf dst).size = n2 := by rw [strOf_size, hn2]
      obtain ⟨pa, hpa⟩ : ∃ pa, pa = path.take q1 := ⟨_, rfl⟩
      obtain ⟨ds, hds⟩ : ∃ ds, ds = dst.take q2 := ⟨_, rfl⟩
      have HP := Lib.hid (And.intro (show pa.length ≤ 300 by rw [hpa, List.length_take]; omega) (show ds.length ≤ 300 by rw [hds, List.length_take]; omega))
      rw [← hpa] at S1
      rw [← hds] at S2
      clear k1 k2 hn1 hn2 hq1 hq2 hpa hds
      refine wp_region_mg [(0, 0), (1, 0), (2, 0), (3, 0), (4, 0), (5, 0), (6, 0), (7, 0), (8, 0), (9, 0), (10, 0), (11, 3), (12, 3), (13, 3), (14, 0), (15, 2), (16, 0), (17, 2)] (by kernel_rfl) (by kernel_rfl) ?_
      iterate 6 (refine mg_calm rfl (fun K hK => ?_); go_simp; (refine hK _ ?_; clear hK K))
      refine mg_slice rfl rfl _ _ _ _ _ rfl _ _ _ _ _ rfl rfl rfl rfl S1 ?_
      iterate 4 (refine mg_calm rfl (fun K hK => ?_); go_simp; (refine hK _ ?_; clear hK K))
      iterate 3 (refine mg_pure7 rfl (fun K hK => ?_); go_simp; (refine hK _ ?_; clear hK K))
      clear LC1 LC2 M1 M2 S1 S2 z1 z2
      iterate 1 (refine mg_calm rfl (fun K hK => ?_); go_simp; (refine hK _ ?_; clear hK K))
      refine mg_sync rfl rfl (fun w3 hw3 K hK => ?_)
      have H3 := Lib.hid (H2.out.below hw3)
      obtain ⟨-, k1, -, -, -, -⟩ := H3.out.cells
      have f1 := H3.out.free 1
      dsimp only at k1
      clear hw3
      go_wp2_with fail
      have H4 := Lib.hid (H3.out.set (x' := ⟨(k : Int), pa, dst, num, ba, bn, bc, ka, kn, kc⟩) 1 (.string (strOf pa)) rfl)
      clear k1 f1
      generalize w3.setCell ⟨wr.heap.size, 1, none⟩ (.string (strOf pa)) = w4 at *
      iterate 1 (refine mg_calm rfl (fun K hK => ?_); go_simp; (refine hK _ ?_; clear hK K))
      refine mg_sync rfl rfl (fun w5 hw5 K hK => ?_)
      have H5 := Lib.hid (H4.out.below hw5)
      obtain ⟨-, -, k2, -, -, -⟩ := H5.out.cells
      have f2 := H5.out.free 2
      dsimp only at k2
      clear hw5
      go_wp2_with fail
      have H6 := Lib.hid (H5.out.set (x' := ⟨(k : Int), pa, ds, num, ba, bn, bc, ka, kn, kc⟩) 2 (.string (strOf ds)) rfl)
      clear k2 f2
      generalize w5.setCell ⟨wr.heap.size, 2, none⟩ (.string (strOf ds)) = w6 at *
      refine mg_nil fun w7 hw7 => ?_
      have H7 := Lib.hid (H6.out.below hw7)
      clear hw7
      obtain ⟨-, -, -, -, k4, -⟩ := H7.out.cells
      have f4 := H7.out.free 4
      dsimp only at k4
      obtain ⟨bb, hbn, hbs⟩ := HX.out.bytes
      obtain ⟨KK, hkn, hks⟩ := HX.out.keep
      dsimp only at hbn hbs hkn hks
      obtain ⟨q4, hq4⟩ : ∃ q4, q4 = min bn 300 := ⟨_, rfl⟩
      obtain ⟨q5, hq5⟩ : ∃ q5, q5 = min kn 20 := ⟨_, rfl⟩
      have M4 := min_run (bn : Int) 300 q4 (by split <;> omega)
      have M5 := min_run (kn : Int) 20 q5 (by split <;> omega)
      have S4 : ∀ W : World, (Instr.slice 28 (.slice ba bn bc) none (some (.int .i64 (q4 : Int))) none).run Tryd.prog W = .ok (.slice ba q4 bc) W := fun W => run_slice_to 28 Tryd.underlying28 ba bn bc q4 (by have := hbs.le; omega) hbs.non (n := 1) (fun w => by kernel_rfl) W
      have S5 : ∀ W : World, (Instr.slice 47 (.slice ka kn kc) none (some (.int .i64 (q5 : Int))) none).run Tryd.prog W = .ok (.slice ka q5 kc) W := fun W => by
        have h1 := hks.to1 tyI (j := q5) (by omega) (q5 : Int) rfl W
        rw [← hkn] at h1
        exact h1
      have HA : Hid (ActOf w ⟨(k : Int), pa, ds, num, ba, q4, bc, ka, q5, kc⟩ ⟨k, pa, ds, num, bb.take q4, KK.take q5⟩) := Lib.hid
        { kind := rfl, few := hk7, path := rfl, dst := rfl, num := rfl
          wf := bounds_i64 HX.out.num
          pl := HP.out.1, dl := HP.out.2, bl := by rw [List.length_take]; omega, kl := by rw [List.length_take]; omega
          bn := by show q4 = (bb.take q4).length; rw [List.length_take]; omega
          bs := ⟨hbs.bs.take q4, by have := hbs.le; show (bb.take q4).length ≤ bc; rw [List.length_take]; omega, hbs.max, hbs.non⟩
          kn := by show q5 = (KK.take q5).length; rw [List.length_take]; omega
          ks := hks.take q5 }
      clear hbn hbs hkn hks hq4 hq5
      go_upto_region 9 with (fail)
      have H8 := Lib.hid (H7.out.set (x' := ⟨(k : Int), pa, ds, num, ba, q4, bc, ka, kn, kc⟩) 4 (.slice ba q4 bc) rfl)
      clear k4 f4 M4 S4
      generalize w7.setCell ⟨wr.heap.size, 4, none⟩ (.slice ba q4 bc) = w8 at *
      obtain ⟨-, -, -, -, -, k5⟩ := H8.out.cells
      have f5 := H8.out.free 5
      dsimp only at k5
      go_upto_region 10 with (fail)
      have H9 := Lib.hid (H8.out.set (x' := ⟨(k : Int), pa, ds, num, ba, q4, bc, ka, q5, kc⟩) 5 (.slice ka q5 kc) rfl)
      clear k5 f5 M5 S5
      generalize w8.setCell ⟨wr.heap.size, 5, none⟩ (.slice ka q5 kc) = w9 at *
      obtain ⟨y, hy⟩ : ∃ y, y = (⟨(k : Int), pa, ds, num, ba, q4, bc, ka, q5, kc⟩ : ActA) := ⟨_, rfl⟩
      have L9 := H9.out.load
      have B9 := tyA.slice1 y w9
      have HA9 := HA.out
      rw [← hy] at L9 HA9
      have P9 := RsAt.one (enc := encA) (L := 6) w9 49 y
      have R9 := (HL.out.2.1.later H9.out.frame).later ((Below.refl _ w9).alloc (Nat.le_refl _) (.cells (recA encA y) 49))
      have HR := Lib.hid (And.intro R9 (And.intro P9 HA9))
      clear hy R9 P9 HA9
      go_wp2_with (first | (refine wpList_load_at rfl _ _ rfl _ _ rfl L9 ?_) | (refine wpList_buildSlice_at rfl _ _ _ rfl [(0, .agg (recA encA y))] _ rfl B9 ?_) | (refine wpList_append_r tyA rfl (.tmp 58) (.tmp 60) rfl v L rfl HR.out.1 _ 1 _ [y] rfl rfl HR.out.2.1 (by have := HL.out.1; simp; omega) ?_; intro v10 w10 hr10 hg10 hz10; have H10 := Lib.hid hr10; clear hr10 hg10 hz10 L9 B9))
      go_roundw
      case rel => exact ⟨i + 1, v10, L ++ [y], X ++ [_], rfl, by go_num, by omega, by rw [List.length_append, HL.out.1]; rfl, H10.out, HL.out.2.2.append (All2.one HR.out.2.2)⟩
      case measure => simp [intOf]; omega
    · obtain rfl : i = m := by omega
      clear hrow hall hLl
      by_cases hin : i < n
      · have t1 : decide ((i : Int) < (n : Int)) = true := decide_eq_true (by omega)
        have t1' : decide (i < n) = true := decide_eq_true hin
        have t2 : decide ((i : Int) < 60) = false := decide_eq_false (by omega)
        have t2' : decide (i < 60) = false := decide_eq_false (by omega)
        go_wp2_with fail
        go_ret
        exact ⟨v, L, X, rfl, HL.out.2.1, by have := HL.out.1; omega, HL.out.2.2⟩
      · have t1 : decide ((i : Int) < (n : Int)) = false := decide_eq_false (by omega)
        have t1' : decide (i < n) = false := decide_eq_false hin
        go_wp2_with fail
        go_ret
        exact ⟨v, L, X, rfl, HL.out.2.1, by have := HL.out.1; omega, HL.out.2.2⟩
end Go.Proofs.YthjjdcfkdmhmlaaDoor
