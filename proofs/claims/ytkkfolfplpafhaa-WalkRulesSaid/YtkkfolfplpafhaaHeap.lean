/-
  The walks of put and take of a heap of numbers.
-/
import Derived.Test.YtkkfolfplpafhaaOwn
import Derived.Test.YtkkfolfplpafhaaHeapPure
namespace Go.Proofs.Ytkkfolfplpafhaa
open Go.RowKit Go.Mix

abbrev lessV : Value := .func (.func 20) #[] #[]
/-- Block P is a heap: its row h, in a block that is none of S. -/
def HeapAt (S : Nat → Prop) (w0 w : World) (P : Nat) (h : List Nat) : Prop := ∃ v, w.heap[P]? = some (.cells #[v, lessV] 42 (0, 0)) ∧ Row S 3 w0 w v (icells h) ∧ ¬ S P

theorem two_cells {w : World} {P : Nat} {x y : Value} {t : TypeId} {fr : Nat × Nat} (h : w.heap[P]? = some (.cells #[x, y] t fr)) : w.cell? ⟨P, 0, none⟩ = some x ∧ w.cell? ⟨P, 1, none⟩ = some y := by
  simp [World.cell?, h]
theorem two_free {w : World} {P : Nat} {x y : Value} {t : TypeId} (h : w.heap[P]? = some (.cells #[x, y] t (0, 0))) (o : Nat) : w.frozen? ⟨P, o, none⟩ = false := by
  simp [World.frozen?, h]
theorem two_set {w : World} {P : Nat} {x y z : Value} {t : TypeId} {fr : Nat × Nat} (h : w.heap[P]? = some (.cells #[x, y] t fr)) :
    (w.setCell ⟨P, 0, none⟩ z).heap[P]? = some (.cells #[z, y] t fr) ∧ (w.setCell ⟨P, 1, none⟩ z).heap[P]? = some (.cells #[x, z] t fr) := by
  have hlt := lt_of_block h
  have h' : w.heap[P] = .cells #[x, y] t fr := by simpa [Array.getElem?_eq_getElem hlt] using h
  constructor
  · show (w.heap.modify P _)[P]? = _
    rw [Array.getElem?_eq_getElem (by simpa using hlt), Array.getElem_modify_self, h']; rfl
  · show (w.heap.modify P _)[P]? = _
    rw [Array.getElem?_eq_getElem (by simpa using hlt), Array.getElem_modify_self, h']; rfl

theorem less_any (x y : Int) (w : World) : Calls Try.prog 20 #[.int .i64 x, .int .i64 y] w fun e w' => e = .returned (.bool (decide (x < y))) ∧ w = w' := by
  go_enter Try.func20, Try.ntmps20
  go_wp2_with fail
  go_ret
  exact ⟨rfl, rfl⟩

theorem icells_set (l : List Nat) (k x : Nat) : (icells l).set k (.int .i64 (x : Int)) = icells (l.set k x) := by simp [icells, List.map_set]

theorem Row.idx {S : Nat → Prop} {w0 w : World} {G n c : Nat} {l : List Nat} (hr : Row S 3 w0 w (.slice (some ⟨G, 0, none⟩) n c) (icells l)) (hl : l.length ≤ 1000000) (ki : Int) (k : Nat) (hki : ki = (k : Int)) (hk : k < l.length) :
    (∀ W : World, (Instr.indexAt 24 (.slice (some ⟨G, 0, none⟩) n c) (.int .i64 ki)).run Try.prog W = .ok (.pointer (some ⟨G, k, none⟩)) W) ∧
    (∀ y : Later w, y.1.cell? ⟨G, k, none⟩ = some (.int .i64 (l.getD k 0 : Nat))) ∧ w.frozen? ⟨G, k, none⟩ = false ∧ n = l.length := by
  obtain ⟨a', c', e, hc, -, -, -⟩ := hr.slice
  rw [icells_length] at e
  injection e with e1 e2 e3
  subst e1 e2
  obtain ⟨IK, -⟩ := ints_at hc c hl ki k hki hk
  refine ⟨fun W => by have := IK W; rw [elt_own] at this; exact this, fun y => ?_, hr.free k, rfl⟩
  have := (ints_at (hc.below y.2) c hl ki k hki hk).2
  rw [elt_own] at this
  exact this

section
variable {S : Nat → Prop} {w0 w : World} {P : Nat} {h : List Nat}

set_option maxRecDepth 100000 in
set_option maxHeartbeats 1000000 in
theorem put_any (hH : HeapAt S w0 w P h) (hok : HeapOK h) (hl : h.length ≤ 1000) (x : Nat) (xi : Int) (hxi : xi = (x : Int)) :
    Calls Try.prog 21 #[.pointer (some ⟨P, 0, none⟩), .int .i64 xi] w fun e w' => e = .returned (.tuple #[]) ∧ ∃ h', HeapAt S w0 w' P h' ∧ HeapOK h' ∧ h'.length = h.length + 1 ∧ ∀ b, h'.count b = h.count b + (if x = b then 1 else 0) := by
  subst hxi
  obtain ⟨v, hP, hrow, hSP⟩ := hH
  obtain ⟨c0, c1⟩ := two_cells hP
  have f0 := two_free hP
  have HIL := Lib.hid (icells_length h)
  have hup := UpOK.snoc hok x
  go_enter Try.func21, Try.ntmps21
  go_wp2_with (at_builtin; refine wpList_append_fresh elemInt rfl (.tmp 10) (.tmp 12) rfl _ _ rfl hrow _ [.int .i64 (x : Int)] rfl 1 1 rfl rfl (by simp [Value.oneCell']) (by rw [HIL.out]; simp only [List.length_singleton]; omega) (by rw [HIL.out]; simp only [List.length_singleton]; omega) ?_; intro v5 w5 hb5 hgr5; have hP5 := (hgr5.block P (lt_of_block hP) (Ne.symm (hrow.other hP (by decide)))).trans hP; have f5 := two_free hP5; obtain ⟨c05, c15⟩ := two_cells hP5; obtain ⟨a5, k5, hv5, -, -, -, -⟩ := hb5.slice; obtain ⟨n5, hn5⟩ : ∃ n5, n5 = (icells h ++ [Value.int .i64 (x : Int)]).length := ⟨_, rfl⟩; rw [← hn5] at hv5; subst hv5; have HN5 := Lib.hid hn5; clear hn5)
  have hPx := (two_set hP5 (z := .slice a5 n5 k5)).1
  have hbx := hb5.set_other (p := ⟨P, 0, none⟩) (hb5.other hP5 (by decide)) hSP (.slice a5 n5 k5)
  obtain ⟨G, c, hv, hSG⟩ := hbx.block (by simp)
  injection hv with hv hv2 hv3
  subst hv hv3
  have hn5 : n5 = h.length + 1 := by rw [HN5.out, List.length_append, icells_length]; rfl
  have hicx : icells h ++ [Value.int .i64 (x : Int)] = icells (h ++ [x]) := by simp [icells]
  rw [hicx] at hbx
  have HN := Lib.hid hn5
  have hGP : G ≠ P := fun e => hbx.other hPx (by decide) (by rw [e]; rfl)
  generalize w5.setCell ⟨P, 0, none⟩ (.slice (some ⟨G, 0, none⟩) n5 k5) = wx at *
  clear hP hrow c0 c1 f0 hb5 hgr5 hP5 f5 c05 c15 HN5 hicx hv2
  have HC0 := Lib.hid (show ∀ b, (h ++ [x]).count b = h.count b + (if x = b then 1 else 0) from fun b => by
    rw [List.count_append, List.count_singleton]; simp only [beq_iff_eq])
  have w0' : wrap64 ((n5 : Int) - 1) = (h.length : Int) := by rw [IntWalk.wrap64_in _ ⟨by omega, by omega⟩]; omega
  have hn5b : n5 ≤ 1001 := by omega
  have hln : h.length < n5 := by omega
  rw [w0']
  clear w0' hn5
  go_loopw [4] (fun s4 wr => ∃ (i : Nat) (g : List Nat), s4 = .int .i64 (i : Int) ∧ i < n5 ∧ g.length = n5 ∧ UpOK g i ∧ (∀ b, g.count b = h.count b + (if x = b then 1 else 0)) ∧ Row S 3 w0 wr (.slice (some ⟨G, 0, none⟩) n5 k5) (icells g) ∧
    wr.heap[P]? = some (.cells #[.slice (some ⟨G, 0, none⟩) n5 k5, lessV] 42 (0, 0))) (fun s4 _ => (intOf s4).toNat)
  case atStart => exact ⟨h.length, h ++ [x], rfl, by omega, by rw [HN.out]; simp, hup, HC0.out, hbx, hPx⟩
  case round =>
    clear hbx hPx hup
    obtain ⟨i, g, rfl, hi, hgl, hu, hcnt, hrow, hP⟩ := hrel
    have HCN := Lib.hid hcnt
    have HU := Lib.hid hu
    clear hcnt hu
    by_cases hi0 : 0 < i
    · have t1 : decide ((0 : Int) < (i : Int)) = true := decide_eq_true (by omega)
      have t1' : decide (0 < i) = true := decide_eq_true hi0
      obtain ⟨u, hu⟩ : ∃ u, u = (i - 1) / 2 := ⟨_, rfl⟩
      have v1 : IntKind.i64.wrap ((i : Int) - 1) = ((i : Int) - 1) := IntWalk.i64_in _ (by omega)
      have v2 : ((i : Int) - 1).tdiv 2 = (u : Int) := by rw [Int.tdiv_eq_ediv_of_nonneg (by omega)]; omega
      have hui : u < i := by omega
      obtain ⟨IKi, ICi, fi, -⟩ := hrow.idx (by omega) (i : Int) i rfl (by omega)
      obtain ⟨IKu, ICu, fu, -⟩ := hrow.idx (by omega) (u : Int) u rfl (by omega)
      have p0 : ∀ y : Later wr, y.1.cell? ⟨P, 0, none⟩ = some (.slice (some ⟨G, 0, none⟩) n5 k5) := fun y => (two_cells (block_below hP y.2)).1
      have p1 : ∀ y : Later wr, y.1.cell? ⟨P, 1, none⟩ = some lessV := fun y => (two_cells (block_below hP y.2)).2
      have HS := Lib.hid (fun (hlt : g.getD i 0 < g.getD u 0) => (hu ▸ UpOK.step HU.out (by omega) hi0 (hu ▸ hlt) : UpOK (swapL g i u) u))
      have HSC := Lib.hid (swapL_count (h := g) (i := i) (j := u) (by omega) (by omega))
      have HDN := Lib.hid (fun (hle : g.getD u 0 ≤ g.getD i 0) => UpOK.done HU.out (hu ▸ hle))
      have HUU := Lib.hid hu
      clear hu
      have HSW := Lib.hid (show swapL g i u = (g.set i (g.getD u 0)).set u (g.getD i 0) from rfl)
      generalize g.getD i 0 = gi at *
      generalize g.getD u 0 = gu at *
      go_upto_region 4 with (fail)
      refine wp_region_mix [(0, 0), (1, 0), (2, 0), (3, 0), (4, 0), (5, 0), (6, 0), (7, 0), (8, 0), (9, 0), (10, 0), (11, 0), (12, 0), (13, 0), (14, 0), (15, 0), (16, 0), (17, 0), (18, 0), (19, 0)] (by kernel_rfl) (by kernel_rfl) ?_
      iterate 18 (refine mix_calm rfl (fun K hK => ?_); go_simp; (refine hK _ ?_; clear hK K))
      refine mix_calm rfl (fun K hK => ?_)
      go_simp
      apply Exists.intro
      refine ⟨fun x => calls_calm (less_any _ _ x.1), hK _ ?_⟩
      clear hK K
      refine mix_calm rfl (fun K hK => ?_); go_simp; (refine hK _ ?_; clear hK K)
      refine mix_nil fun w6 hw6 => ?_
      have hrow6 := hrow.later hw6
      have hP6 := block_below hP hw6
      have ICi6 : ∀ y : Later w6, y.1.cell? ⟨G, i, none⟩ = some (.int .i64 (gi : Int)) := fun y => ICi ⟨y.1, hw6.trans y.2⟩
      have ICu6 : ∀ y : Later w6, y.1.cell? ⟨G, u, none⟩ = some (.int .i64 (gu : Int)) := fun y => ICu ⟨y.1, hw6.trans y.2⟩
      clear hrow hP p0 p1 ICi ICu fi fu
      go_upto_if 46 with (fail)
      refine wp_cond_split rfl (fun hb => ?_) (fun hb => ?_)
      · have hle : gu ≤ gi := by simpa using hb
        clear hb
        go_wp2_with fail
        go_end0
        exact ⟨rfl, g, ⟨_, hP6, hrow6, hSP⟩, HDN.out hle, by rw [hgl, HN.out], HCN.out⟩
      · have hlt : gi < gu := by simpa using hb
        clear hb
        have p0 : ∀ y : Later w6, y.1.cell? ⟨P, 0, none⟩ = some (.slice (some ⟨G, 0, none⟩) n5 k5) := fun y => (two_cells (block_below hP6 y.2)).1
        have HSS := Lib.hid (HS.out hlt)
        rw [HSW.out] at HSS HSC
        clear HS HDN HSW hlt
        go_upto_region 5 with (fail)
        refine wp_region_mix [(0, 0), (1, 0), (2, 0), (3, 0), (4, 0), (5, 0), (6, 0), (7, 0), (8, 0), (9, 3), (10, 0), (11, 0), (12, 0), (13, 0), (14, 0), (15, 0), (16, 0), (17, 0), (18, 0), (19, 0), (20, 0), (21, 0), (22, 0), (23, 0), (24, 0), (25, 2), (26, 0), (27, 2)] (by kernel_rfl) (by kernel_rfl) ?_
        iterate 9 (refine mix_calm rfl (fun K hK => ?_); go_simp; (refine hK _ ?_; clear hK K))
        refine mix_pure rfl (fun K hK => ?_); go_simp; (refine hK _ ?_; clear hK K)
        iterate 15 (refine mix_calm rfl (fun K hK => ?_); go_simp; (refine hK _ ?_; clear hK K))
        refine mix_sync rfl rfl (fun w8 hw8 K hK => ?_)
        have hrow8 := hrow6.later hw8
        have hP8 := block_below hP6 hw8
        have ci : w8.cell? ⟨G, i, none⟩ = some (.int .i64 (gi : Int)) := ICi6 ⟨w8, hw8⟩
        have fi8 := hrow8.free i
        have hrow9 := (hrow8.stored i (.int .i64 (gu : Int))).1
        rw [icells_set] at hrow9
        have hP9 : (w8.setCell ⟨G, i, none⟩ (.int .i64 (gu : Int))).heap[P]? = some (.cells #[.slice (some ⟨G, 0, none⟩) n5 k5, lessV] 42 (0, 0)) := (Below.heap_setCell _ _ _ _ (fun e => hGP e.symm)).trans hP8
        clear hrow6 hP6 p0 ICi6 ICu6 IKi hrow8 hP8 hw8
        go_wp2_with fail
        clear ci fi8
        generalize w8.setCell ⟨G, i, none⟩ (.int .i64 (gu : Int)) = w9 at *
        iterate 1 (refine mix_calm rfl (fun K hK => ?_); go_simp; (refine hK _ ?_; clear hK K))
        refine mix_sync rfl rfl (fun w10 hw10 K hK => ?_)
        have hrow10 := hrow9.later hw10
        have hP10 := block_below hP9 hw10
        have hgs : (g.set i gu).length = g.length := List.length_set
        obtain ⟨-, ICu, fu, -⟩ := hrow10.idx (by omega) (u : Int) u rfl (by omega)
        have cu : w10.cell? ⟨G, u, none⟩ = some (.int .i64 ((g.set i gu).getD u 0 : Nat)) := ICu ⟨w10, Grow.refl _⟩
        have hrow11 := (hrow10.stored u (.int .i64 (gi : Int))).1
        rw [icells_set] at hrow11
        have hP11 : (w10.setCell ⟨G, u, none⟩ (.int .i64 (gi : Int))).heap[P]? = some (.cells #[.slice (some ⟨G, 0, none⟩) n5 k5, lessV] 42 (0, 0)) := (Below.heap_setCell _ _ _ _ (fun e => hGP e.symm)).trans hP10
        clear hrow9 hP9 hw10 hrow10 hP10 ICu IKu
        go_wp2_with fail
        clear cu fu
        generalize w10.setCell ⟨G, u, none⟩ (.int .i64 (gi : Int)) = w11 at *
        refine mix_nil fun w12 hw12 => ?_
        have hrow12 := hrow11.later hw12
        have hP12 := block_below hP11 hw12
        clear hrow11 hP11 hw12
        go_wp2_with fail
        go_roundw
        case rel => exact ⟨u, (g.set i gu).set u gi, rfl, by omega, by rw [List.length_set, List.length_set]; exact hgl, HSS.out, fun b => by rw [HSC.out]; exact HCN.out b, hrow12, hP12⟩
        case measure => simp [intOf]; omega
    · obtain rfl : i = 0 := by omega
      have t1 : decide ((0 : Int) < ((0 : Nat) : Int)) = false := decide_eq_false (by omega)
      go_wp2_with fail
      go_end0
      exact ⟨rfl, g, ⟨_, hP, hrow, hSP⟩, HU.out.done0, by rw [hgl, HN.out], HCN.out⟩
end

end Go.Proofs.Ytkkfolfplpafhaa
