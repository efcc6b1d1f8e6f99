/-
  The walk of take of a heap of numbers.
-/
import Derived.Test.YtkkfolfplpafhaaHeap
import Derived.Deep.QuietTactic
import Derived.BigQuiet
namespace Go.Proofs.Ytkkfolfplpafhaa
open Go.RowKit Go.Mix

theorem Row.cut {S : Nat → Prop} {e : TypeId} {w0 w : World} {g n c : Nat} {xs : List Value} (hr : Row S e w0 w (.slice (some ⟨g, 0, none⟩) n c) xs) (k : Nat) (hk : k ≤ xs.length) : Row S e w0 w (.slice (some ⟨g, 0, none⟩) k c) (xs.take k) := by
  have hl : (xs.take k).length = k := by rw [List.length_take]; omega
  refine ⟨?_, hr.off, hr.frame⟩
  rcases hr.own.2 with ⟨h, _⟩ | ⟨g', cap, cur, hv, hb, hh, hn, hm, hs, ht⟩
  · cases h
  · injection hv with h1 h2 h3
    injection h1 with h1
    injection h1 with h1
    subst h1 h3
    rw [hl]
    refine ⟨by rw [hl, Nat.mul_one], .inr ⟨g, c, cur, rfl, hb, hh, by omega, hm, hs, ?_⟩⟩
    rw [Nat.mul_one] at ht ⊢
    rw [← ht, List.take_take]
    congr 1
    omega

/-- The least of a thing and those below it. -/
def pickJ (g : List Nat) (i : Nat) : Nat → Nat
  | 0 => i
  | j + 1 => if 2 * i + 1 + j < g.length ∧ g.getD (2 * i + 1 + j) 0 < g.getD (pickJ g i j) 0 then 2 * i + 1 + j else pickJ g i j
theorem pick_two (g : List Nat) (i : Nat) : (pickJ g i 2 = i ∧ ∀ j, 0 < j → j < g.length → (j - 1) / 2 = i → g.getD i 0 ≤ g.getD j 0) ∨
    (i < pickJ g i 2 ∧ pickJ g i 2 < g.length ∧ (pickJ g i 2 - 1) / 2 = i ∧ g.getD (pickJ g i 2) 0 < g.getD i 0 ∧ ∀ j, 0 < j → j < g.length → (j - 1) / 2 = i → g.getD (pickJ g i 2) 0 ≤ g.getD j 0) := by
  have hch : ∀ j, 0 < j → (j - 1) / 2 = i → j = 2 * i + 1 + 0 ∨ j = 2 * i + 1 + 1 := fun j h1 h2 => by omega
  have e1 : pickJ g i 1 = if 2 * i + 1 + 0 < g.length ∧ g.getD (2 * i + 1 + 0) 0 < g.getD i 0 then 2 * i + 1 + 0 else i := rfl
  have e2 : pickJ g i 2 = if 2 * i + 1 + 1 < g.length ∧ g.getD (2 * i + 1 + 1) 0 < g.getD (pickJ g i 1) 0 then 2 * i + 1 + 1 else pickJ g i 1 := rfl
  by_cases h1 : 2 * i + 1 + 0 < g.length ∧ g.getD (2 * i + 1 + 0) 0 < g.getD i 0
  · rw [if_pos h1] at e1
    rw [e1] at e2
    by_cases h2 : 2 * i + 1 + 1 < g.length ∧ g.getD (2 * i + 1 + 1) 0 < g.getD (2 * i + 1 + 0) 0
    · rw [if_pos h2] at e2
      rw [e2]
      refine .inr ⟨by omega, h2.1, by omega, by omega, fun j hj hl hp => ?_⟩
      rcases hch j hj hp with rfl | rfl <;> omega
    · rw [if_neg h2] at e2
      rw [e2]
      refine .inr ⟨by omega, h1.1, by omega, h1.2, fun j hj hl hp => ?_⟩
      rcases hch j hj hp with rfl | rfl <;> omega
  · rw [if_neg h1] at e1
    rw [e1] at e2
    by_cases h2 : 2 * i + 1 + 1 < g.length ∧ g.getD (2 * i + 1 + 1) 0 < g.getD i 0
    · rw [if_pos h2] at e2
      rw [e2]
      refine .inr ⟨by omega, h2.1, by omega, h2.2, fun j hj hl hp => ?_⟩
      rcases hch j hj hp with rfl | rfl <;> omega
    · rw [if_neg h2] at e2
      rw [e2]
      refine .inl ⟨rfl, fun j hj hl hp => ?_⟩
      rcases hch j hj hp with rfl | rfl <;> omega
theorem index_two (x y : Int) (W : World) : (Instr.index 50 (.agg #[.int .i64 x, .int .i64 y]) (.int .i64 0)).run Try.prog W = .ok (.int .i64 x) W ∧ (Instr.index 50 (.agg #[.int .i64 x, .int .i64 y]) (.int .i64 1)).run Try.prog W = .ok (.int .i64 y) W := by
  constructor <;> kernel_rfl
theorem pick_le (g : List Nat) (i j : Nat) : pickJ g i j < g.length ∨ pickJ g i j = i := by
  induction j with
  | zero => exact .inr rfl
  | succ j ih =>
    rw [pickJ]
    split
    · rename_i h; exact .inl h.1
    · exact ih

section
variable {S : Nat → Prop} {w0 w : World} {P : Nat} {h : List Nat}

set_option maxRecDepth 100000 in
set_option maxHeartbeats 4000000 in
theorem take_any (hH : HeapAt S w0 w P h) (hok : HeapOK h) (hl : h.length ≤ 1001) (hne : 0 < h.length) :
    Calls Try.prog 22 #[.pointer (some ⟨P, 0, none⟩)] w fun e w' => e = .returned (.int .i64 (h.getD 0 0 : Nat)) ∧ ∃ h', HeapAt S w0 w' P h' ∧ HeapOK h' ∧ h'.length = h.length - 1 ∧ ∀ b, h'.count b + (if h.getD 0 0 = b then 1 else 0) = h.count b := by
  obtain ⟨v, hP, hrow, hSP⟩ := hH
  have hicne : icells h ≠ [] := fun e => by
    have e2 : h.length = 0 := by rw [← icells_length, e]; rfl
    omega
  obtain ⟨G, c, rfl, hSG⟩ := hrow.block hicne
  rw [icells_length] at hrow hP
  have hGP : G ≠ P := fun e => hrow.other hP (by decide) (by rw [e]; rfl)
  have hdn := takeL_down hok
  have HTC := Lib.hid (takeL_count hne)
  have htl := takeL_len h
  obtain ⟨n, hn⟩ : ∃ n, n = h.length - 1 := ⟨_, rfl⟩
  have hh : h.length = n + 1 := by omega
  obtain ⟨IK0, IC0, f0, -⟩ := hrow.idx (by omega) 0 0 rfl (by omega)
  obtain ⟨IKn, ICn, fn, -⟩ := hrow.idx (by omega) (n : Int) n rfl (by omega)
  have p0 : ∀ y : Later w, y.1.cell? ⟨P, 0, none⟩ = some (.slice (some ⟨G, 0, none⟩) h.length c) := fun y => (two_cells (block_below hP y.2)).1
  have p00 := p0 ⟨w, Grow.refl _⟩
  have IC00 := IC0 ⟨w, Grow.refl _⟩
  have HTL := Lib.hid (show takeL h = (h.set 0 (h.getD n 0)).take n by unfold takeL; rw [← hn])
  rw [← hn] at htl
  have HTLL := Lib.hid htl
  rw [hh] at hrow hP p0 p00 IK0 IKn
  have w1' : IntKind.i64.wrap (((n + 1 : Nat) : Int) - 1) = (n : Int) := by rw [IntWalk.i64_in _ (by omega)]; omega
  have hn1 : n ≤ 1000 := by omega
  have HHL := Lib.hid hh
  generalize h.getD 0 0 = x at *
  generalize hgn : h.getD n 0 = y at *
  clear hn htl hgn hl hne hh
  simp only at p00 IC00
  go_enter Try.func22, Try.ntmps22
  go_upto_region 3 with (fail)
  refine wp_region_mix [(0, 0), (1, 0), (2, 0), (3, 0), (4, 0), (5, 0), (6, 0), (7, 0), (8, 0), (9, 0), (10, 0), (11, 0), (12, 2)] (by kernel_rfl) (by kernel_rfl) ?_
  iterate 12 (refine mix_calm rfl (fun K hK => ?_); go_simp; (refine hK _ ?_; clear hK K))
  refine mix_sync rfl rfl (fun w8 hw8 K hK => ?_)
  have hrow8 := hrow.later hw8
  have hP8 := block_below hP hw8
  have ci : w8.cell? ⟨G, 0, none⟩ = some (.int .i64 (x : Int)) := IC0 ⟨w8, hw8⟩
  have fi8 := hrow8.free 0
  have hrow9 := (hrow8.stored 0 (.int .i64 (y : Int))).1
  rw [icells_set] at hrow9
  have hP9 : (w8.setCell ⟨G, 0, none⟩ (.int .i64 (y : Int))).heap[P]? = some (.cells #[.slice (some ⟨G, 0, none⟩) (n + 1) c, lessV] 42 (0, 0)) := (Below.heap_setCell _ _ _ _ (fun e => hGP e.symm)).trans hP8
  clear hrow hP p0 p00 IC0 IC00 ICn f0 fn IK0 IKn hrow8 hP8 hw8
  go_wp2_with fail
  clear ci fi8
  generalize w8.setCell ⟨G, 0, none⟩ (.int .i64 (y : Int)) = w9 at *
  refine mix_nil fun w10 hw10 => ?_
  have hrow10 := hrow9.later hw10
  have hP10 := block_below hP9 hw10
  clear hrow9 hP9 hw10
  have hc : n + 1 ≤ c ∧ c ≤ 9223372036854775807 := by
    obtain ⟨a', c', e, -, h1, h2, -⟩ := hrow10.slice
    rw [icells_length, List.length_set, HHL.out] at e h1
    injection e with e1 e2 e3
    subst e3
    exact ⟨h1, h2⟩
  have SL : ∀ W : World, (Instr.slice 24 (.slice (some ⟨G, 0, none⟩) (n + 1) c) none (some (.int .i64 (n : Int))) none).run Try.prog W = .ok (.slice (some ⟨G, 0, none⟩) n c) W := fun W =>
    run_slice_to (P := Try.prog) 24 Try.underlying24 (some ⟨G, 0, none⟩) (n + 1) c n (by omega) (fun h => nomatch h) sizeOf_int W
  have c10 := (two_cells hP10).1
  have f10 := two_free hP10
  have hrow11 := hrow10.cut n (by rw [icells_length, List.length_set, HHL.out]; omega)
  have hit : (icells (h.set 0 y)).take n = icells (takeL h) := by rw [HTL.out]; simp [icells, List.map_take]
  rw [hit] at hrow11
  have hPx := (two_set hP10 (z := .slice (some ⟨G, 0, none⟩) n c)).1
  have hbx := hrow11.set_other (p := ⟨P, 0, none⟩) (fun e => hGP (by injection e)) hSP (.slice (some ⟨G, 0, none⟩) n c)
  clear hit hrow10 hrow11
  go_wp2_with fail
  generalize w10.setCell ⟨P, 0, none⟩ (.slice (some ⟨G, 0, none⟩) n c) = wx at *
  have htl := HTLL.out
  generalize takeL h = h1 at *
  clear hP10 c10 f10 SL HTL HTLL
  go_loopw [5] (fun s5 wr => ∃ (i : Nat) (g : List Nat), s5 = .int .i64 (i : Int) ∧ i ≤ n ∧ g.length = n ∧ DownOK g i ∧ (∀ b, g.count b = h1.count b) ∧ Row S 3 w0 wr (.slice (some ⟨G, 0, none⟩) n c) (icells g) ∧
    wr.heap[P]? = some (.cells #[.slice (some ⟨G, 0, none⟩) n c, lessV] 42 (0, 0))) (fun s5 _ => n - (intOf s5).toNat)
  case atStart => exact ⟨0, h1, rfl, Nat.zero_le _, htl, hdn, fun _ => rfl, hbx, hPx⟩
  case round =>
    clear hbx hPx hdn htl
    obtain ⟨i, g, rfl, hi, hgl, hd, hcnt, hrow, hP⟩ := hrel
    have HCN := Lib.hid hcnt
    have HD := Lib.hid hd
    have HGL := Lib.hid hgl
    have HPI := Lib.hid (pick_two g i)
    have hle2 := pick_le g i 2
    rw [hgl] at hle2
    have HP2 := Lib.hid hle2
    clear hcnt hd hle2
    have v1 : IntKind.i64.wrap (2 * (i : Int)) = 2 * (i : Int) := IntWalk.i64_in _ (by omega)
    have v2 : IntKind.i64.wrap (2 * (i : Int) + 1) = ((2 * i + 1 : Nat) : Int) := by rw [IntWalk.i64_in _ (by omega)]; omega
    have v3 : IntKind.i64.wrap (2 * (i : Int) + 2) = ((2 * i + 2 : Nat) : Int) := by rw [IntWalk.i64_in _ (by omega)]; omega
    go_wp2_with fail
    obtain ⟨wo, hwo⟩ : ∃ wo : World, wo = wr := ⟨_, rfl⟩
    clear v1 v2 v3
    go_loopw [6, 50] (fun s6 s50 wx => ∃ j : Nat, s50 = .int .i64 (j : Int) ∧ j ≤ 2 ∧ s6 = .int .i64 (pickJ g i j : Nat) ∧ Row S 3 w0 wx (.slice (some ⟨G, 0, none⟩) n c) (icells g) ∧
      wx.heap[P]? = some (.cells #[.slice (some ⟨G, 0, none⟩) n c, lessV] 42 (0, 0))) (fun _ s50 _ => 2 - (intOf s50).toNat)
    case atStart => exact ⟨0, rfl, by decide, rfl, hrow, hP⟩
    case round =>
      clear hrow hP
      obtain ⟨j, rfl, hj, rfl, hrow, hP⟩ := hrel
      have hpl := pick_le g i j
      rw [hgl] at hpl
      have p0 : ∀ y : Later wr, y.1.cell? ⟨P, 0, none⟩ = some (.slice (some ⟨G, 0, none⟩) n c) := fun y => (two_cells (block_below hP y.2)).1
      have p1 : ∀ y : Later wr, y.1.cell? ⟨P, 1, none⟩ = some lessV := fun y => (two_cells (block_below hP y.2)).2
      rcases (show j = 0 ∨ j = 1 ∨ j = 2 by omega) with hj0 | hj1 | hj2
      · subst hj0
        have t1 : decide (((0 : Nat) : Int) < 2) = true := rfl
        have HPJ := Lib.hid (show pickJ g i 1 = if 2 * i + 1 < g.length ∧ g.getD (2 * i + 1) 0 < g.getD (pickJ g i 0) 0 then 2 * i + 1 else pickJ g i 0 from rfl)
        have IA := fun W => (index_two (2 * (i : Int) + 1) (2 * (i : Int) + 2) W).1
        by_cases hdn : 2 * i + 1 < n
        · have t2 : decide (2 * (i : Int) + 1 < (n : Int)) = true := decide_eq_true (by omega)
          obtain ⟨IKd, ICd, fd, -⟩ := hrow.idx (by omega) (2 * (i : Int) + 1) (2 * i + 1) (by omega) (by omega)
          obtain ⟨IKk, ICk, fk, -⟩ := hrow.idx (by omega) (pickJ g i 0 : Nat) (pickJ g i 0) rfl (by omega)
          generalize pickJ g i 0 = k0 at *
          generalize g.getD (2 * i + 1) 0 = gd at *
          generalize g.getD k0 0 = gk at *
          go_upto_region 10 with (fail)
          refine wp_region_mix [(0, 0), (1, 0), (2, 0), (3, 0), (4, 0), (5, 0), (6, 0), (7, 0), (8, 0), (9, 0), (10, 0), (11, 0), (12, 0), (13, 0), (14, 0), (15, 0), (16, 0), (17, 0), (18, 0), (19, 0), (20, 0), (21, 0), (22, 0), (23, 0)] (by kernel_rfl) (by kernel_rfl) ?_
          iterate 22 (refine mix_calm rfl (fun K hK => ?_); go_simp; (refine hK _ ?_; clear hK K))
          refine mix_calm rfl (fun K hK => ?_)
          go_simp
          apply Exists.intro
          refine ⟨fun x => calls_calm (less_any _ _ x.1), hK _ ?_⟩
          clear hK K
          refine mix_calm rfl (fun K hK => ?_); go_simp; (refine hK _ ?_; clear hK K)
          refine mix_nil fun w6 hw6 => ?_
          have hrow6 := hrow.later hw6
          have hP6 := block_below hP hw6
          clear hrow hP p0 p1 IKd IKk ICd ICk fd fk IA
          go_upto_if 76 with (fail)
          refine wp_cond_split rfl (fun hb => ?_) (fun hb => ?_)
          · have hlt : gd < gk := by simpa using hb
            have HK := Lib.hid (HPJ.out.trans (if_pos ⟨by rw [HGL.out]; exact hdn, hlt⟩))
            clear hb hlt
            go_wp2_with fail
            go_roundw
            case rel => exact ⟨1, rfl, by decide, by rw [HK.out]; go_num, hrow6, hP6⟩
            case measure => decide
          · have hlt : ¬ gd < gk := by simpa using hb
            have HK := Lib.hid (HPJ.out.trans (if_neg fun h => hlt h.2))
            clear hb hlt
            go_wp2_with fail
            go_roundw
            case rel => exact ⟨1, rfl, by decide, by rw [HK.out], hrow6, hP6⟩
            case measure => decide
        · have t2 : decide (2 * (i : Int) + 1 < (n : Int)) = false := decide_eq_false (by omega)
          have HK := Lib.hid (HPJ.out.trans (if_neg fun h => hdn (by rw [← HGL.out]; exact h.1)))
          go_upto_region 10 with (fail)
          clear p0 p1
          go_quiet (fail)
          have hw6 : Below wr.heap.size wr (wr.drewN nq) := below_drewN (Below.refl _ _) _
          have hrow6 := hrow.later hw6
          have hP6 := block_below hP hw6
          generalize wr.drewN nq = w6 at *
          clear hrow hP IA hw6
          go_wp2_with fail
          go_roundw
          case rel => exact ⟨1, rfl, by decide, by rw [HK.out], hrow6, hP6⟩
          case measure => decide
      · subst hj1
        have t1 : decide (((1 : Nat) : Int) < 2) = true := rfl
        have HPJ := Lib.hid (show pickJ g i 2 = if 2 * i + 2 < g.length ∧ g.getD (2 * i + 2) 0 < g.getD (pickJ g i 1) 0 then 2 * i + 2 else pickJ g i 1 from rfl)
        have IA := fun W => (index_two (2 * (i : Int) + 1) (2 * (i : Int) + 2) W).2
        by_cases hdn : 2 * i + 2 < n
        · have t2 : decide (2 * (i : Int) + 2 < (n : Int)) = true := decide_eq_true (by omega)
          obtain ⟨IKd, ICd, fd, -⟩ := hrow.idx (by omega) (2 * (i : Int) + 2) (2 * i + 2) (by omega) (by omega)
          obtain ⟨IKk, ICk, fk, -⟩ := hrow.idx (by omega) (pickJ g i 1 : Nat) (pickJ g i 1) rfl (by omega)
          generalize pickJ g i 1 = k0 at *
          generalize g.getD (2 * i + 2) 0 = gd at *
          generalize g.getD k0 0 = gk at *
          go_upto_region 10 with (fail)
          refine wp_region_mix [(0, 0), (1, 0), (2, 0), (3, 0), (4, 0), (5, 0), (6, 0), (7, 0), (8, 0), (9, 0), (10, 0), (11, 0), (12, 0), (13, 0), (14, 0), (15, 0), (16, 0), (17, 0), (18, 0), (19, 0), (20, 0), (21, 0), (22, 0), (23, 0)] (by kernel_rfl) (by kernel_rfl) ?_
          iterate 22 (refine mix_calm rfl (fun K hK => ?_); go_simp; (refine hK _ ?_; clear hK K))
          refine mix_calm rfl (fun K hK => ?_)
          go_simp
          apply Exists.intro
          refine ⟨fun x => calls_calm (less_any _ _ x.1), hK _ ?_⟩
          clear hK K
          refine mix_calm rfl (fun K hK => ?_); go_simp; (refine hK _ ?_; clear hK K)
          refine mix_nil fun w6 hw6 => ?_
          have hrow6 := hrow.later hw6
          have hP6 := block_below hP hw6
          clear hrow hP p0 p1 IKd IKk ICd ICk fd fk IA
          go_upto_if 76 with (fail)
          refine wp_cond_split rfl (fun hb => ?_) (fun hb => ?_)
          · have hlt : gd < gk := by simpa using hb
            have HK := Lib.hid (HPJ.out.trans (if_pos ⟨by rw [HGL.out]; exact hdn, hlt⟩))
            clear hb hlt
            go_wp2_with fail
            go_roundw
            case rel => exact ⟨2, rfl, by decide, by rw [HK.out]; go_num, hrow6, hP6⟩
            case measure => decide
          · have hlt : ¬ gd < gk := by simpa using hb
            have HK := Lib.hid (HPJ.out.trans (if_neg fun h => hlt h.2))
            clear hb hlt
            go_wp2_with fail
            go_roundw
            case rel => exact ⟨2, rfl, by decide, by rw [HK.out], hrow6, hP6⟩
            case measure => decide
        · have t2 : decide (2 * (i : Int) + 2 < (n : Int)) = false := decide_eq_false (by omega)
          have HK := Lib.hid (HPJ.out.trans (if_neg fun h => hdn (by rw [← HGL.out]; exact h.1)))
          go_upto_region 10 with (fail)
          clear p0 p1
          go_quiet (fail)
          have hw6 : Below wr.heap.size wr (wr.drewN nq) := below_drewN (Below.refl _ _) _
          have hrow6 := hrow.later hw6
          have hP6 := block_below hP hw6
          generalize wr.drewN nq = w6 at *
          clear hrow hP IA hw6
          go_wp2_with fail
          go_roundw
          case rel => exact ⟨2, rfl, by decide, by rw [HK.out], hrow6, hP6⟩
          case measure => decide
      · subst hj2
        have t1 : decide (((2 : Nat) : Int) < 2) = false := rfl
        clear p1 hpl
        go_upto_if 81 with (fail)
        refine wp_cond_split rfl (fun hb => ?_) (fun hb => ?_)
        · have hki : pickJ g i 2 = i := by rw [beq_iff_eq] at hb; omega
          have HOKK := Lib.hid (show HeapOK g by
            rcases HPI.out with ⟨-, h2⟩ | ⟨h1, -⟩
            · exact HD.out.done h2
            · omega)
          clear hb hki
          go_wp2_with fail
          go_ret
          exact ⟨rfl, g, ⟨_, hP, hrow, hSP⟩, HOKK.out, by rw [HGL.out, HHL.out]; rfl, fun b => by rw [HCN.out]; exact HTC.out b⟩
        · have hki : ¬ pickJ g i 2 = i := by rw [beq_eq_false_iff_ne] at hb; omega
          obtain ⟨k1, k2, k3, k4, k5⟩ : i < pickJ g i 2 ∧ pickJ g i 2 < g.length ∧ (pickJ g i 2 - 1) / 2 = i ∧ g.getD (pickJ g i 2) 0 < g.getD i 0 ∧ ∀ j, 0 < j → j < g.length → (j - 1) / 2 = i → g.getD (pickJ g i 2) 0 ≤ g.getD j 0 := by
            rcases HPI.out with ⟨h1, -⟩ | h
            · exact absurd h1 hki
            · exact h
          have HSS := Lib.hid (HD.out.step k2 (by omega) k3 k4 k5)
          have HSC := Lib.hid (swapL_count (h := g) (i := i) (j := pickJ g i 2) (by omega) k2)
          obtain ⟨IKi, ICi, fi, -⟩ := hrow.idx (by omega) (i : Int) i rfl (by omega)
          obtain ⟨IKu, ICu, fu, -⟩ := hrow.idx (by omega) (pickJ g i 2 : Nat) (pickJ g i 2) rfl k2
          have HSW := Lib.hid (show swapL g i (pickJ g i 2) = (g.set i (g.getD (pickJ g i 2) 0)).set (pickJ g i 2) (g.getD i 0) from rfl)
          rw [HSW.out] at HSS HSC
          rw [hgl] at k2
          clear hb hki k3 k4 k5 HPI HSW fi fu
          generalize pickJ g i 2 = u at *
          generalize g.getD i 0 = gi at *
          generalize g.getD u 0 = gu at *
          go_upto_region 15 with (fail)
          refine wp_region_mix [(0, 0), (1, 0), (2, 0), (3, 0), (4, 0), (5, 0), (6, 0), (7, 0), (8, 0), (9, 3), (10, 0), (11, 0), (12, 0), (13, 0), (14, 0), (15, 0), (16, 0), (17, 0), (18, 0), (19, 0), (20, 0), (21, 0), (22, 0), (23, 0), (24, 0), (25, 2), (26, 0), (27, 2)] (by kernel_rfl) (by kernel_rfl) ?_
          iterate 9 (refine mix_calm rfl (fun K hK => ?_); go_simp; (refine hK _ ?_; clear hK K))
          refine mix_pure rfl (fun K hK => ?_); go_simp; (refine hK _ ?_; clear hK K)
          iterate 15 (refine mix_calm rfl (fun K hK => ?_); go_simp; (refine hK _ ?_; clear hK K))
          refine mix_sync rfl rfl (fun w8 hw8 K hK => ?_)
          have hrow8 := hrow.later hw8
          have hP8 := block_below hP hw8
          have ci : w8.cell? ⟨G, i, none⟩ = some (.int .i64 (gi : Int)) := ICi ⟨w8, hw8⟩
          have fi8 := hrow8.free i
          have hrow9 := (hrow8.stored i (.int .i64 (gu : Int))).1
          rw [icells_set] at hrow9
          have hP9 : (w8.setCell ⟨G, i, none⟩ (.int .i64 (gu : Int))).heap[P]? = some (.cells #[.slice (some ⟨G, 0, none⟩) n c, lessV] 42 (0, 0)) := (Below.heap_setCell _ _ _ _ (fun e => hGP e.symm)).trans hP8
          clear hrow hP p0 ICi ICu IKi hrow8 hP8 hw8
          go_wp2_with fail
          clear ci fi8
          generalize w8.setCell ⟨G, i, none⟩ (.int .i64 (gu : Int)) = w9 at *
          iterate 1 (refine mix_calm rfl (fun K hK => ?_); go_simp; (refine hK _ ?_; clear hK K))
          refine mix_sync rfl rfl (fun w10 hw10 K hK => ?_)
          have hrow10 := hrow9.later hw10
          have hP10 := block_below hP9 hw10
          have hgs : (g.set i gu).length = g.length := List.length_set
          obtain ⟨-, ICu, fu, -⟩ := hrow10.idx (by omega) (u : Int) u rfl (by omega)
          have cu : w10.cell? ⟨G, u, none⟩ = some (.int .i64 ((g.set i gu).getD u 0 : Nat)) := ICu ⟨w10, Grow.refl _⟩
          have hrow11 := (hrow10.stored u (.int .i64 (gi : Int))).1
          rw [icells_set] at hrow11
          have hP11 : (w10.setCell ⟨G, u, none⟩ (.int .i64 (gi : Int))).heap[P]? = some (.cells #[.slice (some ⟨G, 0, none⟩) n c, lessV] 42 (0, 0)) := (Below.heap_setCell _ _ _ _ (fun e => hGP e.symm)).trans hP10
          clear hrow9 hP9 hw10 hrow10 hP10 ICu IKu
          go_wp2_with fail
          clear cu fu
          generalize w10.setCell ⟨G, u, none⟩ (.int .i64 (gi : Int)) = w11 at *
          refine mix_nil fun w12 hw12 => ?_
          have hrow12 := hrow11.later hw12
          have hP12 := block_below hP11 hw12
          clear hrow11 hP11 hw12
          go_wp2_with fail
          go_roundw
          case rel => exact ⟨u, (g.set i gu).set u gi, rfl, by omega, by rw [List.length_set, List.length_set]; exact hgl, HSS.out, fun b => by rw [HSC.out]; exact HCN.out b, hrow12, hP12⟩
          case measure => simp [intOf]; omega
end
end Go.Proofs.Ytkkfolfplpafhaa
