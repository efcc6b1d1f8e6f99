/-
  The law's few: the walk.
-/
import Derived.Test.YtkkfolfplpafhaaRefOrder
namespace Go.Proofs.Ytkkfolfplpafhaa
open Go.RowKit Go.Mix

theorem min_run (x y : Int) (q : Nat) (h : (if y < x then y else x) = (q : Int)) : ∀ (ts : Array TypeId) (t : TypeId) (w : World), (Builtin.min_ ts t #[.int .i64 x, .int .i64 y]).run Try.prog w = .ok (.int .i64 (q : Int)) w := fun ts t w => by
  rw [run_min_int2, h]

def fewG (g : List (List Int)) : List (List Int) := (g.take 30).map (·.take 6)
theorem fewG_len (g : List (List Int)) : (fewG g).length = min g.length 30 := by unfold fewG; rw [List.length_map, List.length_take]; omega
theorem fewG_at {g : List (List Int)} {i : Nat} (hi : i < (fewG g).length) : (fewG g).getD i [] = (g.getD i []).take 6 := by
  have hl := fewG_len g
  have h1 : i < g.length := by omega
  unfold fewG at hi ⊢
  rw [List.getD_eq_getElem?_getD, List.getElem?_eq_getElem hi, List.getD_eq_getElem?_getD, List.getElem?_eq_getElem h1]
  simp
theorem fewG_small (g : List (List Int)) (k : Nat) : ((fewG g).getD k []).length ≤ 6 := by
  rcases Nat.lt_or_ge k (fewG g).length with h | h
  · rw [fewG_at h, List.length_take]; omega
  · rw [List.getD_eq_getElem?_getD, List.getElem?_eq_none h]; simp
def gcellsN (g : List (List Int)) (es : List (Option Addr × Nat)) (n : Nat) : List Value := (List.range n).map fun i => .slice (es.getD i (none, 0)).1 (g.getD i []).length (es.getD i (none, 0)).2
theorem gcellsN_snoc (g : List (List Int)) (es : List (Option Addr × Nat)) (n : Nat) : gcellsN g es (n + 1) = gcellsN g es n ++ [.slice (es.getD n (none, 0)).1 (g.getD n []).length (es.getD n (none, 0)).2] := by
  unfold gcellsN; rw [List.range_succ, List.map_append]; rfl
theorem gcellsN_len (g : List (List Int)) (es : List (Option Addr × Nat)) (n : Nat) : (gcellsN g es n).length = n := by simp [gcellsN]
theorem Cells.takeZ {w : World} {a : Option Addr} {l : List Int} (h : Cells w a (zcells l)) (k : Nat) : Cells w a (zcells (l.take k)) := by
  have e : zcells (l.take k) = (zcells l).take k := by simp [zcells, List.map_take]
  rw [e]; exact h.take k

set_option maxRecDepth 100000 in
set_option maxHeartbeats 2000000 in
theorem few_any {w : World} {g : List (List Int)} {es : List (Option Addr × Nat)} {a : Option Addr} {cap : Nat} (hg : GraphAt w a cap g es) :
    Calls Try.prog 8 #[.slice a g.length cap] w fun e w' => ∃ a' cap', e = .returned (.slice a' (fewG g).length cap') ∧ GraphAt w' a' cap' (fewG g) es ∧ Below w.heap.size w w' := by
  obtain ⟨n, hn⟩ : ∃ n, n = g.length := ⟨_, rfl⟩
  have HNG := Lib.hid hn
  have HGA := Lib.hid hg
  have hfl := fewG_len g
  rw [← hn] at hfl ⊢
  obtain ⟨m, hm⟩ : ∃ m, m = (fewG g).length := ⟨_, rfl⟩
  have HM := Lib.hid hm
  rw [← hm] at hfl
  clear hn hg hm
  have hF0 : FrameS (· < w.heap.size) w w := FrameS.refl fun _ hk => hk
  go_enter Try.func8, Try.ntmps8
  go_wp2_with fail
  go_loopw [3, 4] (fun s3 s4 wr => ∃ i : Nat, s4 = .int .i64 (i : Int) ∧ i ≤ m ∧ Row (· < w.heap.size) 24 w wr s3 (gcellsN (fewG g) es i)) (fun _ s4 _ => m - (intOf s4).toNat)
  case atStart => exact ⟨0, rfl, Nat.zero_le _, Row.nil hF0⟩
  case round =>
    obtain ⟨i, rfl, hi, hrow⟩ := hrel
    by_cases him : i < m
    · have t1 : decide ((i : Int) < (n : Int)) = true := decide_eq_true (by omega)
      have t1' : decide (i < n) = true := decide_eq_true (by omega)
      have t2 : decide ((i : Int) < 30) = true := decide_eq_true (by omega)
      have t2' : decide (i < 30) = true := decide_eq_true (by omega)
      have hig : i < g.length := by rw [← HNG.out]; omega
      have hgw := HGA.out.below (hrow.frame.toBelow fun _ hk => hk)
      obtain ⟨IKg, -⟩ := hgw.at (i : Int) i rfl hig
      rw [← HNG.out] at IKg
      have ICg : ∀ y : Later wr, y.1.cell? (elt a i) = some (.slice (es.getD i (none, 0)).1 (g.getD i []).length (es.getD i (none, 0)).2) := fun y => ((hgw.below y.2).at (i : Int) i rfl hig).2
      have hcap := hgw.caps i hig
      have hnon := hgw.nons i hig
      have hfa := fewG_at (g := g) (i := i) (by rw [← HM.out]; exact him)
      obtain ⟨q, hq⟩ : ∃ q, q = ((fewG g).getD i []).length := ⟨_, rfl⟩
      have hq2 : q = min (g.getD i []).length 6 := by rw [hq, hfa, List.length_take]; omega
      have HSN := Lib.hid (show gcellsN (fewG g) es (i + 1) = gcellsN (fewG g) es i ++ [.slice (es.getD i (none, 0)).1 q (es.getD i (none, 0)).2] by rw [gcellsN_snoc, ← hq])
      have hmin := min_run ((g.getD i []).length : Int) 6 q (by split <;> omega)
      have SL : ∀ W : World, (Instr.slice 24 (.slice (es.getD i (none, 0)).1 (g.getD i []).length (es.getD i (none, 0)).2) none (some (.int .i64 (q : Int))) none).run Try.prog W = .ok (.slice (es.getD i (none, 0)).1 q (es.getD i (none, 0)).2) W := fun W =>
        run_slice_to (P := Try.prog) 24 Try.underlying24 (es.getD i (none, 0)).1 (g.getD i []).length (es.getD i (none, 0)).2 q (by omega) hnon sizeOf_int W
      have HGL := Lib.hid (gcellsN_len (fewG g) es i)
      generalize (es.getD i (none, 0)).1 = e1 at *
      generalize (es.getD i (none, 0)).2 = e2 at *
      generalize (g.getD i []).length = gl at *
      generalize gcellsN (fewG g) es i = xs at *
      clear hgw hcap hnon hfa hq hq2 hig
      go_upto_region 5 with (fail)
      refine wp_region_mix [(0, 0), (1, 0), (2, 0), (3, 0), (4, 0), (5, 0), (6, 0), (7, 0), (8, 0), (9, 0), (10, 0), (11, 0), (12, 1), (13, 2), (14, 0)] (by kernel_rfl) (by kernel_rfl) ?_
      iterate 12 (refine mix_calm rfl (fun K hK => ?_); go_simp; (refine hK _ ?_; clear hK K))
      refine mix_loud rfl rfl (fun w8 hw8 K hK => ?_)
      have hrow8 := hrow.later hw8
      go_wp2_with fail
      refine hK _ _ ((Below.refl _ _).alloc (Nat.le_refl _) _) ?_
      clear hK K
      have hb9 : (w8.alloc (.cells #[.slice e1 q e2] 24)).heap[w8.heap.size]? = some (.cells #[.slice e1 q e2] 24 (0, 0)) := heap_alloc_last _ _ _ rfl
      have hrow9 := hrow8.later ((Below.refl _ _).alloc (Nat.le_refl _) (.cells #[.slice e1 q e2] 24))
      generalize w8.alloc (.cells #[.slice e1 q e2] 24) = w9 at *
      clear ICg IKg SL hmin hrow hrow8 hw8
      refine mix_sync rfl rfl (fun w10 hw10 K hK => ?_)
      have hrow10 := hrow9.later hw10
      have hb10 := block_below hb9 hw10
      have hcy : Cells w10 (some ⟨w8.heap.size, 0, none⟩) [.slice e1 q e2] := by
        refine And.intro (fun h => nomatch h) fun j hj => ?_
        have hj0 : j = 0 := by simp at hj; omega
        subst hj0
        rw [elt_own, cell_of_row _ _ 0 _ _ _ hb10]; rfl
      clear hrow9 hb9 hw10
      refine wpList_append_row elemRow rfl (.tmp 15) (.tmp 27) rfl _ xs rfl hrow10 (some ⟨w8.heap.size, 0, none⟩) 1 [.slice e1 q e2] rfl hcy (by simp [Value.oneCell']) (fun h => nomatch h) (by rw [HGL.out]; simp only [List.length_singleton]; omega) (by rw [HGL.out]; simp only [List.length_singleton]; omega) ?_
      intro v5 w5 hb5 hgr5
      rw [← HSN.out] at hb5
      clear hgr5 hrow10 hb10 hcy
      go_wp2_with fail
      iterate 1 (refine mix_calm rfl (fun K hK => ?_); go_simp; (refine hK _ ?_; clear hK K))
      refine mix_nil fun w12 hw12 => ?_
      have hb12 := hb5.later hw12
      clear hb5 hw12
      go_wp2_with fail
      go_roundw
      case rel => exact ⟨i + 1, by go_num, by omega, hb12⟩
      case measure => simp [intOf]; omega
    · obtain rfl : i = m := by omega
      obtain ⟨a9, c9, e9, hc9, hle9, -, hn9⟩ := hrow.slice
      rw [gcellsN_len] at e9 hle9
      subst e9
      have hres : GraphAt wr a9 c9 (fewG g) es := by
        have hgw := HGA.out.below (hrow.frame.toBelow fun _ hk => hk)
        refine ⟨by rw [← HM.out]; exact hle9, hn9, ?_, fun k hk => ?_, fun k hk => ?_, fun k hk => ?_⟩
        · have e : gcells (fewG g) es = gcellsN (fewG g) es i := by unfold gcells gcellsN; rw [HM.out]
          rw [e]; exact hc9
        · rw [fewG_at hk]
          have := fewG_len g
          exact (hgw.ints k (by omega)).takeZ 6
        · rw [fewG_at hk, List.length_take]
          have := fewG_len g
          have := hgw.caps k (by omega)
          omega
        · have := fewG_len g
          exact hgw.nons k (by omega)
      have HRES := Lib.hid hres
      have hfr := hrow.frame.toBelow (fun _ hk => hk)
      clear hres hrow hc9
      by_cases hin : i < n
      · have t1 : decide ((i : Int) < (n : Int)) = true := decide_eq_true (by omega)
        have t1' : decide (i < n) = true := decide_eq_true hin
        have t2 : decide ((i : Int) < 30) = false := decide_eq_false (by omega)
        have t2' : decide (i < 30) = false := decide_eq_false (by omega)
        go_wp2_with fail
        go_ret
        exact ⟨_, _, (by rw [← HM.out, hfl]; rfl), HRES.out, hfr⟩
      · have t1 : decide ((i : Int) < (n : Int)) = false := decide_eq_false (by omega)
        have t1' : decide (i < n) = false := decide_eq_false hin
        go_wp2_with fail
        go_ret
        exact ⟨_, _, (by rw [← HM.out, hfl]; rfl), HRES.out, hfr⟩
end Go.Proofs.Ytkkfolfplpafhaa
