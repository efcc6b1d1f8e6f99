/-
  The walk of fixed of package inflate.
-/
import Derived.Test.YtaapnjhkflpiiaaInf6
namespace Go.Proofs.Ytaapnjhkflpiiaa
open Go.RowKit Go.Mix

def fxL (i : Nat) : Nat := if i < 144 ∨ 279 < i then 8 else if i < 256 then 9 else 7
theorem fxL_all : (List.range 288).map fxL = fixedL := by decide +kernel
theorem fxD_all : (List.range 32).map (fun _ => 5) = fixedD := by decide +kernel
theorem goodL : good fixedL false = true := by decide +kernel
theorem goodD : good fixedD false = true := by decide +kernel

theorem CodeIn.same {S : Nat → Prop} {w w' : World} {ls : List Nat} {C : Array Value} (h : CodeIn S w ls C) (f : ∀ k, S k → w'.heap[k]? = w.heap[k]?) : CodeIn S w' ls C := by
  obtain ⟨a, cap, h1, h2, h3, h4⟩ := h.sl
  refine ⟨h.size, h.cnts, ⟨a, cap, h1, ⟨h2.1, fun j hj => ?_⟩, h3, h4⟩, h.few⟩
  rw [← h2.2 j hj]
  cases a with
  | none => have := h2.1 rfl; rw [this] at hj; simp at hj
  | some x =>
    have hb : (elt (some x) j).block = x.block := by unfold elt Addr.add; simp only [Option.getD_some]; split <;> rfl
    exact World.cell?_of_block (by rw [hb]; exact f _ (h4 x rfl))

theorem code_one {S : Nat → Prop} {w : World} {ls : List Nat} {C : Array Value} (h : CodeIn S w ls C) : C.all (·.oneCell') = true := by
  obtain ⟨a, cap, h1, -⟩ := h.sl
  have hs := h.size
  rw [Array.all_eq_true]
  intro i hi
  by_cases h16 : i < 16
  · have h1 := h.cnts i h16
    rw [Array.getElem?_eq_getElem hi] at h1
    injection h1 with h1
    rw [h1]; rfl
  · obtain rfl : i = 16 := by omega
    rw [Array.getElem?_eq_getElem hi] at h1
    injection h1 with h1
    rw [h1]; rfl

theorem results_codes {fn : Func} {p q : Tmp} (h : fn.results = #[.cell p 61, .cell q 61]) (tmps : Array Value) (w : World) (g g2 : Nat) (t t2 : TypeId) (C D : Array Value) (fr fr2 : Nat × Nat)
    (hp : tmps.getD p undef = .pointer (some ⟨g, 0, none⟩)) (hq : tmps.getD q undef = .pointer (some ⟨g2, 0, none⟩)) (hg : w.heap[g]? = some (.cells C t fr)) (hg2 : w.heap[g2]? = some (.cells D t2 fr2)) (hC : C.size = 17) (hD : D.size = 17) :
    (results fn tmps).run Try.prog w = .ok (.tuple #[.agg C, .agg D]) w := by
  have hp' : tmps[p]?.getD undef = .pointer (some ⟨g, 0, none⟩) := by simpa using hp
  have hq' : tmps[q]?.getD undef = .pointer (some ⟨g2, 0, none⟩) := by simpa using hq
  have r1 := run_loadVar_row (P := Try.prog) w g t 61 C fr _ hg Try.underlying61 rfl (by rw [hC]; kernel_rfl)
  have r2 := run_loadVar_row (P := Try.prog) w g2 t2 61 D fr2 _ hg2 Try.underlying61 rfl (by rw [hD]; kernel_rfl)
  simp [results, h, hp', hq', asAddr, r1, r2]

set_option maxRecDepth 100000 in
set_option maxHeartbeats 1000000 in
theorem fixedI_any (w : World) :
    Calls Try.prog 39 #[] w fun e w' =>
      Below w.heap.size w w' ∧ ∃ C D, e = .returned (.tuple #[.agg C, .agg D]) ∧ CodeIn (fun k => w.heap.size ≤ k ∧ k < w'.heap.size) w' fixedL C ∧ CodeIn (fun k => w.heap.size ≤ k ∧ k < w'.heap.size) w' fixedD D := by
  have gw : Below w.heap.size w ((w.alloc (.cells zeroC 61)).alloc (.cells zeroC 61)) := ((Below.refl _ _).alloc (Nat.le_refl _) _).alloc (by simp) _
  have hA : ((w.alloc (.cells zeroC 61)).alloc (.cells zeroC 61)).heap[w.heap.size]? = some (.cells zeroC 61 (0, 0)) :=
    (((Below.refl (w.alloc (.cells zeroC 61)).heap.size _).alloc (Nat.le_refl _) _).block w.heap.size (by simp)).trans (heap_alloc_last _ _ _ rfl)
  have hB : ((w.alloc (.cells zeroC 61)).alloc (.cells zeroC 61)).heap[w.heap.size + 1]? = some (.cells zeroC 61 (0, 0)) := heap_alloc_last _ _ _ (by simp)
  have hsz : ((w.alloc (.cells zeroC 61)).alloc (.cells zeroC 61)).heap.size = w.heap.size + 2 := by simp
  go_enter Try.func39, Try.ntmps39
  go_wp2_with fail
  generalize ((w.alloc (.cells zeroC 61)).alloc (.cells zeroC 61)) = w1 at *
  have hS : FrameS (fun k => k < w1.heap.size) w1 w1 := FrameS.refl fun k hk => hk
  go_loopw [2, 5] (fun v i wr => ∃ n : Nat, i = .int .i64 (n : Int) ∧ n ≤ 288 ∧ Row (fun k => k < w1.heap.size) 3 w1 wr v (icells ((List.range n).map fxL))) (fun _ i _ => 288 - (intOf i).toNat)
  case atStart => exact ⟨0, rfl, by omega, Row.nil hS⟩
  case round =>
    obtain ⟨n, rfl, hn, hrow⟩ := hrel
    have hlen : (icells ((List.range n).map fxL)).length = n := by rw [icells_length]; simp
    have hstep : icells ((List.range (n + 1)).map fxL) = icells ((List.range n).map fxL) ++ [.int .i64 (fxL n : Nat)] := by rw [List.range_succ]; simp [icells]
    by_cases h288 : n < 288
    · have t1 : decide ((n : Int) < 288) = true := decide_eq_true (by omega)
      have HS := Lib.hid hstep
      have HL := Lib.hid hlen
      clear hstep hlen
      by_cases h144 : n < 144
      · have t2 : decide ((n : Int) < 144) = true := decide_eq_true (by omega)
        have hf : fxL n = 8 := by unfold fxL; rw [if_pos (by omega)]
        go_wp2_with (at_builtin; refine wpList_append_fresh elemInt rfl (.tmp 16) (.tmp 17) rfl _ _ rfl hrow _ [.int .i64 8] rfl 1 1 rfl rfl (by simp [Value.oneCell']) (by rw [HL.out]; simp only [List.length_singleton]; omega) (by rw [HL.out]; simp only [List.length_singleton]; omega) ?_; intro v5 w5 hrow5 hgr5)
        exact ⟨⟨n + 1, by go_num, by omega, by rw [HS.out, hf]; exact hrow5⟩, by simp [intOf]; omega⟩
      · have t2 : decide ((n : Int) < 144) = false := decide_eq_false (by omega)
        by_cases h279 : 279 < n
        · have t3 : decide (279 < (n : Int)) = true := decide_eq_true (by omega)
          have hf : fxL n = 8 := by unfold fxL; rw [if_pos (by omega)]
          go_wp2_with (at_builtin; refine wpList_append_fresh elemInt rfl (.tmp 16) (.tmp 17) rfl _ _ rfl hrow _ [.int .i64 8] rfl 1 1 rfl rfl (by simp [Value.oneCell']) (by rw [HL.out]; simp only [List.length_singleton]; omega) (by rw [HL.out]; simp only [List.length_singleton]; omega) ?_; intro v5 w5 hrow5 hgr5)
          exact ⟨⟨n + 1, by go_num, by omega, by rw [HS.out, hf]; exact hrow5⟩, by simp [intOf]; omega⟩
        · have t3 : decide (279 < (n : Int)) = false := decide_eq_false (by omega)
          by_cases h256 : n < 256
          · have t4 : decide ((n : Int) < 256) = true := decide_eq_true (by omega)
            have hf : fxL n = 9 := by unfold fxL; rw [if_neg (by omega), if_pos (by omega)]
            go_wp2_with (at_builtin; refine wpList_append_fresh elemInt rfl (.tmp 22) (.tmp 23) rfl _ _ rfl hrow _ [.int .i64 9] rfl 1 1 rfl rfl (by simp [Value.oneCell']) (by rw [HL.out]; simp only [List.length_singleton]; omega) (by rw [HL.out]; simp only [List.length_singleton]; omega) ?_; intro v5 w5 hrow5 hgr5)
            exact ⟨⟨n + 1, by go_num, by omega, by rw [HS.out, hf]; exact hrow5⟩, by simp [intOf]; omega⟩
          · have t4 : decide ((n : Int) < 256) = false := decide_eq_false (by omega)
            have hf : fxL n = 7 := by unfold fxL; rw [if_neg (by omega), if_neg (by omega)]
            go_wp2_with (at_builtin; refine wpList_append_fresh elemInt rfl (.tmp 8) (.tmp 9) rfl _ _ rfl hrow _ [.int .i64 7] rfl 1 1 rfl rfl (by simp [Value.oneCell']) (by rw [HL.out]; simp only [List.length_singleton]; omega) (by rw [HL.out]; simp only [List.length_singleton]; omega) ?_; intro v5 w5 hrow5 hgr5)
            exact ⟨⟨n + 1, by go_num, by omega, by rw [HS.out, hf]; exact hrow5⟩, by simp [intOf]; omega⟩
    · obtain rfl : n = 288 := by omega
      have t1 : decide (((288 : Nat) : Int) < 288) = false := by decide
      rw [fxL_all] at hrow
      have hg1 : Below w.heap.size w wr := gw.trans (hrow.frame.toBelow (B := w.heap.size) (fun k hk => by show k < w1.heap.size; omega))
      have hA1 := (hrow.frame.keep w.heap.size (by show w.heap.size < w1.heap.size; omega)).2.trans hA
      have hB1 := (hrow.frame.keep (w.heap.size + 1) (by show w.heap.size + 1 < w1.heap.size; omega)).2.trans hB
      have hszr := hrow.frame.size
      obtain ⟨al, kl, hvl, hcl, -⟩ := hrow.slice
      rw [icells_length] at hvl
      obtain ⟨nl, hnl⟩ : ∃ nl, nl = fixedL.length := ⟨_, rfl⟩
      rw [← hnl] at hvl
      subst hvl
      clear hrow hlen hstep hA hB gw hS
      go_wp2_with fail
      obtain ⟨wq, rfl⟩ : ∃ wq : World, wq = wr := ⟨_, rfl⟩
      have hS : FrameS (fun k => k < wq.heap.size) wq wq := FrameS.refl fun k hk => hk
      go_loopw [3, 26] (fun v i wx => ∃ n : Nat, i = .int .i64 (n : Int) ∧ n ≤ 32 ∧ Row (fun k => k < wq.heap.size) 3 wq wx v (icells ((List.range n).map (fun _ => 5)))) (fun _ i _ => 32 - (intOf i).toNat)
      case atStart => exact ⟨0, rfl, by omega, Row.nil hS⟩
      case round =>
        obtain ⟨n, rfl, hn, hrow⟩ := hrel
        have hlen : (icells ((List.range n).map (fun _ => 5))).length = n := by rw [icells_length]; simp
        have hstep : icells ((List.range (n + 1)).map (fun _ => 5)) = icells ((List.range n).map (fun _ => 5)) ++ [.int .i64 5] := by rw [List.range_succ]; simp [icells]
        by_cases h32 : n < 32
        · have t1 : decide ((n : Int) < 32) = true := decide_eq_true (by omega)
          have HS := Lib.hid hstep
          have HL := Lib.hid hlen
          clear hstep hlen
          go_wp2_with (at_builtin; refine wpList_append_fresh elemInt rfl (.tmp 28) (.tmp 29) rfl _ _ rfl hrow _ [.int .i64 5] rfl 1 1 rfl rfl (by simp [Value.oneCell']) (by rw [HL.out]; simp only [List.length_singleton]; omega) (by rw [HL.out]; simp only [List.length_singleton]; omega) ?_; intro v5 w5 hrow5 hgr5)
          exact ⟨⟨n + 1, by go_num, by omega, by rw [HS.out]; exact hrow5⟩, by simp [intOf]; omega⟩
        · obtain rfl : n = 32 := by omega
          have t1 : decide (((32 : Nat) : Int) < 32) = false := by decide
          rw [fxD_all] at hrow
          have hg2 : Below wq.heap.size wq wr := hrow.frame.toBelow (B := wq.heap.size) (fun k hk => hk)
          have hgr : Below w.heap.size w wr := hg1.trans (hg2.mono hg1.size)
          have hA2 := (hg2.block w.heap.size (by omega)).trans hA1
          have hB2 := (hg2.block (w.heap.size + 1) (by omega)).trans hB1
          have hszr2 := hg2.size
          have hcl2 := hcl.below hg2
          obtain ⟨ad, kd, hvd, hcd, -⟩ := hrow.slice
          rw [icells_length] at hvd
          obtain ⟨nd, hnd⟩ : ∃ nd, nd = fixedD.length := ⟨_, rfl⟩
          rw [← hnd] at hvd
          subst hvd
          have M1 := made_any wr al kl fixedL false hcl2 (by decide)
          have M2 := fun (w2 : World) (hw2 : Below wr.heap.size wr w2) => made_any w2 ad kd fixedD false (hcd.below hw2) (by decide)
          rw [goodL, ← hnl] at M1
          simp only [goodD, ← hnd] at M2
          have HM1 := Lib.hid M1
          have HM2 := Lib.hid M2
          clear M1 M2 hrow hlen hstep hS hcl hcl2 hcd hnl hnd hA1 hB1
          go_wp2_with fail
          refine Calls.mono HM1.out ?_
          rintro e w2 ⟨hb2, (⟨-, C, rfl, hC⟩ | ⟨h, -⟩)⟩
          rotate_left
          · cases h
          go_wp2_with fail
          refine Calls.mono (HM2.out _ hb2) ?_
          rintro e w3 ⟨hb3, (⟨-, D, rfl, hD⟩ | ⟨h, -⟩)⟩
          rotate_left
          · cases h
          have hsz2 := hb2.size
          have hsz3 := hb3.size
          have hC3 : CodeIn (fun k => wr.heap.size ≤ k ∧ k < w2.heap.size) w3 fixedL C := hC.same fun k hk => hb3.block k hk.2
          have hA3 : w3.heap[w.heap.size]? = some (.cells zeroC 61 (0, 0)) := (hb3.block w.heap.size (by omega)).trans ((hb2.block w.heap.size (by omega)).trans hA2)
          have hB3 : w3.heap[w.heap.size + 1]? = some (.cells zeroC 61 (0, 0)) := (hb3.block (w.heap.size + 1) (by omega)).trans ((hb2.block (w.heap.size + 1) (by omega)).trans hB2)
          have hCs := hC.size
          have hDs := hD.size
          have hCo := code_one hC
          have hDo := code_one hD
          go_wp2_with (first | (refine wpList_store_row rfl 61 (.tmp 0) (.tmp 33) rfl w.heap.size C rfl rfl _ _ hA3 (by rw [hCs]; kernel_rfl) (by rw [hCs]; rfl) hCo ?_) | (refine wpList_store_row rfl 61 (.tmp 1) (.tmp 35) rfl (w.heap.size + 1) D rfl rfl _ _ ((heap_setRow_other _ _ _ _ (by omega)).trans hB3) (by rw [hDs]; kernel_rfl) (by rw [hDs]; rfl) hDo ?_))
          have hA5 := (heap_setRow_other (w3.setRow w.heap.size C) (w.heap.size + 1) w.heap.size D (by omega)).trans (setRow_heap w3 w.heap.size _ C _ _ hA3)
          have hB5 := setRow_heap (w3.setRow w.heap.size C) (w.heap.size + 1) _ D _ _ ((heap_setRow_other w3 w.heap.size (w.heap.size + 1) C (by omega)).trans hB3)
          have hgw : Below w.heap.size w ((w3.setRow w.heap.size C).setRow (w.heap.size + 1) D) :=
            below_setRow (below_setRow (hgr.trans ((hb2.mono hgr.size).trans (hb3.mono (by omega)))) (Nat.le_refl _) C) (by omega) D
          have hsz5 : ((w3.setRow w.heap.size C).setRow (w.heap.size + 1) D).heap.size = w3.heap.size := by rw [size_setRow, size_setRow]
          have hsame : ∀ k, wr.heap.size ≤ k → ((w3.setRow w.heap.size C).setRow (w.heap.size + 1) D).heap[k]? = w3.heap[k]? := fun k hk =>
            (heap_setRow_other _ _ _ _ (by omega)).trans (heap_setRow_other _ _ _ _ (by omega))
          have hC5 := hC3.same (w' := (w3.setRow w.heap.size C).setRow (w.heap.size + 1) D) (fun k hk => hsame k hk.1)
          have hD5 := hD.same (w' := (w3.setRow w.heap.size C).setRow (w.heap.size + 1) D) (fun k hk => hsame k (by have := hk.1; omega))
          generalize (w3.setRow w.heap.size C).setRow (w.heap.size + 1) D = w5 at *
          refine bodyPost_ret (results_codes rfl _ _ w.heap.size (w.heap.size + 1) _ _ C D _ _ rfl rfl hA5 hB5 hCs hDs) rfl ?_
          exact ⟨hgw, C, D, rfl, hC5.sub fun k hk => ⟨by have := hk.1; omega, by have := hk.2; omega⟩, hD5.sub fun k hk => ⟨by have := hk.1; omega, by have := hk.2; omega⟩⟩

end Go.Proofs.Ytaapnjhkflpiiaa
