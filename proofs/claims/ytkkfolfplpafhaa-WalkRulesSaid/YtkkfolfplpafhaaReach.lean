/-
  Clone and Reach: the walk.
-/
import Derived.Test.YtkkfolfplpafhaaHeads
import Derived.Test.YtkkfolfplpafhaaHeap2
namespace Go.Proofs.Ytkkfolfplpafhaa
open Go.RowKit Go.Mix

theorem zcells_one (l : List Int) : ∀ u ∈ zcells l, u.oneCell' = true := by
  intro u hu
  simp [zcells] at hu
  obtain ⟨y, _, rfl⟩ := hu
  rfl
theorem zcells_app (l m : List Int) : zcells l ++ zcells m = zcells (l ++ m) := by simp [zcells]

section
variable {w : World} {g : List (List Int)} {es : List (Option Addr × Nat)} {a : Option Addr} {cap : Nat}

set_option maxRecDepth 100000 in
set_option maxHeartbeats 2000000 in
theorem clone_any {b : Option Addr} {cb : Nat} {l : List Int} (hl : Cells w b (zcells l)) (hl1 : l.length ≤ 1000) (hle : l.length ≤ cb) (hnon : b = none → cb = 0) :
    Calls Try.prog 25 #[.slice b l.length cb] w fun e w' => ∃ v, e = .returned v ∧ Row (· < w.heap.size) 3 w w' v (zcells l) := by
  have hF0 : FrameS (· < w.heap.size) w w := FrameS.refl fun _ hk => hk
  cases b with
  | none =>
    obtain rfl := hnon rfl
    obtain rfl : l = [] := List.eq_nil_of_length_eq_zero (by omega)
    clear hl hle hnon
    simp only [List.length_nil]
    have hnil : ∀ W, (binOp .eql 24 (.slice none 0 0) (.slice none 0 0)).run Try.prog W = .ok (.bool true) W := fun W => by kernel_rfl
    go_enter Try.func25, Try.ntmps25
    go_wp2_with fail
    go_ret
    exact ⟨_, rfl, Row.nil hF0⟩
  | some b =>
    have hm0 := Row.made (e := 3) hF0
    have gA : Below w.heap.size w (w.alloc (.cells #[] 3)) := (Below.refl _ _).alloc (Nat.le_refl _) _
    have hl2 := hl.below gA
    have HZL := Lib.hid (zcells_length l)
    have HON := Lib.hid (zcells_one l)
    clear hl hnon hle gA
    obtain ⟨n, hn⟩ : ∃ n, n = l.length := ⟨_, rfl⟩
    rw [← hn] at HZL hl1 ⊢
    clear hn
    have hnil : ∀ W, (binOp .eql 24 (.slice (some b) n cb) (.slice none 0 0)).run Try.prog W = .ok (.bool false) W := fun W => by kernel_rfl
    go_enter Try.func25, Try.ntmps25
    go_wp2_with (at_builtin; refine wpList_append_row elemInt rfl (.tmp 5) (.tmp 6) rfl _ [] rfl hm0 (some b) cb (zcells l) (by rw [HZL.out]; rfl) hl2 HON.out (fun h => nomatch h) (by rw [HZL.out]; simp only [List.length_nil]; omega) (by rw [HZL.out]; simp only [List.length_nil]; omega) ?_; intro v5 w5 hb5 hgr5)
    rw [List.nil_append] at hb5
    go_ret
    exact ⟨_, rfl, hb5⟩

/-- What Reach hands back. -/
def ReachEnds (g : List (List Int)) (F : List Int) (w0 : World) (e : Ending) (w' : World) : Prop :=
  (((orderG g).isSome = true ∧ ∀ z ∈ F, 0 ≤ z ∧ z < (g.length : Int)) ∧ ∃ v, e = .returned (.tuple #[v, .int .i64 0]) ∧ Row (· < w0.heap.size) 3 w0 w' v (icells (reachL g F))) ∨
  (¬ ((orderG g).isSome = true ∧ ∀ z ∈ F, 0 ≤ z ∧ z < (g.length : Int)) ∧ e = .returned (.tuple #[.slice none 0 0, .int .i64 4]) ∧ Below w0.heap.size w0 w')

def markF (w : World) (B i : Nat) : Bool := match w.cell? ⟨B, i, none⟩ with
  | some (.bool x) => x
  | _ => false
theorem markF_row {S : Nat → Prop} {w0 w : World} {B n c : Nat} {f : Nat → Bool} (h : Row S 4 w0 w (.slice (some ⟨B, 0, none⟩) n c) (tcells f n)) : countB (markF w B) n = countB f n := by
  unfold countB
  refine List.countP_congr fun i hi => ?_
  have := (h.tick (i : Int) i rfl (List.mem_range.1 hi)).2.1
  unfold markF
  rw [this]
theorem last_split {st : List Int} {m : Nat} (h : st.length = m + 1) : st = st.take m ++ [st.getD m 0] := by
  have := List.take_succ_eq_append_getElem (l := st) (i := m) (by omega)
  rw [List.take_of_length_le (by omega)] at this
  rw [List.getD_eq_getElem?_getD, List.getElem?_eq_getElem (by omega)]
  exact this

set_option maxRecDepth 100000 in
set_option maxHeartbeats 4000000 in
theorem reach_any (hg : GraphAt w a cap g es) (hn1 : g.length ≤ 1000) (hk1 : ∀ k, (g.getD k []).length ≤ 1000) {b : Option Addr} {cb : Nat} {F : List Int} (hl : Cells w b (zcells F)) (hl1 : F.length ≤ 1000) (hle : F.length ≤ cb) (hnon : b = none → cb = 0) :
    Calls Try.prog 17 #[.slice a g.length cap, .slice b F.length cb] w (ReachEnds g F w) := by
  have C1 := order_any hg hn1 hk1
  obtain ⟨n, hn⟩ : ∃ n, n = g.length := ⟨_, rfl⟩
  have HNG := Lib.hid hn
  have HGA := Lib.hid hg
  have HCL := Lib.hid (fun (W : World) (h : Below w.heap.size w W) => clone_any (hl.below h) hl1 hle hnon)
  rw [← hn] at hn1 C1 ⊢
  clear hn hg hl hle hnon
  go_enter Try.func17, Try.ntmps17
  go_wp2_with fail
  refine Calls.mono C1 ?_
  intro e w1 hO
  unfold OrderEnds at hO
  clear C1
  cases ho : orderG g with
  | none =>
    rw [ho] at hO
    obtain ⟨rfl, g1⟩ := hO
    have HO := Lib.hid ho
    clear ho
    go_wp2_with fail
    go_ret2
    exact .inr ⟨by rw [HO.out]; simp, rfl, g1⟩
  | some l =>
    rw [ho] at hO
    obtain ⟨v1, rfl, hr1⟩ := hO
    have g1 := hr1.frame
    have HO := Lib.hid (show (orderG g).isSome = true by rw [ho]; rfl)
    have HIN := Lib.hid (order_in ho)
    obtain ⟨a1, c1, hv1, -, -, -, -⟩ := hr1.slice
    subst hv1
    clear ho hr1
    go_upto_region 5 with (at_make; refine wpList_make_row (S := (· < w.heap.size)) (w0 := w) elemBool rfl rfl _ _ rfl .i64 .i64 _ _ n rfl rfl rfl rfl (by omega) (by omega) g1 ?_; intro w2 hrow2 hgr2)
    rw [tcells_false] at hrow2
    obtain ⟨B, hB⟩ : ∃ B, B = w1.heap.size := ⟨_, rfl⟩
    rw [← hB] at hrow2 ⊢
    clear hB hgr2 g1
    go_wp2_with fail
    refine (HCL.out _ (hrow2.frame.toBelow fun _ hk => hk)).mono ?_
    rintro e w3 ⟨vs, rfl, hst3⟩
    have hrow3 := hrow2.later (hst3.frame.toBelow fun _ hk => hk)
    have hst3' := hst3.rebase (T := (· < w.heap.size)) (w1 := w) (hrow3.frame) (fun g hg hk => hst3.off g hg (by have := hrow2.frame.size; omega))
    have HF0 := Lib.hid (DInv.start g F)
    clear hrow2 hst3
    go_wp2_with fail
    go_loopw [9] (fun s9 wr => ∃ (f : Nat → Bool) (st : List Int), Row (· < w.heap.size) 4 w wr (.slice (some ⟨B, 0, none⟩) n n) (tcells f n) ∧ Row (· < w.heap.size) 3 w wr s9 (zcells st) ∧ DInv g F st f ∧ st.length + 1000 * countB f n ≤ 1000 + 1000 * n) (fun s9 wr => lenV s9 + 1001 * countB (markF wr B) n)
    case atStart => exact ⟨fun _ => false, F, hrow3, hst3', HF0.out, by have := countB_le (fun _ => false) n; omega⟩
    case round =>
      clear hrow3 hst3'
      obtain ⟨f, st, hrow, hst, hv, hcb⟩ := hrel
      have HV := Lib.hid hv
      clear hv
      have hmk := markF_row hrow
      obtain ⟨sa, sc, hvs, hcs, hcle, hcmax, hsn⟩ := hst.slice
      rw [zcells_length] at hvs hcle
      subst hvs
      by_cases h0 : 0 < st.length
      · obtain ⟨m, hm⟩ : ∃ m, st.length = m + 1 := ⟨st.length - 1, by omega⟩
        have HSP := Lib.hid (last_split hm)
        obtain ⟨IK, IC⟩ := zs_at hcs sc (m : Int) m rfl (by omega)
        obtain ⟨G, cG, hG, -⟩ := hst.block (fun e => by have := zcells_length st; rw [e] at this; simp at this; omega)
        injection hG with hG1 hG2 hG3
        subst hG1 hG3
        have hcut := hst.cut m (by rw [zcells_length]; omega)
        have hzt : (zcells st).take m = zcells (st.take m) := by simp [zcells, List.map_take]
        rw [hzt] at hcut
        have t1 : decide ((0 : Int) < ((m : Int) + 1)) = true := decide_eq_true (by omega)
        have w1' : IntKind.i64.wrap (((m + 1 : Nat) : Int) - 1) = (m : Int) := by rw [IntWalk.i64_in _ (by have := countB_le f n; omega)]; omega
        have SL : ∀ W : World, (Instr.slice 24 (.slice (some ⟨G, 0, none⟩) (m + 1) sc) none (some (.int .i64 (m : Int))) none).run Try.prog W = .ok (.slice (some ⟨G, 0, none⟩) m sc) W := fun W =>
          run_slice_to (P := Try.prog) 24 Try.underlying24 (some ⟨G, 0, none⟩) (m + 1) sc m (by omega) (fun h => nomatch h) sizeOf_int W
        rw [hm] at IK hcb hcle
        have htl : (st.take m).length = m := by rw [List.length_take]; omega
        have HTL := Lib.hid htl
        clear hzt hst hcs htl hsn
        generalize st.getD m 0 = x at *
        have HVX := Lib.hid (show DInv g F (st.take m ++ [x]) f by rw [← HSP.out]; exact HV.out)
        have hmst := Lib.hid hm
        rw [hm]
        clear HSP HV hm
        generalize st.take m = st' at *
        by_cases hx0 : x < 0
        · have v1 : decide (x < 0) = true := decide_eq_true hx0
          have hbad := HVX.out.bad HIN.out (.inl hx0)
          have HBAD := Lib.hid (show ¬ ((orderG g).isSome = true ∧ ∀ z ∈ F, 0 ≤ z ∧ z < (g.length : Int)) from fun h => by obtain ⟨z, hz, hz2⟩ := hbad; have := h.2 z hz; omega)
          have hfr := hrow.frame.toBelow fun _ hk => hk
          clear hbad
          go_wp2_with fail
          go_ret2
          exact .inr ⟨HBAD.out, rfl, hfr⟩
        · have v1 : decide (x < 0) = false := decide_eq_false hx0
          by_cases hxn : x < (n : Int)
          · obtain ⟨q, rfl⟩ := Int.eq_ofNat_of_zero_le (show 0 ≤ x by omega)
            have v2 : decide ((n : Int) ≤ (q : Int)) = false := decide_eq_false (by omega)
            have v2' : decide (n ≤ q) = false := decide_eq_false (by omega)
            have hqn : q < n := by omega
            obtain ⟨PK, PC, PF, hrow9⟩ := hrow.tick (q : Int) q rfl hqn
            cases hfq : f q with
            | true =>
              rw [hfq] at PC
              have HVO := Lib.hid (HVX.out.old hfq)
              clear HVX hfq hrow9
              go_wp2_with fail
              go_roundw
              case rel => exact ⟨f, st', hrow, hcut, HVO.out, by rw [HTL.out]; omega⟩
              case measure => simp [lenV]
            | false =>
              rw [hfq] at PC
              have hqg : q < g.length := by rw [← HNG.out]; exact hqn
              have HVN := Lib.hid (HVX.out.new hqg)
              have hcbs := countB_set hqn hfq
              obtain ⟨GK, GC⟩ := (HGA.out.below (hrow.frame.toBelow fun _ hk => hk)).at (q : Int) q rfl hqg
              rw [← HNG.out] at GK
              have GC9 := ((HGA.out.below (hrow9.frame.toBelow fun _ hk => hk)).at (q : Int) q rfl hqg).2
              have HGI := Lib.hid (fun (W : World) (h : Below w.heap.size w W) => (HGA.out.below h).ints q hqg)
              have HGN := Lib.hid (HGA.out.nons q hqg)
              have hgl := hk1 q
              obtain ⟨q1, hq1⟩ : ∃ c, c = (es.getD q (none, 0)).1 := ⟨_, rfl⟩
              obtain ⟨q2, hq2⟩ : ∃ c, c = (es.getD q (none, 0)).2 := ⟨_, rfl⟩
              rw [← hq1] at GC GC9 HGI HGN
              rw [← hq2] at GC GC9 HGN
              clear hq1 hq2 hqg HVX hfq
              generalize g.getD q [] = r at *
              have HZR := Lib.hid (zcells_length r)
              obtain ⟨rl, hrl⟩ : ∃ rl, rl = r.length := ⟨_, rfl⟩
              rw [← hrl] at GC GC9 hgl HZR
              have hrl' : r.length = rl := hrl.symm
              have HRN := Lib.hid hrl'
              have hBG : B ≠ G := fun e => by
                obtain ⟨C, hC⟩ := hcut.held G rfl
                exact hrow.other hC (by decide) (by rw [e]; rfl)
              have hBS : ¬ B < w.heap.size := hrow.off B rfl
              have hcut9 := hcut.set_other (p := ⟨B, q, none⟩) (fun e => by injection e with e; exact hBG e.symm) hBS (.bool true)
              have hmk9 := markF_row hrow9
              have HSZ := Lib.hid (show (zcells st').length = m by rw [zcells_length]; exact HTL.out)
              have HCG := Lib.hid (show (Row (· < w.heap.size) 4 w (wr.setCell ⟨B, q, none⟩ (.bool true)) (.slice (some ⟨B, 0, none⟩) n n) (tcells (fun i => f i || decide (i = q)) n)) from hrow9)
              have hi9 := HGI.out _ (hrow9.frame.toBelow fun _ hk => hk)
              clear hrl hrl' hrow
              go_wp2_with (at_builtin; refine wpList_append_row elemInt rfl (.tmp 57) (.tmp 61) rfl _ (zcells st') rfl hcut9 q1 q2 (zcells r) (by rw [HZR.out]; rfl) hi9 (zcells_one r) HGN.out (by rw [HZR.out, HSZ.out]; have := countB_le f n; omega) (by rw [HZR.out, HSZ.out]; have := countB_le f n; omega) ?_; intro v5 w5 hb5 hgr5)
              have hrow5 := hrow9.kept hgr5 (.inr (fun e => hBG (by injection e))) (fun k hk => by injection hk with hk; subst hk; exact hcut.off _ rfl)
              rw [zcells_app] at hb5
              obtain ⟨a6, c6, hv6, -, -, -, -⟩ := hb5.slice
              have hmk5 := markF_row hrow5
              have HLL := Lib.hid (show lenV v5 = m + rl by rw [hv6]; show (zcells (st' ++ r)).length = _; rw [zcells_length, List.length_append, HTL.out, HRN.out])
              have HLS := Lib.hid (show (st' ++ r).length = m + rl by rw [List.length_append, HTL.out, HRN.out])
              clear hv6
              go_wp2_with fail
              go_roundw
              case rel => exact ⟨_, _, hrow5, hb5, HVN.out, by rw [HLS.out]; omega⟩
              case measure =>
                rw [hmk5, HLL.out, hmk]
                simp only [lenV]
                omega
          · have v2 : decide ((n : Int) ≤ x) = true := decide_eq_true (by omega)
            have hbad := HVX.out.bad HIN.out (.inr (by rw [← HNG.out]; omega))
            have HBAD := Lib.hid (show ¬ ((orderG g).isSome = true ∧ ∀ z ∈ F, 0 ≤ z ∧ z < (g.length : Int)) from fun h => by obtain ⟨z, hz, hz2⟩ := hbad; have := h.2 z hz; omega)
            have hfr := hrow.frame.toBelow fun _ hk => hk
            clear hbad
            go_wp2_with fail
            go_ret2
            exact .inr ⟨HBAD.out, rfl, hfr⟩
      · obtain rfl : st = [] := List.eq_nil_of_length_eq_zero (by omega)
        obtain ⟨hFin, hEnd⟩ := HV.out.end
        have HFIN := Lib.hid hFin
        have HEND := Lib.hid hEnd
        simp only [List.length_nil]
        have hfr := hrow.frame
        obtain ⟨wo, hwo⟩ : ∃ wo, wo = wr := ⟨_, rfl⟩
        rw [← hwo] at hrow hfr
        have HROW := Lib.hid hrow
        have hgr0 : Below wo.heap.size wo wr := by rw [hwo]; exact Below.refl _ _
        obtain ⟨m, hm⟩ : ∃ m, m = n := ⟨_, rfl⟩
        rw [← hm] at HROW
        have HMN := Lib.hid hm
        have hm1 : m ≤ 1000 := by omega
        rw [← hm]
        clear hwo hrow HV hFin hEnd hst hcs hmk hcb hcle hm
        go_wp2_with fail
        go_loopw [11, 65] (fun s11 s65 wr => ∃ i : Nat, s65 = .int .i64 (i : Int) ∧ i ≤ m ∧ Row (· < wo.heap.size) 3 wo wr s11 (icells ((List.range i).filter f))) (fun _ s65 _ => m - (intOf s65).toNat)
        case atStart => exact ⟨0, rfl, Nat.zero_le _, Row.nil (FrameS.ofBelow hgr0 (Nat.le_refl _))⟩
        case round =>
          obtain ⟨i, rfl, hi, hrow⟩ := hrel
          have gr := hrow.frame.toBelow (fun _ hk => hk)
          by_cases hil : i < m
          · have t2 : decide ((i : Int) < (m : Int)) = true := decide_eq_true (by omega)
            have t2' : decide (i < m) = true := decide_eq_true hil
            obtain ⟨IK, IC, -, -⟩ := (HROW.out.later gr).tick (i : Int) i rfl hil
            have HFT := Lib.hid (filter_take f i)
            have HLN := Lib.hid (show (icells ((List.range i).filter f)).length ≤ 1000 by
              rw [icells_length]
              have := List.length_filter_le f (List.range i)
              rw [List.length_range] at this
              omega)
            generalize hF1 : (List.range (i + 1)).filter f = F1 at *
            generalize (List.range i).filter f = F0 at *
            cases hb : f i with
            | true =>
              rw [hb] at HFT IC
              have HF2 := Lib.hid (HFT.out.trans (if_pos rfl))
              clear HFT hb
              go_wp2_with (at_builtin; refine wpList_append_fresh elemInt rfl (.tmp 71) (.tmp 73) rfl _ _ rfl hrow _ [.int .i64 (i : Int)] rfl 1 1 rfl rfl (by simp [Value.oneCell']) (by have := HLN.out; simp only [List.length_singleton]; omega) (by have := HLN.out; simp only [List.length_singleton]; omega) ?_; intro v5 w5 hb5 hgr5)
              have hicx : icells F0 ++ [Value.int .i64 (i : Int)] = icells (F0 ++ [i]) := by simp [icells]
              rw [hicx, ← HF2.out] at hb5
              go_roundw
              case rel => exact ⟨i + 1, by go_num, by omega, by rw [hF1]; exact hb5⟩
              case measure => simp [intOf]; omega
            | false =>
              rw [hb] at HFT IC
              have HF2 := Lib.hid (HFT.out.trans (if_neg (by simp)))
              clear HFT hb
              go_wp2_with fail
              go_roundw
              case rel => exact ⟨i + 1, by go_num, by omega, by rw [hF1, HF2.out]; exact hrow⟩
              case measure => simp [intOf]; omega
          · obtain rfl : i = m := by omega
            have t2 : decide ((i : Int) < (i : Int)) = false := decide_eq_false (by omega)
            rw [HMN.out, HNG.out, HEND.out] at hrow
            have hfin := hrow.rebase (S := (· < wo.heap.size)) (T := (· < w.heap.size)) (w1 := w) (FrameS.trans hfr (hrow.frame.sub fun k hk => by have := hfr.size; omega)) (fun g hg hk => hrow.off g hg (by have := hfr.size; omega))
            clear hrow
            go_wp2_with fail
            go_ret2
            exact .inl ⟨⟨HO.out, HFIN.out⟩, _, rfl, hfin⟩
end
end Go.Proofs.Ytkkfolfplpafhaa
