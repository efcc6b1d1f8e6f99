/-
  Heads, both: the walk.
-/
import Derived.Test.YtkkfolfplpafhaaClosedRef
import Derived.Test.YtkkfolfplpafhaaReachPure
namespace Go.Proofs.Ytkkfolfplpafhaa
open Go.RowKit Go.Mix

def tcells (f : Nat → Bool) (n : Nat) : List Value := (List.range n).map fun i => .bool (f i)
theorem tcells_length (f : Nat → Bool) (n : Nat) : (tcells f n).length = n := by simp [tcells]
theorem tcells_false (n : Nat) : List.replicate n (Value.bool false) = tcells (fun _ => false) n := by
  unfold tcells
  refine List.ext_getElem (by simp) fun j h1 h2 => by simp
theorem tcells_set (f : Nat → Bool) {n p : Nat} (_hp : p < n) : (tcells f n).set p (.bool true) = tcells (fun i => f i || decide (i = p)) n := by
  unfold tcells
  refine List.ext_getElem (by simp) fun j h1 h2 => ?_
  rw [List.getElem_set]
  simp only [List.getElem_map, List.getElem_range]
  by_cases h : p = j
  · rw [if_pos h, decide_eq_true h.symm, Bool.or_true]
  · rw [if_neg h, decide_eq_false (fun e => h e.symm), Bool.or_false]
theorem sizeOf_bool (w : World) : (sizeOf 4).run Try.prog w = .ok 1 w := by kernel_rfl
theorem elemBool : Elem1 4 47 (.bool false) 1 := ⟨Try.underlying47, by kernel_rfl, rfl, fun w => by kernel_rfl⟩
/-- A mark of a row of marks. -/
theorem Row.tick {S : Nat → Prop} {w0 w : World} {G n c : Nat} {f : Nat → Bool} (hr : Row S 4 w0 w (.slice (some ⟨G, 0, none⟩) n c) (tcells f n)) (ki : Int) (k : Nat) (hki : ki = (k : Int)) (hk : k < n) :
    (∀ W : World, (Instr.indexAt 47 (.slice (some ⟨G, 0, none⟩) n c) (.int .i64 ki)).run Try.prog W = .ok (.pointer (some ⟨G, k, none⟩)) W) ∧ w.cell? ⟨G, k, none⟩ = some (.bool (f k)) ∧ w.frozen? ⟨G, k, none⟩ = false ∧
    Row S 4 w0 (w.setCell ⟨G, k, none⟩ (.bool true)) (.slice (some ⟨G, 0, none⟩) n c) (tcells (fun i => f i || decide (i = k)) n) := by
  subst hki
  obtain ⟨a', c', e, hc, -, -, -⟩ := hr.slice
  injection e with e1 e2 e3
  subst e1
  have hkl : k < (tcells f n).length := by rw [tcells_length]; exact hk
  refine ⟨fun W => ?_, ?_, hr.free k, ?_⟩
  · have := run_index_any (P := Try.prog) hc 47 Try.underlying47 sizeOf_bool c (n := n) hk (by rw [tcells_length]; exact Nat.le_refl _) .i64 W
    rw [elt_own] at this
    exact this
  · have := hc.2 k hkl
    rw [elt_own] at this
    rw [this]
    simp [tcells]
  · have := (hr.stored k (.bool true)).1
    rwa [tcells_set f hk] at this

/-- What Heads hands back. -/
def HeadsEnds (g : List (List Int)) (w0 : World) (e : Ending) (w' : World) : Prop := match orderG g with
  | some _ => ∃ v, e = .returned (.tuple #[v, .int .i64 0]) ∧ Row (· < w0.heap.size) 3 w0 w' v (icells (headsL g))
  | none => e = .returned (.tuple #[.slice none 0 0, .int .i64 4]) ∧ Below w0.heap.size w0 w'

section
variable {w : World} {g : List (List Int)} {es : List (Option Addr × Nat)} {a : Option Addr} {cap : Nat}

set_option maxRecDepth 100000 in
set_option maxHeartbeats 2000000 in
theorem heads_any (hg : GraphAt w a cap g es) (hn1 : g.length ≤ 1000) (hk1 : ∀ k, (g.getD k []).length ≤ 1000) :
    Calls Try.prog 16 #[.slice a g.length cap] w (HeadsEnds g w) := by
  have C1 := order_any hg hn1 hk1
  obtain ⟨n, hn⟩ : ∃ n, n = g.length := ⟨_, rfl⟩
  have HNG := Lib.hid hn
  have HGA := Lib.hid hg
  rw [← hn] at hn1 C1 ⊢
  clear hn hg
  go_enter Try.func16, Try.ntmps16
  go_wp2_with fail
  refine Calls.mono C1 ?_
  intro e w1 hO
  unfold OrderEnds at hO
  clear C1
  cases ho : orderG g with
  | none =>
    rw [ho] at hO
    obtain ⟨rfl, g1⟩ := hO
    have HO := Lib.hid ho
    clear ho
    go_wp2_with fail
    go_ret2
    unfold HeadsEnds
    rw [HO.out]
    exact ⟨rfl, g1⟩
  | some l =>
    rw [ho] at hO
    obtain ⟨v1, rfl, hr1⟩ := hO
    have g1 := hr1.frame
    have HO := Lib.hid ho
    have HIN := Lib.hid (order_in ho)
    obtain ⟨a1, c1, hv1, -, -, -, -⟩ := hr1.slice
    subst hv1
    clear ho hr1
    go_upto_region 5 with (at_make; refine wpList_make_row (S := (· < w.heap.size)) (w0 := w) elemBool rfl rfl _ _ rfl .i64 .i64 _ _ n rfl rfl rfl rfl (by omega) (by omega) g1 ?_; intro w2 hrow2 hgr2)
    rw [tcells_false] at hrow2
    obtain ⟨B, hB⟩ : ∃ B, B = w1.heap.size := ⟨_, rfl⟩
    rw [← hB] at hrow2 ⊢
    clear hB hgr2 g1
    go_wp2_with fail
    go_loopw [27] (fun s27 wr => ∃ (m : Nat) (f : Nat → Bool), s27 = .int .i64 (m : Int) ∧ m ≤ n ∧ Row (· < w.heap.size) 4 w wr (.slice (some ⟨B, 0, none⟩) n n) (tcells f n) ∧ ∀ i, i < n → f i = usedB g m i) (fun s27 _ => n - (intOf s27).toNat)
    case atStart => exact ⟨0, fun _ => false, rfl, Nat.zero_le _, hrow2, fun i _ => rfl⟩
    case round =>
      clear hrow2
      obtain ⟨m, f, rfl, hm, hrow, hf⟩ := hrel
      have HF := Lib.hid hf
      clear hf
      by_cases hmn : m < n
      · have t1 : decide ((m : Int) < (n : Int)) = true := decide_eq_true (by omega)
        have t1' : decide (m < n) = true := decide_eq_true hmn
        have hmg : m < g.length := by rw [← HNG.out]; exact hmn
        have hgw := HGA.out.below (hrow.frame.toBelow fun _ hk => hk)
        obtain ⟨GK, GC⟩ := hgw.at (m : Int) m rfl hmg
        rw [← HNG.out] at GK
        have HGI := Lib.hid (fun (W : World) (h : Below w.heap.size w W) => (HGA.out.below h).ints m hmg)
        have hgl := hk1 m
        have HRG := Lib.hid (HIN.out m hmg)
        have HUS := Lib.hid (usedB_succ g m)
        obtain ⟨q1, hq1⟩ : ∃ c, c = (es.getD m (none, 0)).1 := ⟨_, rfl⟩
        obtain ⟨q2, hq2⟩ : ∃ c, c = (es.getD m (none, 0)).2 := ⟨_, rfl⟩
        rw [← hq1] at GC HGI
        rw [← hq2] at GC
        clear hq1 hq2 hgw hmg
        generalize g.getD m [] = r at *
        obtain ⟨rl, hrl⟩ : ∃ rl, rl = r.length := ⟨_, rfl⟩
        rw [← hrl] at GC hgl
        have HRN := Lib.hid hrl
        clear hrl
        go_wp2_with fail
        go_loopw [33] (fun s33 wq => ∃ (t : Nat) (f' : Nat → Bool), s33 = .int .i64 (t : Int) ∧ t ≤ rl ∧ Row (· < w.heap.size) 4 w wq (.slice (some ⟨B, 0, none⟩) n n) (tcells f' n) ∧ ∀ i, i < n → f' i = (usedB g m i || decide ((i : Int) ∈ r.take t))) (fun s33 _ => rl - (intOf s33).toNat)
        case atStart => exact ⟨0, f, rfl, Nat.zero_le _, hrow, fun i hi => by rw [HF.out i hi]; simp⟩
        case round =>
          clear hrow GK GC
          obtain ⟨t, f', rfl, ht, hrow, hf⟩ := hrel
          have HF2 := Lib.hid hf
          clear hf
          by_cases htl : t < rl
          · have y1 : decide ((t : Int) < (rl : Int)) = true := decide_eq_true (by omega)
            have y1' : decide (t < rl) = true := decide_eq_true htl
            have htl' : t < r.length := by rw [← HRN.out]; exact htl
            obtain ⟨JK, JC⟩ := zs_at (HGI.out _ (hrow.frame.toBelow fun _ hk => hk)) q2 (t : Int) t rfl htl'
            rw [← HRN.out] at JK
            have hpr := HRG.out _ (getD_memI htl')
            rw [← HNG.out] at hpr
            have HTM := Lib.hid (fun z => take_mem htl' z)
            clear htl'
            generalize r.getD t 0 = z at *
            obtain ⟨p, rfl⟩ := Int.eq_ofNat_of_zero_le hpr.1
            have hpn : p < n := by omega
            obtain ⟨PK, PC, PF, hrow9⟩ := hrow.tick (p : Int) p rfl hpn
            go_wp2_with fail
            go_roundw
            case rel =>
              refine ⟨t + 1, _, by go_num, by omega, hrow9, fun i hi => ?_⟩
              rw [HF2.out i hi, Bool.or_assoc]
              congr 1
              rw [Bool.eq_iff_iff, Bool.or_eq_true, decide_eq_true_eq, decide_eq_true_eq, decide_eq_true_eq, HTM.out]
              constructor
              · rintro (h | h)
                · exact .inl h
                · exact .inr (by omega)
              · rintro (h | h)
                · exact .inl h
                · exact .inr (by omega)
            case measure => simp [intOf]; omega
          · obtain rfl : t = rl := by omega
            have y1 : decide ((t : Int) < (t : Int)) = false := decide_eq_false (by omega)
            have y1' : decide (t < t) = false := decide_eq_false (by omega)
            go_wp2_with fail
            go_roundw
            case rel => exact ⟨m + 1, f', by go_num, by omega, hrow, fun i hi => by rw [HF2.out i hi, HUS.out, List.take_of_length_le (by rw [HRN.out]; exact Nat.le_refl _)]⟩
            case measure => simp [intOf]; omega
      · obtain rfl : m = n := by omega
        have t1 : decide ((m : Int) < (m : Int)) = false := decide_eq_false (by omega)
        have t1' : decide (m < m) = false := decide_eq_false (by omega)
        have hfr := hrow.frame
        obtain ⟨wo, hwo⟩ : ∃ wo, wo = wr := ⟨_, rfl⟩
        rw [← hwo] at hrow hfr
        have HROW := Lib.hid hrow
        have hgr0 : Below wo.heap.size wo wr := by rw [hwo]; exact Below.refl _ _
        clear hwo hrow
        go_wp2_with fail
        go_loopw [11, 44] (fun s11 s44 wr => ∃ i : Nat, s44 = .int .i64 (i : Int) ∧ i ≤ m ∧ Row (· < wo.heap.size) 3 wo wr s11 (icells ((List.range i).filter fun k => !f k))) (fun _ s44 _ => m - (intOf s44).toNat)
        case atStart => exact ⟨0, rfl, Nat.zero_le _, Row.nil (FrameS.ofBelow hgr0 (Nat.le_refl _))⟩
        case round =>
          obtain ⟨i, rfl, hi, hrow⟩ := hrel
          have gr := hrow.frame.toBelow (fun _ hk => hk)
          by_cases hil : i < m
          · have t2 : decide ((i : Int) < (m : Int)) = true := decide_eq_true (by omega)
            have t2' : decide (i < m) = true := decide_eq_true hil
            obtain ⟨IK, IC, -, -⟩ := (HROW.out.later gr).tick (i : Int) i rfl hil
            have HFT := Lib.hid (filter_take (fun k => !f k) i)
            have HLN := Lib.hid (show (icells ((List.range i).filter fun k => !f k)).length ≤ 1000 by
              rw [icells_length]
              have := List.length_filter_le (fun k => !f k) (List.range i)
              rw [List.length_range] at this
              omega)
            generalize hF1 : (List.range (i + 1)).filter (fun k => !f k) = F1 at *
            generalize (List.range i).filter (fun k => !f k) = F0 at *
            cases hb : f i with
            | false =>
              rw [hb] at HFT IC
              have HF2 := Lib.hid (HFT.out.trans (if_pos rfl))
              clear HFT hb
              go_wp2_with (at_builtin; refine wpList_append_fresh elemInt rfl (.tmp 51) (.tmp 53) rfl _ _ rfl hrow _ [.int .i64 (i : Int)] rfl 1 1 rfl rfl (by simp [Value.oneCell']) (by have := HLN.out; simp only [List.length_singleton]; omega) (by have := HLN.out; simp only [List.length_singleton]; omega) ?_; intro v5 w5 hb5 hgr5)
              have hicx : icells F0 ++ [Value.int .i64 (i : Int)] = icells (F0 ++ [i]) := by simp [icells]
              rw [hicx, ← HF2.out] at hb5
              go_roundw
              case rel => exact ⟨i + 1, by go_num, by omega, by rw [hF1]; exact hb5⟩
              case measure => simp [intOf]; omega
            | true =>
              rw [hb] at HFT IC
              have HF2 := Lib.hid (HFT.out.trans (if_neg (by simp)))
              clear HFT hb
              go_wp2_with fail
              go_roundw
              case rel => exact ⟨i + 1, by go_num, by omega, by rw [hF1, HF2.out]; exact hrow⟩
              case measure => simp [intOf]; omega
          · obtain rfl : i = m := by omega
            have t2 : decide ((i : Int) < (i : Int)) = false := decide_eq_false (by omega)
            have hEnd : (List.range i).filter (fun k => !f k) = headsL g := by
              unfold headsL
              rw [← HNG.out]
              exact List.filter_congr fun k hk => by rw [HF.out k (List.mem_range.1 hk)]
            rw [hEnd] at hrow
            have hfin := hrow.rebase (S := (· < wo.heap.size)) (T := (· < w.heap.size)) (w1 := w) (FrameS.trans hfr (hrow.frame.sub fun k hk => by have := hfr.size; omega)) (fun g hg hk => hrow.off g hg (by have := hfr.size; omega))
            clear hrow hEnd
            go_wp2_with fail
            go_ret2
            unfold HeadsEnds
            rw [HO.out]
            exact ⟨_, rfl, hfin⟩
end
end Go.Proofs.Ytkkfolfplpafhaa
