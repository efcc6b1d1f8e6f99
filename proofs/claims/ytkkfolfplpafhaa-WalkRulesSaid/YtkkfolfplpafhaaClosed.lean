/-
  Closed, both: the walk.
-/
import Derived.Test.YtkkfolfplpafhaaKnown22
import Derived.Maps.OwnSet
import Derived.Maps.OwnOps
namespace Go.Proofs.Ytkkfolfplpafhaa
open Go.RowKit Go.Mix Go.Maps

def inG (g : List (List Int)) (x : Int) : Bool := decide (0 ≤ x) && decide (x < (g.length : Int))
def okP (g : List (List Int)) (l : List Int) (p : Int) : Bool := !(inG g p) || decide (p ∈ l)
def okX (g : List (List Int)) (l : List Int) (x : Int) : Bool := !(inG g x) || (g.getD x.toNat []).all (okP g l)
def closedG (g : List (List Int)) (l : List Int) : Bool := l.all (okX g l)

theorem all_snocT {f : Int → Bool} {l : List Int} {i : Nat} (hi : i < l.length) : (l.take (i + 1)).all f = ((l.take i).all f && f (l.getD i 0)) := by
  rw [List.take_succ_eq_append_getElem hi, List.all_append, List.getD_eq_getElem?_getD, List.getElem?_eq_getElem hi]
  simp
theorem all_badT {f : Int → Bool} {l : List Int} {i : Nat} (hi : i < l.length) (h : f (l.getD i 0) = false) : l.all f = false := by
  rw [Bool.eq_false_iff]
  intro h2
  rw [List.all_eq_true] at h2
  rw [List.getD_eq_getElem?_getD, List.getElem?_eq_getElem hi] at h
  have := h2 _ (List.getElem_mem hi)
  rw [Option.getD_some] at h
  rw [h] at this; cases this

/-- What the set of numbers holds. -/
def SetIs (D : DataW Unit) (l : List Int) : Prop := IsMap D ∧ ∀ z : Int, D.atKey (.int .i64 z) (.lit (.bool false)) = .lit (.bool (decide (z ∈ l)))
theorem set_start : SetIs (.map []) [] := ⟨isMap_empty, fun z => by simp; rfl⟩
theorem set_put {D : DataW Unit} {l : List Int} {i : Nat} (h : SetIs D (l.take i)) (hi : i < l.length) : SetIs (D.put (.int .i64 (l.getD i 0)) (.lit (.bool true))) (l.take (i + 1)) := by
  refine ⟨h.1.put _ _, fun z => ?_⟩
  by_cases hz : z = l.getD i 0
  · subst hz
    rw [atKey_put_same h.1 (show WideAt.IsKeyLit (.int .i64 (l.getD i 0)) from trivial), decide_eq_true ((take_mem hi _).2 (.inr rfl))]
  · rw [atKey_put_other (fun e => hz (by injection e)), h.2 z]
    congr 2
    rw [Bool.eq_iff_iff, decide_eq_true_eq, decide_eq_true_eq, take_mem hi]
    exact ⟨.inl, fun h => h.elim id (fun e => absurd e.symm hz)⟩
theorem plainElem_bool_inv {P : Program} {e : TypeId} (he : P.underlying e = some .bool) {v : Value} {z : DataW Unit × List MemPlace} (h : plainElem P e v = some z) : ∃ x, v = .bool x ∧ z = (.lit (.bool x), []) := by
  unfold plainElem at h
  rw [he] at h
  cases v <;> simp at h
  exact ⟨_, rfl, h.symm⟩
theorem zeroB (w : World) : (zeroValue 4).run Try.prog w = .ok (.bool false) w := by kernel_rfl
theorem set_look {w : World} {MB n : Nat} {D : DataW Unit} {l : List Int} (h : w.ownsMap Try.prog 3 (plainElem Try.prog 4) MB n D) (hD : SetIs D l) (z : Int) (hz : (Lit.int .i64 z).wf = true) :
    (Instr.lookup 46 (.map (some MB)) (.int .i64 z) false).run Try.prog w = .ok (.bool (decide (z ∈ l))) w := by
  obtain ⟨v, ps, hrun, hv⟩ := h.lookup (int_keyed Try.underlying3) Try.underlying46 (zeroB w) (plainElem_bool Try.underlying4 false) (keyOf_int_mk Try.underlying3 hz)
  obtain ⟨x, rfl, hx⟩ := plainElem_bool_inv Try.underlying4 hv
  rw [hD.2 z] at hx
  simp only [Prod.mk.injEq] at hx
  have h1 := hx.1
  injection h1 with h1
  injection h1 with h1
  rw [hrun, ← h1]

theorem getD_memI {l : List Int} {i : Nat} (hi : i < l.length) : l.getD i 0 ∈ l := by
  rw [List.getD_eq_getElem?_getD, List.getElem?_eq_getElem hi]; exact List.getElem_mem hi
theorem wf_in {p : Int} {n : Nat} (h0 : 0 ≤ p) (h1 : p < (n : Int)) (hn : n ≤ 1000) : (Lit.int .i64 p).wf = true := WalkArith.wf_i64 (by omega)

section
variable {w : World} {g : List (List Int)} {es : List (Option Addr × Nat)} {a : Option Addr} {cap : Nat}

set_option maxRecDepth 100000 in
set_option maxHeartbeats 2000000 in
theorem closed_any (hg : GraphAt w a cap g es) (hn1 : g.length ≤ 1000) (hk1 : ∀ k, (g.getD k []).length ≤ 1000) {b : Option Addr} {cb : Nat} {l : List Int} (hl : Cells w b (zcells l)) (hl1 : l.length ≤ 1000) (hwf : ∀ z ∈ l, (Lit.int .i64 z).wf = true) :
    Calls Try.prog 14 #[.slice a g.length cap, .slice b l.length cb] w fun e w' => e = .returned (.bool (closedG g l)) ∧ Below w.heap.size w w' := by
  have hmm := @run_makeMap Try.prog
  obtain ⟨n, hn⟩ : ∃ n, n = g.length := ⟨_, rfl⟩
  obtain ⟨m, hm⟩ : ∃ m, m = l.length := ⟨_, rfl⟩
  have HNG := Lib.hid hn
  have HML := Lib.hid hm
  have HGA := Lib.hid hg
  have HLA := Lib.hid hl
  have HWF := Lib.hid hwf
  rw [← hn] at hn1 ⊢
  rw [← hm] at hl1 ⊢
  clear hn hm hg hl hwf
  have hm0 : (w.alloc (.map #[] 0)).ownsMap Try.prog 3 (plainElem (H := Unit) Try.prog 4) w.heap.size 0 (.map []) := World.ownsMap_made _ _ _ _
  have hf0 : FrameS (· < w.heap.size) w (w.alloc (.map #[] 0)) := FrameS.ofBelow ((Below.refl _ _).alloc (Nat.le_refl _) _) (Nat.le_refl _)
  go_enter Try.func14, Try.ntmps14
  go_wp2_with fail
  obtain ⟨MB, hMB⟩ : ∃ MB, MB = w.heap.size := ⟨_, rfl⟩
  have hMS : ¬ MB < w.heap.size := by omega
  rw [← hMB] at hm0 ⊢
  clear hMB
  go_loopw [15] (fun s15 wr => ∃ (i : Nat) (D : DataW Unit), s15 = .int .i64 (i : Int) ∧ i ≤ m ∧ wr.ownsMap Try.prog 3 (plainElem Try.prog 4) MB i D ∧ SetIs D (l.take i) ∧ FrameS (· < w.heap.size) w wr) (fun s15 _ => m - (intOf s15).toNat)
  case atStart => exact ⟨0, .map [], rfl, Nat.zero_le _, hm0, set_start, hf0⟩
  case round =>
    clear hm0 hf0
    obtain ⟨i, D, rfl, hi, hmp, hD, hfr⟩ := hrel
    by_cases hil : i < m
    · have t1 : decide ((i : Int) < (m : Int)) = true := decide_eq_true (by omega)
      have t1' : decide (i < m) = true := decide_eq_true hil
      have hil' : i < l.length := by rw [← HML.out]; exact hil
      obtain ⟨IK, IC⟩ := zs_at (HLA.out.below (hfr.toBelow fun _ hk => hk)) cb (i : Int) i rfl hil'
      rw [← HML.out] at IK
      have hzw := HWF.out _ (getD_memI hil')
      have HS := Lib.hid (set_put hD hil')
      clear hD hil'
      generalize l.getD i 0 = z at *
      go_wp2_with (at_mapUpdate; refine wpList_mapUpdate_own _ rfl _ _ _ 46 rfl 3 4 (int_keyed Try.underlying3) Try.underlying46 _ MB i _ rfl hmp (by unfold maxLen; omega) _ _ _ rfl rfl (keyOf_int_mk Try.underlying3 hzw) _ [] (plainElem_bool Try.underlying4 true) ?_; intro w5 hm5 hgr5)
      have hf5 := hfr.grown hgr5 (fun k hk => by injection hk with hk; subst hk; exact hMS)
      clear hmp hfr hgr5
      go_wp2_with fail
      go_roundw
      case rel => exact ⟨i + 1, _, by go_num, by omega, hm5, HS.out, hf5⟩
      case measure => simp [intOf]; omega
    · obtain rfl : i = m := by omega
      have t1 : decide ((i : Int) < (i : Int)) = false := decide_eq_false (by omega)
      have t1' : decide (i < i) = false := decide_eq_false (by omega)
      rw [List.take_of_length_le (by rw [HML.out]; exact Nat.le_refl _)] at hD
      have HLK := Lib.hid (fun z hz => set_look hmp hD z hz)
      have HB := Lib.hid (hfr.toBelow fun _ hk => hk)
      have hgr := Lib.hid (HGA.out.below HB.out)
      have hlr := Lib.hid (HLA.out.below HB.out)
      clear hmp hD hfr HGA HLA
      go_wp2_with fail
      go_loop [24] (fun s24 => ∃ k : Nat, s24 = .int .i64 (k : Int) ∧ k ≤ i ∧ (l.take k).all (okX g l) = true) (fun s24 => i - (intOf s24).toNat)
      case atStart => exact ⟨0, rfl, Nat.zero_le _, by simp⟩
      case round =>
        obtain ⟨k, rfl, hk, hall⟩ := hrel
        by_cases hkl : k < i
        · have u1 : decide ((k : Int) < (i : Int)) = true := decide_eq_true (by omega)
          have u1' : decide (k < i) = true := decide_eq_true hkl
          have hkl' : k < l.length := by rw [← HML.out]; exact hkl
          obtain ⟨IK, IC⟩ := zs_at hlr.out cb (k : Int) k rfl hkl'
          rw [← HML.out] at IK
          have hok : okX g l (l.getD k 0) = true → (l.take (k + 1)).all (okX g l) = true := fun h => by rw [all_snocT hkl', hall, h]; rfl
          have hbad : okX g l (l.getD k 0) = false → closedG g l = false := fun h => all_badT hkl' h
          have HOK := Lib.hid hok
          have HBD := Lib.hid hbad
          clear hok hbad hkl' hall
          generalize l.getD k 0 = x at *
          by_cases hx0 : x < 0
          · have v1 : decide (x < 0) = true := decide_eq_true hx0
            have HOX := Lib.hid (HOK.out (by unfold okX inG; rw [decide_eq_false (by omega)]; rfl))
            clear HOK HBD
            go_wp2_with fail
            go_round
            case rel => exact ⟨k + 1, by go_num, by omega, HOX.out⟩
            case measure => simp [intOf]; omega
          · have v1 : decide (x < 0) = false := decide_eq_false hx0
            by_cases hxn : x < (n : Int)
            · obtain ⟨q, rfl⟩ := Int.eq_ofNat_of_zero_le (show 0 ≤ x by omega)
              have v2 : decide ((n : Int) ≤ (q : Int)) = false := decide_eq_false (by omega)
              have v2' : decide (n ≤ q) = false := decide_eq_false (by omega)
              have hqg : q < g.length := by rw [← HNG.out]; omega
              obtain ⟨GK, GC⟩ := hgr.out.at (q : Int) q rfl hqg
              rw [← HNG.out] at GK
              have hgi := Lib.hid (hgr.out.ints q hqg)
              have hgl := hk1 q
              have hoq : okX g l (q : Int) = (g.getD q []).all (okP g l) := by
                unfold okX inG
                rw [decide_eq_true (by omega), decide_eq_true (by omega)]
                rfl
              rw [hoq] at HOK HBD
              clear hoq
              obtain ⟨c1, hc1⟩ : ∃ c, c = (es.getD q (none, 0)).1 := ⟨_, rfl⟩
              obtain ⟨c2, hc2⟩ : ∃ c, c = (es.getD q (none, 0)).2 := ⟨_, rfl⟩
              rw [← hc1] at GC hgi
              rw [← hc2] at GC
              clear hc1 hc2
              generalize g.getD q [] = r at *
              have HRL := Lib.hid (show r.length = r.length from rfl)
              obtain ⟨rl, hrl⟩ : ∃ rl, rl = r.length := ⟨_, rfl⟩
              rw [← hrl] at GC hgl
              have HRN := Lib.hid hrl
              clear hrl HRL
              go_wp2_with fail
              go_loop [41] (fun s41 => ∃ j : Nat, s41 = .int .i64 (j : Int) ∧ j ≤ rl ∧ (r.take j).all (okP g l) = true) (fun s41 => rl - (intOf s41).toNat)
              case atStart => exact ⟨0, rfl, Nat.zero_le _, by simp⟩
              case round =>
                clear IK IC GK GC
                obtain ⟨j, rfl, hj, hall⟩ := hrel
                by_cases hjl : j < rl
                · have y1 : decide ((j : Int) < (rl : Int)) = true := decide_eq_true (by omega)
                  have y1' : decide (j < rl) = true := decide_eq_true hjl
                  have hjl' : j < r.length := by rw [← HRN.out]; exact hjl
                  obtain ⟨JK, JC⟩ := zs_at hgi.out c2 (j : Int) j rfl hjl'
                  rw [← HRN.out] at JK
                  have hok : okP g l (r.getD j 0) = true → (r.take (j + 1)).all (okP g l) = true := fun h => by rw [all_snocT hjl', hall, h]; rfl
                  have hbad : okP g l (r.getD j 0) = false → closedG g l = false := fun h => HBD.out (all_badT hjl' h)
                  have HPK := Lib.hid hok
                  have HPB := Lib.hid hbad
                  clear hok hbad hjl' hall
                  generalize r.getD j 0 = p at *
                  by_cases hp0 : 0 ≤ p
                  · have z1 : decide (0 ≤ p) = true := decide_eq_true hp0
                    by_cases hpn : p < (n : Int)
                    · have z2 : decide (p < (n : Int)) = true := decide_eq_true hpn
                      have hlk := HLK.out p (wf_in hp0 hpn hn1)
                      have hop : okP g l p = decide (p ∈ l) := by
                        unfold okP inG
                        rw [← HNG.out, decide_eq_true hp0, decide_eq_true hpn]; rfl
                      rw [hop] at HPK HPB
                      clear hop
                      cases hpl : decide (p ∈ l) with
                      | true =>
                        rw [hpl] at hlk HPK
                        have HPX := Lib.hid (HPK.out rfl)
                        clear hpl HPK HPB
                        go_wp2_with fail
                        go_round
                        case rel => exact ⟨j + 1, by go_num, by omega, HPX.out⟩
                        case measure => simp [intOf]; omega
                      | false =>
                        rw [hpl] at hlk HPB
                        have HPX := Lib.hid (HPB.out rfl)
                        clear hpl HPK HPB
                        go_wp2_with fail
                        go_ret
                        exact ⟨by rw [HPX.out]; rfl, HB.out⟩
                    · have z2 : decide (p < (n : Int)) = false := decide_eq_false hpn
                      have HPX := Lib.hid (HPK.out (by unfold okP inG; rw [← HNG.out, decide_eq_false hpn, Bool.and_false]; rfl))
                      clear HPK HPB
                      go_wp2_with fail
                      go_round
                      case rel => exact ⟨j + 1, by go_num, by omega, HPX.out⟩
                      case measure => simp [intOf]; omega
                  · have z1 : decide (0 ≤ p) = false := decide_eq_false hp0
                    have HPX := Lib.hid (HPK.out (by unfold okP inG; rw [decide_eq_false hp0]; rfl))
                    clear HPK HPB
                    go_wp2_with fail
                    go_round
                    case rel => exact ⟨j + 1, by go_num, by omega, HPX.out⟩
                    case measure => simp [intOf]; omega
                · obtain rfl : j = rl := by omega
                  have y1 : decide ((j : Int) < (j : Int)) = false := decide_eq_false (by omega)
                  have y1' : decide (j < j) = false := decide_eq_false (by omega)
                  rw [List.take_of_length_le (by rw [HRN.out]; exact Nat.le_refl _)] at hall
                  have HPX := Lib.hid (HOK.out hall)
                  clear hall HOK HBD
                  go_wp2_with fail
                  go_round
                  case rel => exact ⟨k + 1, by go_num, by omega, HPX.out⟩
                  case measure => simp [intOf]; omega
            · have v2 : decide ((n : Int) ≤ x) = true := decide_eq_true (by omega)
              have HOX := Lib.hid (HOK.out (by unfold okX inG; rw [← HNG.out, decide_eq_false hxn, Bool.and_false]; rfl))
              clear HOK HBD
              go_wp2_with fail
              go_round
              case rel => exact ⟨k + 1, by go_num, by omega, HOX.out⟩
              case measure => simp [intOf]; omega
        · obtain rfl : k = i := by omega
          have u1 : decide ((k : Int) < (k : Int)) = false := decide_eq_false (by omega)
          have u1' : decide (k < k) = false := decide_eq_false (by omega)
          rw [List.take_of_length_le (by rw [HML.out]; exact Nat.le_refl _)] at hall
          have HAL := Lib.hid (show closedG g l = true from hall)
          clear hall
          go_wp2_with fail
          go_ret
          exact ⟨by rw [HAL.out]; rfl, HB.out⟩
end
end Go.Proofs.Ytkkfolfplpafhaa
