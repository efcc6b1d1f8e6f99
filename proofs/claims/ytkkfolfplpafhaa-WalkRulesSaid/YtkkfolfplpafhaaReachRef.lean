/-
  The document's Reach: the walk.
-/
import Derived.Test.YtkkfolfplpafhaaReach
namespace Go.Proofs.Ytkkfolfplpafhaa
open Go.RowKit Go.Mix

section
variable {w : World} {g : List (List Int)} {es : List (Option Addr × Nat)} {a : Option Addr} {cap : Nat}

set_option maxRecDepth 100000 in
set_option maxHeartbeats 4000000 in
theorem refReach_any (hg : GraphAt w a cap g es) (hn1 : g.length ≤ 1000) (hk1 : ∀ k, (g.getD k []).length ≤ 1000) (hin : InRange g) {b : Option Addr} {cb : Nat} {F : List Int} (hl : Cells w b (zcells F)) (hl1 : F.length ≤ 1000) (hnon : b = none → cb = 0) (hF : ∀ z ∈ F, 0 ≤ z ∧ z < (g.length : Int)) :
    Calls Try.prog 19 #[.slice a g.length cap, .slice b F.length cb] w fun e w' => ∃ v, e = .returned v ∧ Row (· < w.heap.size) 3 w w' v (icells (reachL g F)) := by
  obtain ⟨n, hn⟩ : ∃ n, n = g.length := ⟨_, rfl⟩
  have HNG := Lib.hid hn
  have HGA := Lib.hid hg
  have HIN := Lib.hid hin
  have HFR := Lib.hid hF
  rw [← hn] at hn1 ⊢
  have hF0 : FrameS (· < w.heap.size) w w := FrameS.refl fun _ hk => hk
  have hm0 := Row.made (e := 3) hF0
  have hl2 := hl.below (w' := w.alloc (.cells #[] 3)) ((Below.refl _ _).alloc (Nat.le_refl _) _)
  have HZL := Lib.hid (zcells_length F)
  obtain ⟨fl, hfl⟩ : ∃ fl, fl = F.length := ⟨_, rfl⟩
  have HFL := Lib.hid hfl
  rw [← hfl] at HZL hl1 ⊢
  clear hn hg hin hl hF hfl
  go_enter Try.func19, Try.ntmps19
  go_wp2_with (at_builtin; refine wpList_append_row elemInt rfl (.tmp 10) (.tmp 11) rfl _ [] rfl hm0 b cb (zcells F) (by rw [HZL.out]; rfl) hl2 (zcells_one F) hnon (by rw [HZL.out]; simp only [List.length_nil]; omega) (by rw [HZL.out]; simp only [List.length_nil]; omega) ?_; intro v1 w1 hb1 hgr1)
  rw [List.nil_append] at hb1
  have HS0 := Lib.hid (LInv.start g F)
  have HZ0 := Lib.hid (show F ++ ([] : List Nat).map (fun (x : Nat) => (x : Int)) = F by simp)
  clear hm0 hl2 hgr1 hF0 hnon
  go_wp2_with fail
  go_loopw [5, 6] (fun s5 s6 wr => ∃ (i : Nat) (M : List Nat), s6 = .int .i64 (i : Int) ∧ Row (· < w.heap.size) 3 w wr s5 (zcells (F ++ M.map fun (x : Nat) => (x : Int))) ∧ LInv g F M i 0) (fun _ s6 _ => fl + n - (intOf s6).toNat)
  case atStart => exact ⟨0, [], rfl, by rw [HZ0.out]; exact hb1, HS0.out⟩
  case round =>
    clear hb1
    obtain ⟨i, M, rfl, hrow, hv⟩ := hrel
    have hML := hv.len
    have hVI := hv.hi
    have HV := Lib.hid hv
    obtain ⟨La, Lc, hvL, hcL, hleL, -, -⟩ := hrow.slice
    rw [zcells_length] at hvL hleL
    have HLN := Lib.hid (show (F ++ M.map fun (x : Nat) => (x : Int)).length = fl + M.length by rw [List.length_append, List.length_map, HFL.out])
    have HLV := Lib.hid hvL
    rw [HLN.out] at hvL hVI
    rw [← HNG.out] at hML
    subst hvL
    clear hv
    by_cases hil : i < fl + M.length
    · have t1 : decide ((i : Int) < ((fl : Int) + (M.length : Int))) = true := decide_eq_true (by omega)
      have hiL : i < (F ++ M.map fun (x : Nat) => (x : Int)).length := by rw [HLN.out]; exact hil
      -- the node
      have hzr : 0 ≤ (F ++ M.map fun (x : Nat) => (x : Int)).getD i 0 ∧ (F ++ M.map fun (x : Nat) => (x : Int)).getD i 0 < (n : Int) := by
        have hm : (F ++ M.map fun (x : Nat) => (x : Int)).getD i 0 ∈ F ++ M.map fun (x : Nat) => (x : Int) := getD_memI hiL
        rw [HNG.out]
        rcases (HV.out.reach hm).range HIN.out with h | h
        · exact HFR.out _ h
        · exact h
      obtain ⟨x, hx⟩ := Int.eq_ofNat_of_zero_le hzr.1
      rw [hx] at hzr
      have hxn : x < n := by omega
      have hxg : x < g.length := by rw [← HNG.out]; exact hxn
      obtain ⟨r, hr⟩ : ∃ r, r = g.getD x [] := ⟨_, rfl⟩
      have HR := Lib.hid (show r = g.getD ((F ++ M.map fun (x : Nat) => (x : Int)).getD i 0).toNat [] by rw [hx]; exact hr)
      have HX := Lib.hid hx
      have HRG := Lib.hid hr
      have hrl1 : r.length ≤ 1000 := by rw [hr]; exact hk1 x
      obtain ⟨rl, hrl⟩ : ∃ rl, rl = r.length := ⟨_, rfl⟩
      have HRL := Lib.hid hrl
      rw [← hrl] at hrl1
      -- where it is read
      have HGK := Lib.hid (fun (W : World) (h : Below w.heap.size w W) => (show (∀ W' : World, (Instr.indexAt 22 (.slice a n cap) (.int .i64 (x : Int))).run Try.prog W' = .ok (.pointer (some (elt a x))) W') ∧ W.cell? (elt a x) = some (.slice (es.getD x (none, 0)).1 rl (es.getD x (none, 0)).2) by
        have := (HGA.out.below h).at (x : Int) x rfl hxg
        rw [← HNG.out, ← hr, ← hrl] at this
        exact this))
      have HGI := Lib.hid (fun (W : World) (h : Below w.heap.size w W) => (show Cells W (es.getD x (none, 0)).1 (zcells r) by
        have := (HGA.out.below h).ints x hxg
        rw [← hr] at this
        exact this))
      generalize (es.getD x (none, 0)).1 = q1 at *
      generalize (es.getD x (none, 0)).2 = q2 at *
      have HM1 := Lib.hid (show M.length + (i - fl) ≤ M.length + i by omega)
      clear hx hr hrl hcL hleL hzr hxg hiL HM1
      obtain ⟨M0, hM0⟩ : ∃ M0, M0 = M := ⟨_, rfl⟩
      go_wp2_with fail
      go_loopw [5, 7] (fun s5 s7 wq => ∃ (k : Nat) (M' : List Nat), s7 = .int .i64 (k : Int) ∧ k ≤ rl ∧ Row (· < w.heap.size) 3 w wq s5 (zcells (F ++ M'.map fun (x : Nat) => (x : Int))) ∧ LInv g F M' i k ∧ i < (F ++ M'.map fun (x : Nat) => (x : Int)).length ∧ (F ++ M'.map fun (x : Nat) => (x : Int)).getD i 0 = (x : Int)) (fun _ s7 _ => rl - (intOf s7).toNat)
      case atStart => exact ⟨0, M, rfl, Nat.zero_le _, hrow, HV.out, by rw [HLN.out]; exact hil, HX.out⟩
      case round =>
        clear hrow HV HLN HLV HR t1 hil hML hVI hM0
        obtain ⟨k, M', rfl, hk, hrow, hv, hil, hx⟩ := hrel
        have hML := hv.len
        rw [← HNG.out] at hML
        have HV := Lib.hid hv
        have HR := Lib.hid (show r = g.getD ((F ++ M'.map fun (x : Nat) => (x : Int)).getD i 0).toNat [] by rw [hx]; exact HRG.out)
        obtain ⟨La', Lc', hvL, hcL, -, -, -⟩ := hrow.slice
        rw [zcells_length] at hvL
        have hLN : (F ++ M'.map fun (x : Nat) => (x : Int)).length = fl + M'.length := by rw [List.length_append, List.length_map, HFL.out]
        obtain ⟨IL, CL⟩ := zs_at hcL Lc' (i : Int) i rfl hil
        rw [hLN] at hvL IL hil
        subst hvL
        rw [hx] at CL
        obtain ⟨GK, GC⟩ := HGK.out wr (hrow.frame.toBelow fun _ hk => hk)
        have hgi := HGI.out wr (hrow.frame.toBelow fun _ hk => hk)
        have HHX := Lib.hid hx
        clear hx hv
        by_cases hkl : k < rl
        · have y1 : decide ((k : Int) < (rl : Int)) = true := decide_eq_true (by omega)
          have y1' : decide (k < rl) = true := decide_eq_true hkl
          have hkr : k < r.length := by rw [← HRL.out]; exact hkl
          obtain ⟨JK, JC⟩ := zs_at hgi q2 (k : Int) k rfl hkr
          rw [← HRL.out] at JK
          have C := has_any (cap := Lc') hcL (by rw [hLN]; omega) (r.getD k 0)
          rw [hLN] at C
          have HOLD := Lib.hid (HV.out.old HR.out hkr)
          have HNEW := Lib.hid (HV.out.new HIN.out (by rw [hLN]; exact hil) HR.out hkr)
          have HLN2 := Lib.hid hLN
          have HZN := Lib.hid (zcells_length (F ++ M'.map fun (x : Nat) => (x : Int)))
          have HAP := Lib.hid (fun p : Nat => (show zcells (F ++ M'.map fun (x : Nat) => (x : Int)) ++ [.int .i64 (p : Int)] = zcells (F ++ (M' ++ [p]).map fun (x : Nat) => (x : Int)) by simp [zcells]))
          have HGD := Lib.hid (fun p : Nat => (show (F ++ (M' ++ [p]).map fun (x : Nat) => (x : Int)) = (F ++ M'.map fun (x : Nat) => (x : Int)) ++ [(p : Int)] by simp))
          clear hcL hgi hkr hLN HR HV
          generalize r.getD k 0 = z at *
          generalize hL : F ++ M'.map (fun (x : Nat) => (x : Int)) = L at *
          have HL := Lib.hid hL
          clear hL
          by_cases hz : z ∈ L
          · rw [decide_eq_true hz] at C
            have HOX := Lib.hid (HOLD.out hz)
            clear HOLD HNEW hz
            go_wp2_with fail
            refine C.mono ?_
            rintro e w' ⟨rfl, rfl⟩
            go_wp2_with fail
            go_roundw
            case rel => exact ⟨k + 1, M', by go_num, by omega, by rw [HL.out]; exact hrow, HOX.out, by rw [HL.out, HLN2.out]; exact hil, by rw [HL.out]; exact HHX.out⟩
            case measure => simp [intOf]; omega
          · rw [decide_eq_false hz] at C
            obtain ⟨p, hzp, hN⟩ := HNEW.out hz
            subst hzp
            have HNX := Lib.hid hN
            clear HOLD HNEW hz hN
            go_wp2_with fail
            refine C.mono ?_
            rintro e w' ⟨rfl, rfl⟩
            go_wp2_with (at_builtin; refine wpList_append_fresh elemInt rfl (.tmp 44) (.tmp 55) rfl _ _ rfl hrow _ [.int .i64 (p : Int)] rfl 1 1 rfl rfl (by simp [Value.oneCell']) (by rw [HZN.out, HLN2.out]; simp only [List.length_singleton]; omega) (by rw [HZN.out, HLN2.out]; simp only [List.length_singleton]; omega) ?_; intro v5 w5 hb5 hgr5)
            rw [HAP.out] at hb5
            go_wp2_with fail
            go_roundw
            case rel => exact ⟨k + 1, M' ++ [p], by go_num, by omega, hb5, HNX.out, by rw [HGD.out, List.length_append, HLN2.out]; omega, by rw [HGD.out, getD_app_lz (by rw [HLN2.out]; exact hil)]; exact HHX.out⟩
            case measure => simp [intOf]; omega
        · obtain rfl : k = rl := by omega
          have y1 : decide ((k : Int) < (k : Int)) = false := decide_eq_false (by omega)
          have y1' : decide (k < k) = false := decide_eq_false (by omega)
          have HNXT := Lib.hid (LInv.next HR.out (by rw [← HRL.out]; exact HV.out) (by rw [hLN]; exact hil))
          have HLN2 := Lib.hid hLN
          clear hcL hLN HR HV hgi
          go_wp2_with fail
          go_roundw
          case rel => exact ⟨i + 1, M', by go_num, hrow, HNXT.out⟩
          case measure => simp [intOf]; omega
    · have HEQ := Lib.hid (show i = (F ++ M.map fun (x : Nat) => (x : Int)).length by rw [HLN.out]; omega)
      have t1 : decide ((i : Int) < ((fl : Int) + (M.length : Int))) = false := decide_eq_false (by omega)
      have hEnd := LInv.end (g := g) (F := F) (M := M) (by rw [← HEQ.out]; exact HV.out)
      rw [← HNG.out] at hEnd
      have HEND := Lib.hid hEnd
      have hLl := Lib.hid (show (F ++ M.map fun (x : Nat) => (x : Int)).length ≤ 1000000 by rw [HLN.out]; omega)
      have hfr := hrow.frame
      have hcz := hcL
      obtain ⟨wo, hwo⟩ : ∃ wo, wo = wr := ⟨_, rfl⟩
      rw [← hwo] at hfr hcz
      have hgr0 : Below wo.heap.size wo wr := by rw [hwo]; exact Below.refl _ _
      have HCZ := Lib.hid hcz
      generalize F ++ M.map (fun (x : Nat) => (x : Int)) = L at *
      clear hwo hrow HV hEnd hcL hcz HEQ hVI
      obtain ⟨ll, hll⟩ : ∃ ll, ll = fl + M.length := ⟨_, rfl⟩
      have hLll := Lib.hid (show L.length = ll by rw [HLN.out, hll])
      have t2 : (fl : Int) + (M.length : Int) = (ll : Int) := by omega
      rw [← hll]
      rw [t2] at t1
      have t1' : decide (i < ll) = false := decide_eq_false (by omega)
      clear hll t2 HLN HLV hleL hil
      go_wp2_with fail
      go_loopw [8, 9] (fun s8 s9 wr => ∃ k : Nat, s9 = .int .i64 (k : Int) ∧ k ≤ n ∧ Row (· < wo.heap.size) 3 wo wr s8 (icells ((List.range k).filter fun (j : Nat) => decide ((j : Int) ∈ L)))) (fun _ s9 _ => n - (intOf s9).toNat)
      case atStart => exact ⟨0, rfl, Nat.zero_le _, Row.nil (FrameS.ofBelow hgr0 (Nat.le_refl _))⟩
      case round =>
        obtain ⟨k, rfl, hk, hrow⟩ := hrel
        have gr := hrow.frame.toBelow (fun _ hk => hk)
        by_cases hkn : k < n
        · have u1 : decide ((k : Int) < (n : Int)) = true := decide_eq_true (by omega)
          have u1' : decide (k < n) = true := decide_eq_true hkn
          have C := has_any (cap := Lc) (HCZ.out.below gr) hLl.out (k : Int)
          rw [hLll.out] at C
          have HFT := Lib.hid (show (List.range (k + 1)).filter (fun (j : Nat) => decide ((j : Int) ∈ L)) = if decide ((k : Int) ∈ L) = true then (List.range k).filter (fun (j : Nat) => decide ((j : Int) ∈ L)) ++ [k] else (List.range k).filter (fun (j : Nat) => decide ((j : Int) ∈ L)) from filter_take (fun (j : Nat) => decide ((j : Int) ∈ L)) k)
          have HLN := Lib.hid (show (icells ((List.range k).filter fun (j : Nat) => decide ((j : Int) ∈ L))).length ≤ 1000 by
            rw [icells_length]
            have := List.length_filter_le (fun (j : Nat) => decide ((j : Int) ∈ L)) (List.range k)
            rw [List.length_range] at this
            omega)
          generalize hF1 : (List.range (k + 1)).filter (fun (j : Nat) => decide ((j : Int) ∈ L)) = F1 at *
          generalize (List.range k).filter (fun (j : Nat) => decide ((j : Int) ∈ L)) = F0 at *
          generalize decide ((k : Int) ∈ L) = D at *
          cases D with
          | true =>
            have HF2 := Lib.hid (HFT.out.trans (if_pos rfl))
            clear HFT
            go_wp2_with fail
            refine C.mono ?_
            rintro e w' ⟨rfl, rfl⟩
            go_wp2_with (at_builtin; refine wpList_append_fresh elemInt rfl (.tmp 66) (.tmp 68) rfl _ _ rfl hrow _ [.int .i64 (k : Int)] rfl 1 1 rfl rfl (by simp [Value.oneCell']) (by have := HLN.out; simp only [List.length_singleton]; omega) (by have := HLN.out; simp only [List.length_singleton]; omega) ?_; intro v5 w5 hb5 hgr5)
            have hicx : icells F0 ++ [Value.int .i64 (k : Int)] = icells (F0 ++ [k]) := by simp [icells]
            rw [hicx, ← HF2.out] at hb5
            go_wp2_with fail
            go_roundw
            case rel => exact ⟨k + 1, by go_num, by omega, by rw [hF1]; exact hb5⟩
            case measure => simp [intOf]; omega
          | false =>
            have HF2 := Lib.hid (HFT.out.trans (if_neg (by simp)))
            clear HFT
            go_wp2_with fail
            refine C.mono ?_
            rintro e w' ⟨rfl, rfl⟩
            go_wp2_with fail
            go_roundw
            case rel => exact ⟨k + 1, by go_num, by omega, by rw [hF1, HF2.out]; exact hrow⟩
            case measure => simp [intOf]; omega
        · obtain rfl : k = n := by omega
          have u1 : decide ((k : Int) < (k : Int)) = false := decide_eq_false (by omega)
          have u1' : decide (k < k) = false := decide_eq_false (by omega)
          rw [HEND.out] at hrow
          have hfin := hrow.rebase (S := (· < wo.heap.size)) (T := (· < w.heap.size)) (w1 := w) (FrameS.trans hfr (hrow.frame.sub fun k hk => by have := hfr.size; omega)) (fun g hg hk => hrow.off g hg (by have := hfr.size; omega))
          clear hrow
          go_wp2_with fail
          go_ret
          exact ⟨_, rfl, hfin⟩
end
end Go.Proofs.Ytkkfolfplpafhaa
