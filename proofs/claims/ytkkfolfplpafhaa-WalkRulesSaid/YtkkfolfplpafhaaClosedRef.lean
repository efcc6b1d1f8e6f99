/-
  The document's Closed: the walk.
-/
import Derived.Test.YtkkfolfplpafhaaClosed
namespace Go.Proofs.Ytkkfolfplpafhaa
open Go.RowKit Go.Mix Go.Maps

section
variable {w : World} {g : List (List Int)} {es : List (Option Addr × Nat)} {a : Option Addr} {cap : Nat}

set_option maxRecDepth 100000 in
set_option maxHeartbeats 2000000 in
theorem refClosed_any (hg : GraphAt w a cap g es) (_hn1 : g.length ≤ 1000) (hk1 : ∀ k, (g.getD k []).length ≤ 1000) {b : Option Addr} {cb : Nat} {l : List Int} (hl : Cells w b (zcells l)) (hl1 : l.length ≤ 1000) :
    Calls Try.prog 15 #[.slice a g.length cap, .slice b l.length cb] w fun e w' => e = .returned (.bool (closedG g l)) ∧ w = w' := by
  obtain ⟨n, hn⟩ : ∃ n, n = g.length := ⟨_, rfl⟩
  obtain ⟨i, hm⟩ : ∃ m, m = l.length := ⟨_, rfl⟩
  have HNG := Lib.hid hn
  have HML := Lib.hid hm
  have hgr := Lib.hid hg
  have hlr := Lib.hid hl
  have HAS := Lib.hid (fun (z : Int) => has_any (cap := cb) hl (by omega) z)
  rw [← hm] at HAS
  rw [← hn]
  rw [← hm] at hl1 ⊢
  clear hn hm hg hl
  go_enter Try.func15, Try.ntmps15
  go_wp2_with fail
  go_loop [5] (fun s5 => ∃ k : Nat, s5 = .int .i64 (k : Int) ∧ k ≤ i ∧ (l.take k).all (okX g l) = true) (fun s5 => i - (intOf s5).toNat)
  case atStart => exact ⟨0, rfl, Nat.zero_le _, by simp⟩
  case round =>
    obtain ⟨k, rfl, hk, hall⟩ := hrel
    by_cases hkl : k < i
    · have u1 : decide ((k : Int) < (i : Int)) = true := decide_eq_true (by omega)
      have u1' : decide (k < i) = true := decide_eq_true hkl
      have hkl' : k < l.length := by rw [← HML.out]; exact hkl
      obtain ⟨IK, IC⟩ := zs_at hlr.out cb (k : Int) k rfl hkl'
      rw [← HML.out] at IK
      have hok : okX g l (l.getD k 0) = true → (l.take (k + 1)).all (okX g l) = true := fun h => by rw [all_snocT hkl', hall, h]; rfl
      have hbad : okX g l (l.getD k 0) = false → closedG g l = false := fun h => all_badT hkl' h
      have HOK := Lib.hid hok
      have HBD := Lib.hid hbad
      clear hok hbad hkl' hall
      generalize l.getD k 0 = x at *
      by_cases hx0 : x < 0
      · have v1 : decide (x < 0) = true := decide_eq_true hx0
        have HOX := Lib.hid (HOK.out (by unfold okX inG; rw [decide_eq_false (by omega)]; rfl))
        clear HOK HBD
        go_wp2_with fail
        go_round
        case rel => exact ⟨k + 1, by go_num, by omega, HOX.out⟩
        case measure => simp [intOf]; omega
      · have v1 : decide (x < 0) = false := decide_eq_false hx0
        by_cases hxn : x < (n : Int)
        · obtain ⟨q, rfl⟩ := Int.eq_ofNat_of_zero_le (show 0 ≤ x by omega)
          have v2 : decide ((n : Int) ≤ (q : Int)) = false := decide_eq_false (by omega)
          have v2' : decide (n ≤ q) = false := decide_eq_false (by omega)
          have hqg : q < g.length := by rw [← HNG.out]; omega
          obtain ⟨GK, GC⟩ := hgr.out.at (q : Int) q rfl hqg
          rw [← HNG.out] at GK
          have hgi := Lib.hid (hgr.out.ints q hqg)
          have hgl := hk1 q
          have hoq : okX g l (q : Int) = (g.getD q []).all (okP g l) := by
            unfold okX inG
            rw [decide_eq_true (by omega), decide_eq_true (by omega)]
            rfl
          rw [hoq] at HOK HBD
          clear hoq
          obtain ⟨c1, hc1⟩ : ∃ c, c = (es.getD q (none, 0)).1 := ⟨_, rfl⟩
          obtain ⟨c2, hc2⟩ : ∃ c, c = (es.getD q (none, 0)).2 := ⟨_, rfl⟩
          rw [← hc1] at GC hgi
          rw [← hc2] at GC
          clear hc1 hc2
          generalize g.getD q [] = r at *
          obtain ⟨rl, hrl⟩ : ∃ rl, rl = r.length := ⟨_, rfl⟩
          rw [← hrl] at GC hgl
          have HRN := Lib.hid hrl
          clear hrl
          go_wp2_with fail
          go_loop [6] (fun s6 => ∃ j : Nat, s6 = .int .i64 (j : Int) ∧ j ≤ rl ∧ (r.take j).all (okP g l) = true) (fun s6 => rl - (intOf s6).toNat)
          case atStart => exact ⟨0, rfl, Nat.zero_le _, by simp⟩
          case round =>
            obtain ⟨j, rfl, hj, hall⟩ := hrel
            by_cases hjl : j < rl
            · have y1 : decide ((j : Int) < (rl : Int)) = true := decide_eq_true (by omega)
              have y1' : decide (j < rl) = true := decide_eq_true hjl
              have hjl' : j < r.length := by rw [← HRN.out]; exact hjl
              obtain ⟨JK, JC⟩ := zs_at hgi.out c2 (j : Int) j rfl hjl'
              rw [← HRN.out] at JK
              have hok : okP g l (r.getD j 0) = true → (r.take (j + 1)).all (okP g l) = true := fun h => by rw [all_snocT hjl', hall, h]; rfl
              have hbad : okP g l (r.getD j 0) = false → closedG g l = false := fun h => HBD.out (all_badT hjl' h)
              have HPK := Lib.hid hok
              have HPB := Lib.hid hbad
              clear hok hbad hjl' hall
              generalize r.getD j 0 = p at *
              by_cases hp0 : 0 ≤ p
              · have z1 : decide (0 ≤ p) = true := decide_eq_true hp0
                by_cases hpn : p < (n : Int)
                · have z2 : decide (p < (n : Int)) = true := decide_eq_true hpn
                  have hlk := HAS.out p
                  have hop : okP g l p = decide (p ∈ l) := by
                    unfold okP inG
                    rw [← HNG.out, decide_eq_true hp0, decide_eq_true hpn]; rfl
                  rw [hop] at HPK HPB
                  clear hop
                  cases hpl : decide (p ∈ l) with
                  | true =>
                    rw [hpl] at hlk HPK
                    have HPX := Lib.hid (HPK.out rfl)
                    clear hpl HPK HPB
                    go_wp2_with fail
                    refine hlk.mono ?_
                    rintro e w' ⟨rfl, rfl⟩
                    go_wp2_with fail
                    go_round
                    case rel => exact ⟨j + 1, by go_num, by omega, HPX.out⟩
                    case measure => simp [intOf]; omega
                  | false =>
                    rw [hpl] at hlk HPB
                    have HPX := Lib.hid (HPB.out rfl)
                    clear hpl HPK HPB
                    go_wp2_with fail
                    refine hlk.mono ?_
                    rintro e w' ⟨rfl, rfl⟩
                    go_wp2_with fail
                    go_ret
                    exact ⟨by rw [HPX.out]; rfl, rfl⟩
                · have z2 : decide (p < (n : Int)) = false := decide_eq_false hpn
                  have HPX := Lib.hid (HPK.out (by unfold okP inG; rw [← HNG.out, decide_eq_false hpn, Bool.and_false]; rfl))
                  clear HPK HPB
                  go_wp2_with fail
                  go_round
                  case rel => exact ⟨j + 1, by go_num, by omega, HPX.out⟩
                  case measure => simp [intOf]; omega
              · have z1 : decide (0 ≤ p) = false := decide_eq_false hp0
                have HPX := Lib.hid (HPK.out (by unfold okP inG; rw [decide_eq_false hp0]; rfl))
                clear HPK HPB
                go_wp2_with fail
                go_round
                case rel => exact ⟨j + 1, by go_num, by omega, HPX.out⟩
                case measure => simp [intOf]; omega
            · obtain rfl : j = rl := by omega
              have y1 : decide ((j : Int) < (j : Int)) = false := decide_eq_false (by omega)
              have y1' : decide (j < j) = false := decide_eq_false (by omega)
              rw [List.take_of_length_le (by rw [HRN.out]; exact Nat.le_refl _)] at hall
              have HPX := Lib.hid (HOK.out hall)
              clear hall HOK HBD
              go_wp2_with fail
              go_round
              case rel => exact ⟨k + 1, by go_num, by omega, HPX.out⟩
              case measure => simp [intOf]; omega
        · have v2 : decide ((n : Int) ≤ x) = true := decide_eq_true (by omega)
          have HOX := Lib.hid (HOK.out (by unfold okX inG; rw [← HNG.out, decide_eq_false hxn, Bool.and_false]; rfl))
          clear HOK HBD
          go_wp2_with fail
          go_round
          case rel => exact ⟨k + 1, by go_num, by omega, HOX.out⟩
          case measure => simp [intOf]; omega
    · obtain rfl : k = i := by omega
      have u1 : decide ((k : Int) < (k : Int)) = false := decide_eq_false (by omega)
      have u1' : decide (k < k) = false := decide_eq_false (by omega)
      rw [List.take_of_length_le (by rw [HML.out]; exact Nat.le_refl _)] at hall
      have HAL := Lib.hid (show closedG g l = true from hall)
      clear hall
      go_wp2_with fail
      go_ret
      exact ⟨by rw [HAL.out]; rfl, rfl⟩
end
end Go.Proofs.Ytkkfolfplpafhaa
