/-
  The walk of the reference's FromLeb: it tells what 'leb' tells.
-/
import Derived.Test.YtnppjhkhfjpkfaaLeb
namespace Go.Proofs.Ytnppjhkhfjpkfaa
open Go.RowKit Go.Mix

/-- The reference's 'one' at place i. -/
def oneAt (i : Nat) : Nat := if i ≤ 8 then 2 ^ (7 * i) else 0
theorem oneAt_le (i : Nat) : oneAt i ≤ 72057594037927936 := by
  unfold oneAt; split
  · have h := Nat.pow_le_pow_right (n := 2) (by decide) (show 7 * i ≤ 56 by omega)
    have e : (2 : Nat) ^ 56 = 72057594037927936 := by decide
    omega
  · omega
theorem oneAt_pos (i : Nat) (h : i ≤ 8) : 1 ≤ oneAt i := by unfold oneAt; rw [if_pos h]; exact Nat.two_pow_pos _
theorem oneAt_far (i : Nat) (h : 9 ≤ i) : oneAt i = 0 := by unfold oneAt; rw [if_neg (by omega)]
theorem oneAt_mul (s i : Nat) (h : okSeven s i = true) : s * oneAt i = s * 2 ^ (7 * i) := by
  unfold oneAt; split
  · rfl
  · rename_i h8
    rcases Nat.eq_zero_or_pos s with h0 | h0
    · rw [h0]; simp
    · rw [okSeven_far s i h0 (by omega)] at h; cases h
theorem oneAt_step (i : Nat) (h : oneAt i ≤ 36028797018963968) : oneAt (i + 1) = 128 * oneAt i := by
  unfold oneAt at *
  by_cases h8 : i ≤ 8
  · rw [if_pos h8] at h ⊢
    by_cases h7 : i = 8
    · subst h7; simp at h
    · rw [if_pos (by omega), Nat.mul_add, Nat.pow_add]; omega
  · rw [if_neg h8, if_neg (by omega)]
theorem oneAt_stop (i : Nat) (h : 36028797018963968 < oneAt i) : oneAt (i + 1) = 0 := by
  unfold oneAt at *
  by_cases h8 : i ≤ 8
  · rw [if_pos h8] at h
    by_cases h7 : i = 8
    · subst h7; rfl
    · have h2 := Nat.pow_le_pow_right (n := 2) (by decide) (show 7 * i ≤ 49 by omega)
      have e : (2 : Nat) ^ 49 < 36028797018963968 := by decide
      omega
  · rw [if_neg h8] at h; omega

theorem refTest (s i k : Nat) (hs : s < 128) (hi : i ≤ 8) (hk : k < 2 ^ (7 * i)) (hk2 : k < 4611686018427387904) :
    (4611686018427387903 - k) / oneAt i < s ↔ okSeven s i = false := by
  have e1 : oneAt i = 2 ^ (7 * i) := by unfold oneAt; rw [if_pos hi]
  rw [e1, Nat.div_lt_iff_lt_mul (Nat.two_pow_pos _)]
  constructor
  · intro h
    cases hok : okSeven s i with
    | false => rfl
    | true =>
      have := seven_bound s i k hs (by omega) hk hk2 hok
      omega
  · intro h
    simp [okSeven] at h
    omega

set_option maxRecDepth 100000 in
set_option maxHeartbeats 1600000 in
theorem refFromLeb_any (a : Option Addr) (cap : Nat) (l : List UInt8) (w : World) (hb : Bs w a l) (hmax : l.length ≤ 9223372036854775807) :
    Calls Try.prog 17 #[.slice a l.length cap] w fun e w' =>
      e = .returned (.tuple #[.int .i64 ((leb l).1 : Nat), .int .i64 ((leb l).2.1 : Nat), .int .i64 ((leb l).2.2 : Nat)]) ∧ w = w' := by
  have IX := Lib.hid (fun k (hk : k < l.length) => run_index_any (P := Try.prog) hb.cells 22 Try.underlying22 sizeOf_u8 cap (n := l.length) hk (by rw [bcells_length]; omega))
  go_enter Try.func17, Try.ntmps17
  go_wp2_with fail
  go_loop [5, 6, 7] (fun nn oo ii => ∃ i k : Nat, i ≤ l.length ∧ i ≤ 12 ∧ ii = .int .i64 i ∧ nn = .int .i64 k ∧ oo = .int .i64 (oneAt i) ∧ k < 2 ^ (7 * i) ∧ k < 4611686018427387904 ∧ lebGo (l.drop i) i k = leb l)
    (fun _ _ ii => l.length - (intOf ii).toNat)
  case atStart => exact ⟨0, 0, by omega, by omega, rfl, rfl, rfl, by decide, by decide, rfl⟩
  case round =>
    obtain ⟨i, k, hil, hi12, rfl, rfl, rfl, hk, hk2, hgo⟩ := hrel
    have HGO := Lib.hid hgo
    clear hgo
    by_cases hlt : i < l.length
    · have hdrop : l.drop i = l[i] :: l.drop (i + 1) := List.drop_eq_getElem_cons hlt
      have hcell := hb.cell hlt
      have IK := IX.out i hlt
      have h8 := l[i].toNat_lt
      have HG := HGO.out
      rw [hdrop, lebGo_cons] at HG
      generalize l[i] = c at *
      obtain ⟨d, hd⟩ : ∃ d, d = c.toNat % 128 := ⟨_, rfl⟩
      rw [← hd] at HG
      have hm : d < 128 := by omega
      have emod : (c.toNat : Int) % 128 = (d : Int) := by omega
      have HG2 := Lib.hid HG
      have HD := Lib.hid hd
      clear HG hdrop hd
      by_cases h12 : i = 12
      · have h12' : ((i : Int) == 12) = true := by simp; omega
        have hres : leb l = (0, 0, 2) := by rw [← HG2.out, if_pos (.inl h12)]
        have HR := Lib.hid hres
        clear hres h12
        go_wp2_with fail
        go_ret3
        exact ⟨by rw [HR.out]; rfl, rfl⟩
      · have h12' : ((i : Int) == 12) = false := by simp; omega
        have hi11 : i ≤ 11 := by omega
        have hol := oneAt_le i
        cases hok : okSeven d i with
        | false =>
          have hres : leb l = (0, 0, 2) := by rw [← HG2.out, if_pos (.inr hok)]
          have hd0 : 0 < d := by
            rcases Nat.eq_zero_or_pos d with h | h
            · rw [h, okSeven_zero] at hok; cases hok
            · exact h
          have hd0' : (0 : Int) < (d : Int) := by omega
          have HR := Lib.hid hres
          clear hres h12
          by_cases h9 : i ≤ 8
          · have hop := oneAt_pos i h9
            have hz : ((oneAt i : Int) == 0) = false := by simp; omega
            have ht := (refTest d i k hm h9 hk hk2).2 hok
            have ht' : (4611686018427387903 - (k : Int)) / (oneAt i : Int) < (d : Int) := by
              have : (4611686018427387903 - (k : Int)) / (oneAt i : Int) = (((4611686018427387903 - k) / oneAt i : Nat) : Int) := by
                rw [Int.natCast_ediv]; congr 1; omega
              rw [this]; omega
            clear ht hok
            generalize oneAt i = o at *
            go_wp2_with fail
            go_ret3
            exact ⟨by rw [HR.out]; rfl, rfl⟩
          · have hz : ((oneAt i : Int) == 0) = true := by rw [oneAt_far i (by omega)]; rfl
            clear hok
            generalize oneAt i = o at *
            go_wp2_with fail
            go_ret3
            exact ⟨by rw [HR.out]; rfl, rfl⟩
        | true =>
          have hne : ¬ (i = 12 ∨ okSeven d i = false) := by rw [hok]; simp [h12]
          have hres := HG2.out
          rw [if_neg hne] at hres
          have hb2 := seven_bound d i k hm hi11 hk hk2 hok
          have hb3 := seven_lt d i k hm hk
          have hmul := oneAt_mul d i hok
          have HR := Lib.hid hres
          clear hres h12 hne
          have HM := Lib.hid hmul
          have hb4 : (k : Int) + (d : Int) * (oneAt i : Int) ≤ 9223372036854775807 := by
            have : (d : Int) * (oneAt i : Int) = ((d * oneAt i : Nat) : Int) := by simp
            rw [this, HM.out]; omega
          have hb5 : 0 ≤ (d : Int) * (oneAt i : Int) := Int.mul_nonneg (by omega) (by omega)
          have hst1 := oneAt_step i
          have hst2 := oneAt_stop i
          have ST1 := Lib.hid hst1
          have ST2 := Lib.hid hst2
          have hq : 0 < d → i ≤ 8 ∧ (d : Int) ≤ (4611686018427387903 - (k : Int)) / (oneAt i : Int) := fun h => by
            have h9 : i ≤ 8 := by
              rcases Nat.lt_or_ge 8 i with h9 | h9
              · rw [okSeven_far d i h (by omega)] at hok; cases hok
              · exact h9
            refine ⟨h9, ?_⟩
            have ht := (refTest d i k hm h9 hk hk2)
            have : (4611686018427387903 - (k : Int)) / (oneAt i : Int) = (((4611686018427387903 - k) / oneAt i : Nat) : Int) := by
              rw [Int.natCast_ediv]; congr 1; omega
            rw [this]
            rcases Nat.lt_or_ge ((4611686018427387903 - k) / oneAt i) d with h3 | h3
            · rw [ht.1 h3] at hok; cases hok
            · omega
          have hz : 0 < d → ((oneAt i : Int) == 0) = false := fun h => by have := oneAt_pos i (hq h).1; simp; omega
          have hop : 0 < d → 1 ≤ (oneAt i : Int) := fun h => by have := oneAt_pos i (hq h).1; omega
          have hnext : k + d * 2 ^ (7 * i) = k + d * oneAt i := by rw [HM.out]
          have HNX := Lib.hid hnext
          have hval : ((k + d * 2 ^ (7 * i) : Nat) : Int) = (k : Int) + (d : Int) * (oneAt i : Int) := by rw [hnext]; simp
          have HV := Lib.hid hval
          have HO1 := Lib.hid (oneAt_step i)
          have HB2 := Lib.hid hb2
          have HB3 := Lib.hid hb3
          clear hok hmul hst1 hst2 hnext hval hb2 hb3 hk
          by_cases hd0 : 0 < d
          · have hd0' : (0 : Int) < (d : Int) := by omega
            have hz := hz hd0
            have hop := hop hd0
            have hq := (hq hd0).2
            by_cases hc : c.toNat < 128
            · have hc' : (c.toNat : Int) < 128 := by omega
              have hres := HR.out
              rw [if_pos hc] at hres
              have HRR := Lib.hid hres
              clear hres HR ST1 ST2 HO1
              generalize oneAt i = o at *
              go_wp2_with fail
              go_ret3
              exact ⟨by rw [← HRR.out, ← HV.out]; rfl, rfl⟩
            · have hc' : (128 : Int) ≤ (c.toNat : Int) := by omega
              have hres := HR.out
              rw [if_neg hc] at hres
              have HRR := Lib.hid hres
              clear hres HR
              by_cases hbig : 36028797018963968 < oneAt i
              · have hbig' : (36028797018963968 : Int) < (oneAt i : Int) := by omega
                have e1 := ST2.out hbig
                have HE := Lib.hid e1
                clear e1
                go_wp2_with fail
                go_round
                case rel => exact ⟨i + 1, k + d * 2 ^ (7 * i), by omega, by omega, by go_num, by rw [HV.out], by rw [HE.out]; rfl, HB3.out, HB2.out, HRR.out⟩
                case measure => simp [intOf]; omega
              · have hbig' : (oneAt i : Int) ≤ 36028797018963968 := by omega
                have e1 := ST1.out (by omega)
                have HE := Lib.hid e1
                clear e1
                go_wp2_with fail
                go_round
                case rel => exact ⟨i + 1, k + d * 2 ^ (7 * i), by omega, by omega, by go_num, by rw [HV.out], by rw [HE.out]; go_num, HB3.out, HB2.out, HRR.out⟩
                case measure => simp [intOf]; omega
          · have hd0' : (d : Int) ≤ 0 := by omega
            clear hz hop hq
            by_cases hc : c.toNat < 128
            · have hc' : (c.toNat : Int) < 128 := by omega
              have hres := HR.out
              rw [if_pos hc] at hres
              have HRR := Lib.hid hres
              clear hres HR ST1 ST2 HO1
              generalize oneAt i = o at *
              go_wp2_with fail
              go_ret3
              exact ⟨by rw [← HRR.out, ← HV.out]; rfl, rfl⟩
            · have hc' : (128 : Int) ≤ (c.toNat : Int) := by omega
              have hres := HR.out
              rw [if_neg hc] at hres
              have HRR := Lib.hid hres
              clear hres HR
              by_cases hbig : 36028797018963968 < oneAt i
              · have hbig' : (36028797018963968 : Int) < (oneAt i : Int) := by omega
                have e1 := ST2.out hbig
                have HE := Lib.hid e1
                clear e1
                go_wp2_with fail
                go_round
                case rel => exact ⟨i + 1, k + d * 2 ^ (7 * i), by omega, by omega, by go_num, by rw [HV.out], by rw [HE.out]; rfl, HB3.out, HB2.out, HRR.out⟩
                case measure => simp [intOf]; omega
              · have hbig' : (oneAt i : Int) ≤ 36028797018963968 := by omega
                have e1 := ST1.out (by omega)
                have HE := Lib.hid e1
                clear e1
                go_wp2_with fail
                go_round
                case rel => exact ⟨i + 1, k + d * 2 ^ (7 * i), by omega, by omega, by go_num, by rw [HV.out], by rw [HE.out]; go_num, HB3.out, HB2.out, HRR.out⟩
                case measure => simp [intOf]; omega
    · have hres : leb l = (0, 0, 3) := by rw [← HGO.out, List.drop_of_length_le (by omega), lebGo_nil]
      have HR := Lib.hid hres
      clear hres
      go_wp2_with fail
      go_ret3
      exact ⟨by rw [HR.out]; rfl, rfl⟩

end Go.Proofs.Ytnppjhkhfjpkfaa
