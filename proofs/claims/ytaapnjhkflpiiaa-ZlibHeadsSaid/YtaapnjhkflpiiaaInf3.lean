/-
  The walks of package inflate: length, distance.
-/
import Derived.Test.YtaapnjhkflpiiaaInf2
import Derived.Test.YtaapnjhkflpiiaaMixP
namespace Go.Proofs.Ytaapnjhkflpiiaa
open Go.RowKit Go.Mix

theorem InfS.later {S : Nat → Prop} {w0 w w' : World} {P : Nat} {a : Option Addr} {cap : Nat} {d : List UInt8} {most : Int} {p : Nat} {out : List UInt8} (h : InfS S w0 w P a cap d most p out) (g : Below w.heap.size w w') : InfS S w0 w' P a cap d most p out := by
  obtain ⟨v, h⟩ := h; exact ⟨v, h.later g⟩

section
variable {S : Nat → Prop} {w0 w : World} {P : Nat} {a : Option Addr} {cap : Nat} {d : List UInt8} {most : Int} {p : Nat} {out : List UInt8}

theorem shl_num (b m : Nat) (hb : b < 8) (hm : m ≤ 13) : ∃ z : Nat, z = b * 2 ^ m ∧ z ≤ 65536 ∧ (b : Int) * 2 ^ m = (z : Int) := by
  refine ⟨b * 2 ^ m, rfl, ?_, by rw [Int.natCast_mul, Int.natCast_pow]; rfl⟩
  have h1 : 2 ^ m ≤ 2 ^ 13 := Nat.pow_le_pow_right (by decide) hm
  have h2 : b * 2 ^ m ≤ 8 * 2 ^ 13 := Nat.mul_le_mul (by omega) h1
  omega

set_option maxRecDepth 100000 in
set_option maxHeartbeats 2000000 in
theorem lengthI_any (hd : Fits S w0 a cap d most) (h : InfS S w0 w P a cap d most p out) (hp : p ≤ 8 * d.length) (s : Nat) (hs1 : 257 ≤ s) (hs2 : s ≤ 1000) :
    Calls Try.prog 59 #[.pointer (some ⟨P, 0, none⟩), .int .i64 (s : Int)] w
      (Outs (lenR d s p) (FrameS S w0) fun x e w' => e = .returned (.int .i64 (x.1 : Nat)) ∧ InfS S w0 w' P a cap d most x.2 out) := by
  obtain ⟨k, hk⟩ : ∃ k, s = k + 257 := ⟨s - 257, by omega⟩
  subst hk
  have hk1 : ((k + 257 : Nat) : Int) - 257 = (k : Int) := by omega
  have HL := Lib.hid (show lenR d (k + 257) p = if k + 257 < 265 then .ok (k + 257 - 254, p) else if k + 257 = 285 then .ok (258, p) else if 285 < k + 257 then .error 4
      else match numR d ((k + 257 - 257) / 4 - 1) p with
        | .error e => .error e
        | .ok (x, p') => .ok (3 + (4 + (k + 257 - 257) % 4) * 2 ^ ((k + 257 - 257) / 4 - 1) + x, p') from rfl)
  generalize lenR d (k + 257) p = R at *
  rw [Nat.add_sub_cancel] at HL
  by_cases h1 : k < 8
  · have t1 : decide ((k : Int) < 8) = true := decide_eq_true (by omega)
    have HR := Lib.hid (HL.out.trans (if_pos (by omega)))
    go_enter Try.func59, Try.ntmps59
    go_wp2_with fail
    go_ret
    exact Outs.of_ok HR.out ⟨by show Ending.returned (.int .i64 ((k : Int) + 3)) = .returned (.int .i64 ((k + 257 - 254 : Nat) : Int)); congr 2, h⟩
  · have t1 : decide ((k : Int) < 8) = false := decide_eq_false (by omega)
    by_cases h2 : k = 28
    · subst h2
      have HR := Lib.hid ((HL.out.trans (if_neg (by omega))).trans (if_pos rfl))
      go_enter Try.func59, Try.ntmps59
      go_wp2_with fail
      go_ret
      exact Outs.of_ok HR.out ⟨rfl, h⟩
    · have t2 : ((k : Int) == 28) = false := by simp; omega
      by_cases h3 : 28 < k
      · have t3 : decide ((28 : Int) < (k : Int)) = true := decide_eq_true (by omega)
        have HR := Lib.hid (((HL.out.trans (if_neg (by omega))).trans (if_neg (by omega))).trans (if_pos (by omega)))
        have hF := h.frame
        go_enter Try.func59, Try.ntmps59
        go_wp2_with fail
        refine (fail_any 4 _ _ rfl).mono ?_
        rintro e w' ⟨rfl, rfl⟩
        go_wp2_with fail
        exact ⟨rfl, Outs.of_err HR.out hF⟩
      · have t3 : decide ((28 : Int) < (k : Int)) = false := decide_eq_false (by omega)
        have HR := Lib.hid (((HL.out.trans (if_neg (by omega))).trans (if_neg (by omega))).trans (if_neg (by omega)))
        clear HL
        obtain ⟨m, hm⟩ : ∃ m, m = k / 4 - 1 := ⟨_, rfl⟩
        have hm1 : (k : Int) / 4 - 1 = (m : Int) := by omega
        have hm2 : m ≤ 6 := by omega
        obtain ⟨z, hz1, hz2, hz3⟩ := shl_num (4 + k % 4) m (by omega) (by omega)
        have hz4 : (4 + (k : Int) % 4) * 2 ^ m = (z : Int) := by rw [← hz3]; congr 1
        rw [← hm, ← hz1] at HR
        have C := Lib.hid (fun (w1 : World) (hI : InfS S w0 w1 P a cap d most p out) => number_any2 hd hI hp m m rfl (by omega))
        have hz5 : z ≤ 65536 := hz2
        have W := Lib.hid (show IntKind.i64.wrap (3 + IntKind.i64.wrap (IntKind.i64.wrap (4 + (k : Int).tmod 4) * 2 ^ m)) = ((3 + z : Nat) : Int) by
          rw [Int.tmod_eq_emod_of_nonneg (by omega), IntWalk.i64_in (4 + (k : Int) % 4) (by omega), hz4, IntWalk.i64_in (z : Int) (by omega), IntWalk.i64_in _ (by omega)]; omega)
        clear hm hz3 hz1 hz2 hz4
        go_enter Try.func59, Try.ntmps59
        go_wp2_with fail
        refine MixP.wp_region_mix (D := []) (E := fun c w' => ∃ q, numR d m p = .error q ∧ c = thrown q ∧ FrameS S w0 w') [(0, 3), (1, 3), (2, 3), (3, 3), (4, 3), (5, 3), (6, 3), (7, 3), (8, 3), (9, 3), (10, 2), (11, 3), (12, 3)] (by kernel_rfl) ?hE (by kernel_rfl) ?_
        case hE =>
          rintro c a' w' hD ⟨q, hq, rfl, hF⟩
          rw [hq] at HR
          obtain ⟨at1, at2⟩ := a'
          obtain rfl : at2 = [] := hD
          exact ⟨rfl, Outs.of_err HR.out hF⟩
        iterate 10 (refine MixP.mix_pure rfl (fun K hK => ?_); go_simp; (refine hK _ ?_; clear hK K))
        rw [W.out]
        refine MixP.mix_sync rfl rfl (fun w8 hw8 K hK => ?_)
        have h8 := h.later hw8
        go_wp2_with fail
        refine Calls.mono (C.out _ h8) ?_
        intro e w1 hO
        cases hr : numR d m p with
        | error q =>
          rw [hr] at hO
          obtain ⟨rfl, hF⟩ := hO
          go_wp2_with fail
          exact ⟨rfl, rfl, hF⟩
        | ok x =>
          obtain ⟨x, q⟩ := x
          rw [hr] at hO HR
          obtain ⟨-, -, hx⟩ := numR_le hr
          have hx2 : 2 ^ m ≤ 2 ^ 13 := Nat.pow_le_pow_right (by decide) (by omega)
          obtain ⟨rfl, hI⟩ := hO
          have W2 := Lib.hid (show IntKind.i64.wrap (3 + (z : Int) + (x : Int)) = ((3 + z + x : Nat) : Int) by rw [IntWalk.i64_in _ (by omega)]; omega)
          clear hx hx2
          go_wp2_with fail
          iterate 2 (refine MixP.mix_pure rfl (fun K hK => ?_); go_simp; (refine hK _ ?_; clear hK K))
          refine MixP.mix_nil fun w9 hw9 => ?_
          have h9 := hI.later hw9
          rw [W2.out]
          go_wp2_with fail
          go_ret
          exact Outs.of_ok HR.out ⟨rfl, h9⟩

set_option maxRecDepth 100000 in
set_option maxHeartbeats 2000000 in
theorem distanceI_any (hd : Fits S w0 a cap d most) (h : InfS S w0 w P a cap d most p out) (hp : p ≤ 8 * d.length) (k : Nat) (hs2 : k ≤ 1000) :
    Calls Try.prog 60 #[.pointer (some ⟨P, 0, none⟩), .int .i64 (k : Int)] w
      (Outs (distR d k p) (FrameS S w0) fun x e w' => e = .returned (.int .i64 (x.1 : Nat)) ∧ InfS S w0 w' P a cap d most x.2 out) := by
  have HL := Lib.hid (show distR d k p = if k < 4 then .ok (k + 1, p) else if 29 < k then .error 4
      else match numR d (k / 2 - 1) p with
        | .error e => .error e
        | .ok (x, p') => .ok (1 + (2 + k % 2) * 2 ^ (k / 2 - 1) + x, p') from rfl)
  generalize distR d k p = R at *
  by_cases h1 : k < 4
  · have t1 : decide ((k : Int) < 4) = true := decide_eq_true (by omega)
    have HR := Lib.hid (HL.out.trans (if_pos (by omega)))
    go_enter Try.func60, Try.ntmps60
    go_wp2_with fail
    go_ret
    exact Outs.of_ok HR.out ⟨rfl, h⟩
  · have t1 : decide ((k : Int) < 4) = false := decide_eq_false (by omega)
    by_cases h3 : 29 < k
    · have t3 : decide ((29 : Int) < (k : Int)) = true := decide_eq_true (by omega)
      have HR := Lib.hid ((HL.out.trans (if_neg (by omega))).trans (if_pos (by omega)))
      have hF := h.frame
      go_enter Try.func60, Try.ntmps60
      go_wp2_with fail
      refine (fail_any 4 _ _ rfl).mono ?_
      rintro e w' ⟨rfl, rfl⟩
      go_wp2_with fail
      exact ⟨rfl, Outs.of_err HR.out hF⟩
    · have t3 : decide ((29 : Int) < (k : Int)) = false := decide_eq_false (by omega)
      have HR := Lib.hid ((HL.out.trans (if_neg (by omega))).trans (if_neg (by omega)))
      clear HL
      obtain ⟨m, hm⟩ : ∃ m, m = k / 2 - 1 := ⟨_, rfl⟩
      have hm1 : (k : Int) / 2 - 1 = (m : Int) := by omega
      have hm2 : m ≤ 13 := by omega
      obtain ⟨z, hz1, hz2, hz3⟩ := shl_num (2 + k % 2) m (by omega) (by omega)
      have hz4 : (2 + (k : Int) % 2) * 2 ^ m = (z : Int) := by rw [← hz3]; congr 1
      rw [← hm, ← hz1] at HR
      have C := Lib.hid (fun (w1 : World) (hI : InfS S w0 w1 P a cap d most p out) => number_any2 hd hI hp m m rfl (by omega))
      have hz5 : z ≤ 65536 := hz2
      have W := Lib.hid (show IntKind.i64.wrap (1 + IntKind.i64.wrap (IntKind.i64.wrap (2 + (k : Int).tmod 2) * 2 ^ m)) = ((1 + z : Nat) : Int) by
        rw [Int.tmod_eq_emod_of_nonneg (by omega), IntWalk.i64_in (2 + (k : Int) % 2) (by omega), hz4, IntWalk.i64_in (z : Int) (by omega), IntWalk.i64_in _ (by omega)]; omega)
      clear hm hz3 hz1 hz2 hz4
      go_enter Try.func60, Try.ntmps60
      go_wp2_with fail
      refine MixP.wp_region_mix (D := []) (E := fun c w' => ∃ q, numR d m p = .error q ∧ c = thrown q ∧ FrameS S w0 w') [(0, 3), (1, 3), (2, 3), (3, 3), (4, 3), (5, 3), (6, 3), (7, 3), (8, 3), (9, 3), (10, 2), (11, 3), (12, 3)] (by kernel_rfl) ?hE (by kernel_rfl) ?_
      case hE =>
        rintro c a' w' hD ⟨q, hq, rfl, hF⟩
        rw [hq] at HR
        obtain ⟨at1, at2⟩ := a'
        obtain rfl : at2 = [] := hD
        exact ⟨rfl, Outs.of_err HR.out hF⟩
      iterate 10 (refine MixP.mix_pure rfl (fun K hK => ?_); go_simp; (refine hK _ ?_; clear hK K))
      rw [W.out]
      refine MixP.mix_sync rfl rfl (fun w8 hw8 K hK => ?_)
      have h8 := h.later hw8
      go_wp2_with fail
      refine Calls.mono (C.out _ h8) ?_
      intro e w1 hO
      cases hr : numR d m p with
      | error q =>
        rw [hr] at hO
        obtain ⟨rfl, hF⟩ := hO
        go_wp2_with fail
        exact ⟨rfl, rfl, hF⟩
      | ok x =>
        obtain ⟨x, q⟩ := x
        rw [hr] at hO HR
        obtain ⟨-, -, hx⟩ := numR_le hr
        have hx2 : 2 ^ m ≤ 2 ^ 13 := Nat.pow_le_pow_right (by decide) (by omega)
        obtain ⟨rfl, hI⟩ := hO
        have W2 := Lib.hid (show IntKind.i64.wrap (1 + (z : Int) + (x : Int)) = ((1 + z + x : Nat) : Int) by rw [IntWalk.i64_in _ (by omega)]; omega)
        clear hx hx2
        go_wp2_with fail
        iterate 2 (refine MixP.mix_pure rfl (fun K hK => ?_); go_simp; (refine hK _ ?_; clear hK K))
        refine MixP.mix_nil fun w9 hw9 => ?_
        have h9 := hI.later hw9
        rw [W2.out]
        go_wp2_with fail
        go_ret
        exact Outs.of_ok HR.out ⟨rfl, h9⟩

end
end Go.Proofs.Ytaapnjhkflpiiaa
