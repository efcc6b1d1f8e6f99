/-
  The walks of package inflate: put, stored, length, distance.
-/
import Derived.Test.YtaapnjhkflpiiaaInf1
namespace Go.Proofs.Ytaapnjhkflpiiaa
open Go.RowKit Go.Mix

def InfS (S : Nat → Prop) (w0 w : World) (P : Nat) (a : Option Addr) (cap : Nat) (d : List UInt8) (most : Int) (p : Nat) (out : List UInt8) : Prop := ∃ v, InfAt S w0 w P a cap d most p out v

theorem InfS.frame {S : Nat → Prop} {w0 w : World} {P : Nat} {a : Option Addr} {cap : Nat} {d : List UInt8} {most : Int} {p : Nat} {out : List UInt8} (h : InfS S w0 w P a cap d most p out) : FrameS S w0 w := by
  obtain ⟨v, h⟩ := h; exact h.row.frame

section
variable {S : Nat → Prop} {w0 w : World} {P : Nat} {a : Option Addr} {cap : Nat} {d : List UInt8} {most : Int} {p : Nat} {out : List UInt8}

theorem number_any2 (hd : Fits S w0 a cap d most) (h : InfS S w0 w P a cap d most p out) (hp : p ≤ 8 * d.length) (n : Nat) (ni : Int) (hni : ni = (n : Int)) (hn : n ≤ 16) :
    Calls Try.prog 36 #[.pointer (some ⟨P, 0, none⟩), .int .i64 ni] w
      (Outs (numR d n p) (FrameS S w0) fun x e w' => e = .returned (.int .i64 (x.1 : Nat)) ∧ InfS S w0 w' P a cap d most x.2 out) := by
  obtain ⟨v, h⟩ := h
  refine (numberI_any hd h hp n ni hni hn).mono fun e w' h' => ?_
  unfold Outs at *
  split at h'
  · exact ⟨h'.1, v, h'.2⟩
  · exact h'

theorem numR_le {d : List UInt8} {n p x q : Nat} (h : numR d n p = .ok (x, q)) : q = p + n ∧ q ≤ 8 * d.length ∧ x < 2 ^ n := by
  unfold numR at h
  split at h
  · injection h with h; injection h with h1 h2
    subst h1 h2
    exact ⟨rfl, by assumption, numAt_lt _ _ _⟩
  · cases h

set_option maxRecDepth 100000 in
theorem putI_any (hd : Fits S w0 a cap d most) (h : InfS S w0 w P a cap d most p out) (c : UInt8) (ci : Int) (hci : ci = (c.toNat : Int)) :
    Calls Try.prog 57 #[.pointer (some ⟨P, 0, none⟩), .int .u8 ci] w
      (Outs (putR most out c) (FrameS S w0) fun x e w' => e = .returned (.tuple #[]) ∧ InfS S w0 w' P a cap d most p x) := by
  subst hci
  obtain ⟨v, h⟩ := h
  have hl := h.few
  have hrm := hd.room
  obtain ⟨av, cv, rfl, -⟩ := h.row.sl
  obtain ⟨-, -, c2, c3⟩ := four_cells h.blk
  have HR := Lib.hid (show putR most out c = if most ≤ (out.length : Int) then .error 2 else .ok (out ++ [c]) from rfl)
  generalize putR most out c = R at *
  by_cases hm : most ≤ (out.length : Int)
  · have ht : decide (most ≤ (out.length : Int)) = true := decide_eq_true hm
    have HR2 := Lib.hid (HR.out.trans (if_pos hm))
    have hF := h.row.frame
    go_enter Try.func57, Try.ntmps57
    go_wp2_with fail
    go_quiet (fail)
    go_wp2_with fail
    refine (fail_any 2 _ _ rfl).mono ?_
    rintro e w' ⟨rfl, rfl⟩
    go_wp2_with fail
    exact ⟨rfl, Outs.of_err HR2.out (hF.below (below_drewN (Below.refl _ _) _))⟩
  · have ht : decide (most ≤ (out.length : Int)) = false := decide_eq_false hm
    have HR2 := Lib.hid (HR.out.trans (if_neg hm))
    go_enter Try.func57, Try.ntmps57
    go_wp2_with fail
    go_quiet (fail)
    have h2 := h.later (below_drewN (Below.refl _ _) nq)
    clear c2 c3 ht
    generalize w.drewN nq = wx at *
    obtain ⟨-, -, c2, c3⟩ := four_cells h2.blk
    have ht : decide (most ≤ (out.length : Int)) = false := decide_eq_false (by omega)
    go_wp2_with (at_builtin; refine wpList_append_n rfl (.tmp 19) (.tmp 21) rfl _ out rfl h2.row _ [c] rfl 1 1 rfl rfl (by simp; omega) ?_; intro v5 w5 hb5 hgr5; have hP5 := (hgr5.block P (lt_of_block h2.blk) (Ne.symm (h2.row.other h2.blk (by decide)))).trans h2.blk; obtain ⟨a5, k5, hv5, -, -, -, -⟩ := hb5.slice; obtain ⟨n5, hn5⟩ : ∃ n5, n5 = (bcells (out ++ [c])).length := ⟨_, rfl⟩; rw [← hn5] at hv5; subst hv5; clear hn5; obtain ⟨-, -, c25, -⟩ := four_cells hP5; have f5 := four_free hP5; have hP6 := (four_set hP5 (v := .slice a5 n5 k5)).2; have hb6 := hb5.set_other (p := ⟨P, 2, none⟩) (hb5.other hP5 (by decide)) h2.off (.slice a5 n5 k5))
    go_end0
    exact Outs.of_ok HR2.out ⟨rfl, _, hP6, hb6, h2.off, by rw [List.length_append]; simp; omega⟩

theorem putR_ok {most : Int} {out x : List UInt8} {c : UInt8} (h : putR most out c = .ok x) : x = out ++ [c] := by
  unfold putR at h
  split at h
  · cases h
  · injection h with h; exact h.symm

set_option maxRecDepth 100000 in
set_option maxHeartbeats 2000000 in
theorem storedI_any (hd : Fits S w0 a cap d most) (h : InfS S w0 w P a cap d most p out) (hp : p ≤ 8 * d.length) :
    Calls Try.prog 37 #[.pointer (some ⟨P, 0, none⟩)] w
      (Outs (storedR d most p out) (FrameS S w0) fun x e w' => e = .returned (.tuple #[]) ∧ InfS S w0 w' P a cap d most x.1 x.2) := by
  obtain ⟨v, h⟩ := h
  have hsm := hd.small
  obtain ⟨p1, hp1⟩ : ∃ p1, p1 = (p + 7) / 8 * 8 := ⟨_, rfl⟩
  have hp1' : p1 ≤ 8 * d.length := by omega
  have hz : ((p : Int) + 7) / 8 * 8 = (p1 : Int) := by omega
  have h1 := h.setAt p1 (((p : Int) + 7) / 8 * 8) hz
  have hs1 : InfS S w0 (w.setCell ⟨P, 1, none⟩ (.int .i64 (((p : Int) + 7) / 8 * 8))) P a cap d most p1 out := ⟨v, h1⟩
  obtain ⟨-, c1, -, -⟩ := four_cells h.blk
  have f0 := four_free h.blk
  have HS := Lib.hid (show storedR d most p out = match numR d 16 p1 with
      | .error e => .error e
      | .ok (n, p2) => match numR d 16 p2 with
        | .error e => .error e
        | .ok (m, p3) => if m + n = 65535 then storedGo d most n p3 out else .error 4 by rw [hp1]; rfl)
  generalize storedR d most p out = R at *
  rw [hz] at hs1
  have C1 := number_any2 hd hs1 hp1' 16 16 rfl (by decide)
  clear h1 h hp1
  cases hr1 : numR d 16 p1 with
  | error k =>
    have HC := Lib.hid (Outs.err C1 hr1)
    rw [hr1] at HS
    clear C1 hr1 hs1
    go_enter Try.func37, Try.ntmps37
    go_wp2_with fail
    refine HC.out.mono ?_
    rintro e w1 ⟨rfl, hF⟩
    go_wp2_with fail
    exact ⟨rfl, Outs.of_err HS.out hF⟩
  | ok x1 =>
    obtain ⟨n, p2⟩ := x1
    obtain ⟨-, hp2, hn⟩ := numR_le hr1
    have HC := Lib.hid (Outs.good C1 hr1)
    rw [hr1] at HS
    clear C1 hr1 hs1
    have C2 := fun (w1 : World) (hI : InfS S w0 w1 P a cap d most p2 out) => number_any2 hd hI hp2 16 16 rfl (by decide)
    cases hr2 : numR d 16 p2 with
    | error k =>
      have HS2 : Hid (R = .error k) := by have := HS.out; simp only [hr2] at this; exact this
      have HC2 := Lib.hid (fun w1 hI => Outs.err (C2 w1 hI) hr2)
      clear C2 hr2 HS
      go_enter Try.func37, Try.ntmps37
      go_wp2_with fail
      refine HC.out.mono ?_
      rintro e w1 ⟨rfl, hI1⟩
      clear c1 f0
      go_wp2_with fail
      refine (HC2.out _ hI1).mono ?_
      rintro e w2 ⟨rfl, hF⟩
      go_wp2_with fail
      exact ⟨rfl, Outs.of_err HS2.out hF⟩
    | ok x2 =>
      obtain ⟨m, p3⟩ := x2
      obtain ⟨-, hp3, hm⟩ := numR_le hr2
      have HS2 : Hid (R = if m + n = 65535 then storedGo d most n p3 out else .error 4) := by have := HS.out; simp only [hr2] at this; exact this
      have HC2 := Lib.hid (fun w1 hI => Outs.good (C2 w1 hI) hr2)
      clear C2 hr2 HS
      by_cases hmn : m + n = 65535
      · have t1 : ((m : Int) != 65535 - (n : Int)) = false := by simp; omega
        have t2 : ((m : Int) == 65535 - (n : Int)) = true := by simp; omega
        have HS3 := Lib.hid (HS2.out.trans (if_pos hmn))
        clear HS2 hmn
        go_enter Try.func37, Try.ntmps37
        go_wp2_with fail
        refine HC.out.mono ?_
        rintro e w1 ⟨rfl, hI1⟩
        clear c1 f0
        go_wp2_with fail
        refine (HC2.out _ hI1).mono ?_
        rintro e w2 ⟨rfl, hI2⟩
        clear hI1
        go_wp2_with fail
        go_loopw [28] (fun i wr => ∃ (j q : Nat) (o : List UInt8), i = .int .i64 (j : Int) ∧ j ≤ n ∧ q ≤ 8 * d.length ∧ storedGo d most (n - j) q o = R ∧ InfS S w0 wr P a cap d most q o) (fun i _ => n - (intOf i).toNat)
        case atStart => exact ⟨0, p3, out, rfl, by omega, hp3, HS3.out.symm, hI2⟩
        case round =>
          clear hI2
          obtain ⟨j, q, o, rfl, hj, hq, hgo, hI⟩ := hrel
          by_cases hjn : j < n
          · have ht : decide ((j : Int) < (n : Int)) = true := decide_eq_true (by omega)
            rw [show n - j = (n - (j + 1)) + 1 from by omega, storedGo] at hgo
            have C := number_any2 hd hI hq 8 8 rfl (by decide)
            cases hr : numR d 8 q with
            | error k =>
              rw [hr] at hgo
              have HG := Lib.hid hgo.symm
              have HC3 := Lib.hid (Outs.err C hr)
              clear C hgo hr
              go_wp2_with fail
              refine HC3.out.mono ?_
              rintro e w3 ⟨rfl, hF⟩
              go_wp2_with fail
              exact ⟨rfl, Outs.of_err HG.out hF⟩
            | ok x =>
              obtain ⟨x, q2⟩ := x
              obtain ⟨-, hq2, hx⟩ := numR_le hr
              rw [hr] at hgo
              have HC3 := Lib.hid (Outs.good C hr)
              have C4 := fun (w3 : World) (hI3 : InfS S w0 w3 P a cap d most q2 o) => putI_any hd hI3 (UInt8.ofNat x) (x : Int) (by simp; omega)
              clear C hr
              cases hr4 : putR most o (UInt8.ofNat x) with
              | error k =>
                simp only [hr4] at hgo
                have HG := Lib.hid hgo.symm
                have HC4 := Lib.hid (fun w3 hI3 => Outs.err (C4 w3 hI3) hr4)
                clear C4 hgo hr4
                go_wp2_with fail
                refine HC3.out.mono ?_
                rintro e w3 ⟨rfl, hI3⟩
                go_wp2_with fail
                refine (HC4.out _ hI3).mono ?_
                rintro e w4 ⟨rfl, hF⟩
                go_wp2_with fail
                exact ⟨rfl, Outs.of_err HG.out hF⟩
              | ok o2 =>
                simp only [hr4] at hgo
                have HG := Lib.hid hgo
                have HC4 := Lib.hid (fun w3 hI3 => Outs.good (C4 w3 hI3) hr4)
                clear C4 hgo hr4
                go_wp2_with fail
                refine HC3.out.mono ?_
                rintro e w3 ⟨rfl, hI3⟩
                go_wp2_with fail
                refine (HC4.out _ hI3).mono ?_
                rintro e w4 ⟨rfl, hI4⟩
                clear hI hI3
                go_wp2_with fail
                go_roundw
                case rel => exact ⟨j + 1, q2, o2, by go_num, by omega, hq2, HG.out, hI4⟩
                case measure => simp [intOf]; omega
          · obtain rfl : j = n := by omega
            have ht : decide ((j : Int) < (j : Int)) = false := decide_eq_false (by omega)
            rw [Nat.sub_self, storedGo] at hgo
            have HG := Lib.hid hgo.symm
            clear hgo
            go_wp2_with fail
            go_end0
            exact Outs.of_ok HG.out ⟨rfl, hI⟩
      · have t1 : ((m : Int) != 65535 - (n : Int)) = true := by rw [bne_iff_ne]; omega
        have t2 : ((m : Int) == 65535 - (n : Int)) = false := by rw [beq_eq_false_iff_ne]; omega
        have HS3 := Lib.hid (HS2.out.trans (if_neg hmn))
        clear HS2 hmn
        go_enter Try.func37, Try.ntmps37
        go_wp2_with fail
        refine HC.out.mono ?_
        rintro e w1 ⟨rfl, hI1⟩
        clear c1 f0
        go_wp2_with fail
        refine (HC2.out _ hI1).mono ?_
        rintro e w2 ⟨rfl, hI2⟩
        have hF := hI2.frame
        go_wp2_with fail
        refine (fail_any 4 _ _ rfl).mono ?_
        rintro e w' ⟨rfl, rfl⟩
        go_wp2_with fail
        exact ⟨rfl, Outs.of_err HS3.out hF⟩

end
end Go.Proofs.Ytaapnjhkflpiiaa
