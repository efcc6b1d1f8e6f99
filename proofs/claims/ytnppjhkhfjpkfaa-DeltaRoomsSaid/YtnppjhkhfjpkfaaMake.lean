/-
  The walk of delta.Make.
-/
import Derived.Test.YtnppjhkhfjpkfaaSteps
import Derived.Deep.QuietTactic
import Derived.BigQuiet
import Derived.WalkSmall
import Derived.Deep.CutRange
namespace Go.Proofs.Ytnppjhkhfjpkfaa
open Go.RowKit Go.Mix

theorem Buf.rebase {B B' : Nat} {w0 w1 w : World} {v : Value} {l : List UInt8} (h : Buf B' w1 w v l) (hB : B ≤ B') (g : Below B w0 w1) (hB2 : B ≤ w0.heap.size) : Buf B w0 w v l := by
  refine ⟨?_, g.trans (h.2.1.mono hB), hB2⟩
  obtain ⟨h1, h2⟩ := h.1
  refine ⟨h1, h2.imp id ?_⟩
  rintro ⟨g, cap, cur, e, hg, r⟩
  exact ⟨g, cap, cur, e, Nat.le_trans hB hg, r⟩

theorem copy_int (B P : Nat) (w0 : World) (o : List UInt8) (place size : Nat) (pi si : Int) (w : World) (h1 : pi = (place : Int)) (h2 : si = (size : Int))
    (hs : StepsAt B w0 w P o) (hp : place + size ≤ 4294967295) (hroom : o.length + 7 * size ≤ 140737488355328) :
    Calls Try.prog 19 #[.pointer (some ⟨P, 0, none⟩), .int .i64 pi, .int .i64 si] w fun e w' => e = .returned (.tuple #[]) ∧ StepsAt B w0 w' P (o ++ copOf place size) := by
  subst h1 h2; exact copy_any B P w0 o place size w hs hp hroom

theorem copOf_room (place size : Nat) (h : size ≤ 1000000) : (copOf place size).length ≤ 1000 := by
  have := copF_len size place size (Nat.le_refl _)
  unfold copOf
  split at this <;> omega
theorem insOf_room (l : List UInt8) (h : l.length ≤ 1000000) : (insOf l).length ≤ 2000000 := by
  have := insF_len l.length l (Nat.le_refl _)
  unfold insOf
  omega
theorem lebOf_room (n : Nat) : (lebOf n).length ≤ 10 := lebF_le 10 n

theorem frontOf_nil_left (b : List UInt8) : frontOf [] b = 0 := by cases b <;> rfl
theorem frontOf_nil_right (a : List UInt8) : frontOf a [] = 0 := by cases a <;> rfl

theorem frontOf_cons (x y : UInt8) (xs ys : List UInt8) : frontOf (x :: xs) (y :: ys) = if x = y then frontOf xs ys + 1 else 0 := rfl

/-- How the front goes on behind k bytes. -/
theorem front_at (a b : List UInt8) (k : Nat) : frontOf (a.drop k) (b.drop k) = if h : k < a.length ∧ k < b.length then (if a[k]'h.1 = b[k]'h.2 then frontOf (a.drop (k + 1)) (b.drop (k + 1)) + 1 else 0) else 0 := by
  split
  · rename_i h
    rw [List.drop_eq_getElem_cons h.1, List.drop_eq_getElem_cons h.2, frontOf_cons]
  · rename_i h
    rcases Nat.lt_or_ge k a.length with h1 | h1
    · rw [List.drop_of_length_le (show b.length ≤ k by omega), frontOf_nil_right]
    · rw [List.drop_of_length_le h1, frontOf_nil_left]

set_option maxRecDepth 100000 in
set_option maxHeartbeats 8000000 in
theorem make_any (a : Option Addr) (cap : Nat) (base : List UInt8) (a' : Option Addr) (cap' : Nat) (target : List UInt8) (w : World)
    (hb : Bs w a base) (_hc : base.length ≤ cap) (_hmax : cap ≤ 9223372036854775807) (_hn : a = none → cap = 0)
    (hb' : Bs w a' target) (hc' : target.length ≤ cap') (_hmax' : cap' ≤ 9223372036854775807) (hn' : a' = none → cap' = 0)
    (hbl : base.length ≤ 1000000) (htl : target.length ≤ 1000000) :
    Calls Try.prog 14 #[.slice a base.length cap, .slice a' target.length cap'] w fun e w' => ∃ v, e = .returned v ∧ Buf w.heap.size w w' v (makeOf base target) := by
  have IX := Lib.hid (fun k (hk : k < base.length) => run_index_any (P := Try.prog) hb.cells 22 Try.underlying22 sizeOf_u8 cap (n := base.length) hk (by rw [bcells_length]; omega))
  have IX' := Lib.hid (fun k (hk : k < target.length) => run_index_any (P := Try.prog) hb'.cells 22 Try.underlying22 sizeOf_u8 cap' (n := target.length) hk (by rw [bcells_length]; omega))
  go_enter Try.func14, Try.ntmps14
  go_wp2_with fail
  go_loopw [5] (fun i wr => ∃ k : Nat, i = .int .i64 k ∧ k ≤ base.length ∧ k ≤ target.length ∧ k + frontOf (base.drop k) (target.drop k) = frontOf base target ∧ Below w.heap.size w wr) (fun i _ => base.length - (intOf i).toNat)
  case atStart => exact ⟨0, rfl, by omega, by omega, by simp, Below.refl _ _⟩
  case round =>
    obtain ⟨k, rfl, hk1, hk2, hf, hbr⟩ := hrel
    obtain ⟨B, hB⟩ : ∃ B : Bool, B = decide (frontOf (base.drop k) (target.drop k) ≠ 0) := ⟨_, rfl⟩
    have hfr := front_at base target k
    have HB := Lib.hid hB
    have HF := Lib.hid hf
    clear hB hf
    go_upto_region 2 with (fail)
    go_cut [28] from 8 to 30 (fun t wx => t = .bool B ∧ Below w.heap.size w wx)
    case first =>
      have hB := HB.out
      by_cases h1 : k < base.length
      · have h1' : decide (k < base.length) = true := decide_eq_true h1
        by_cases h2 : k < target.length
        · have h2' : decide (k < target.length) = true := decide_eq_true h2
          rw [dif_pos ⟨h1, h2⟩] at hfr
          have c1 := (hb.below hbr).cell h1
          have c2 := (hb'.below hbr).cell h2
          have i1 := IX.out k h1
          have i2 := IX'.out k h2
          generalize base[k] = x at *
          generalize target[k] = y at *
          have hxy : ((x.toNat : Int) == (y.toNat : Int)) = B := by
            rw [hB, hfr, Bool.eq_iff_iff]
            simp
            constructor
            · intro h; have : x = y := UInt8.toNat_inj.1 (by omega)
              simp [this]
            · intro h; by_cases e : x = y
              · rw [e]
              · simp [e] at h
          clear hB hfr HB HF
          go_quiet (fail)
          go_wp2_with fail
          go_meet
          exact ⟨rfl, below_drewN hbr _⟩
        · have h2' : decide (k < target.length) = false := decide_eq_false h2
          rw [dif_neg (by omega)] at hfr
          have hBf : B = false := by rw [hB, hfr]; simp
          subst hBf
          clear hB hfr HB HF
          go_quiet (fail)
          go_wp2_with fail
          go_meet
          exact ⟨rfl, below_drewN hbr _⟩
      · have h1' : decide (k < base.length) = false := decide_eq_false h1
        rw [dif_neg (by omega)] at hfr
        have hBf : B = false := by rw [hB, hfr]; simp
        subst hBf
        clear hB hfr HB HF
        go_quiet (fail)
        go_wp2_with fail
        go_meet
        exact ⟨rfl, below_drewN hbr _⟩
    case rest =>
      obtain ⟨rfl, hbr2⟩ := hcut
      cases B with
      | true =>
        have h1 : k < base.length ∧ k < target.length := by
          by_cases h : k < base.length ∧ k < target.length
          · exact h
          · have := HB.out; rw [hfr, dif_neg h] at this; simp at this
        have hf2 : k + 1 + frontOf (base.drop (k + 1)) (target.drop (k + 1)) = frontOf base target := by
          have h3 := HB.out
          rw [← HF.out]
          rw [hfr, dif_pos h1] at h3 ⊢
          split
          · omega
          · rename_i h; rw [if_neg h] at h3; simp at h3
        have HF2 := Lib.hid hf2
        clear hf2 hfr
        go_wp2_with fail
        go_roundw
        case rel => exact ⟨k + 1, by go_num, by omega, by omega, HF2.out, hbr2⟩
        case measure => simp [intOf]; omega
      | false =>
        have hk : k = frontOf base target := by
          have h3 := HB.out
          have h4 := HF.out
          simp at h3
          rw [h3] at h4; exact h4
        have hkb := hk1
        obtain ⟨f, rfl⟩ : ∃ f, f = k := ⟨_, rfl⟩
        have HK := Lib.hid hk
        obtain ⟨rb, hrb⟩ : ∃ rb, rb = (base.drop f).reverse := ⟨_, rfl⟩
        obtain ⟨rt, hrt⟩ : ∃ rt, rt = (target.drop f).reverse := ⟨_, rfl⟩
        have hrbl : rb.length = base.length - f := by rw [hrb]; simp
        have hrtl : rt.length = target.length - f := by rw [hrt]; simp
        have GB := Lib.hid (fun j (hj : j < rb.length) (h2 : base.length - 1 - j < base.length) => show rb[j] = base[base.length - 1 - j]'h2 by subst hrb; simp at hj ⊢; congr 1; omega)
        have GT := Lib.hid (fun j (hj : j < rt.length) (h2 : target.length - 1 - j < target.length) => show rt[j] = target[target.length - 1 - j]'h2 by subst hrt; simp at hj ⊢; congr 1; omega)
        have HRB := Lib.hid hrb
        have HRT := Lib.hid hrt
        have HRBL := Lib.hid hrbl
        have HRTL := Lib.hid hrtl
        clear hk HB HF hfr hrb hrt hrbl hrtl hbr
        obtain ⟨wa, rfl⟩ : ∃ wa : World, wa = wr := ⟨_, rfl⟩
        go_wp2_with fail
        go_loopw [6] (fun i wx => ∃ k : Nat, i = .int .i64 k ∧ k ≤ rb.length ∧ k ≤ rt.length ∧ k + frontOf (rb.drop k) (rt.drop k) = frontOf rb rt ∧ Below w.heap.size w wx) (fun i _ => rb.length - (intOf i).toNat)
        case atStart => exact ⟨0, rfl, by omega, by omega, by simp, hbr2⟩
        case round =>
          clear hbr2
          obtain ⟨k, rfl, hj1, hj2, hf, hbr⟩ := hrel
          obtain ⟨B, hB⟩ : ∃ B : Bool, B = decide (frontOf (rb.drop k) (rt.drop k) ≠ 0) := ⟨_, rfl⟩
          have hfr := front_at rb rt k
          have HB := Lib.hid hB
          have HF := Lib.hid hf
          clear hB hf
          have eb := HRBL.out
          have et := HRTL.out
          have w1 : IntKind.i64.wrap ((base.length : Int) - (f : Int)) = (base.length : Int) - (f : Int) := IntWalk.i64_in _ (by omega)
          have w2 : IntKind.i64.wrap ((target.length : Int) - (f : Int)) = (target.length : Int) - (f : Int) := IntWalk.i64_in _ (by omega)
          have w3 : IntKind.i64.wrap ((base.length : Int) - 1) = (base.length : Int) - 1 := IntWalk.i64_in _ (by omega)
          have w4 : IntKind.i64.wrap ((target.length : Int) - 1) = (target.length : Int) - 1 := IntWalk.i64_in _ (by omega)
          have w5 : IntKind.i64.wrap ((base.length : Int) - 1 - (k : Int)) = (base.length : Int) - 1 - (k : Int) := IntWalk.i64_in _ (by omega)
          have w6 : IntKind.i64.wrap ((target.length : Int) - 1 - (k : Int)) = (target.length : Int) - 1 - (k : Int) := IntWalk.i64_in _ (by omega)
          have W := Lib.hid (And.intro w1 (And.intro w2 (And.intro w3 (And.intro w4 (And.intro w5 w6)))))
          clear eb et w1 w2 w3 w4 w5 w6
          go_upto_region 5 with (fail)
          go_cut [63] from 31 to 65 (fun t wx => t = .bool B ∧ Below w.heap.size w wx)
          case first =>
            have hB := HB.out
            by_cases h1 : k < rb.length
            · have h1' : decide ((k : Int) < (base.length : Int) - (f : Int)) = true := decide_eq_true (by have := HRBL.out; omega)
              by_cases h2 : k < rt.length
              · have h2' : decide ((k : Int) < (target.length : Int) - (f : Int)) = true := decide_eq_true (by have := HRTL.out; omega)
                have k1 : base.length - 1 - k < base.length := by have := HRBL.out; omega
                have k2 : target.length - 1 - k < target.length := by have := HRTL.out; omega
                rw [dif_pos ⟨h1, h2⟩, GB.out k h1 k1, GT.out k h2 k2] at hfr
                have c1 := (hb.below hbr).cell k1
                have c2 := (hb'.below hbr).cell k2
                have i1 := IX.out _ k1
                have i2 := IX'.out _ k2
                rw [show ((base.length - 1 - k : Nat) : Int) = (base.length : Int) - 1 - (k : Int) from by have := HRBL.out; omega] at i1
                rw [show ((target.length - 1 - k : Nat) : Int) = (target.length : Int) - 1 - (k : Int) from by have := HRTL.out; omega] at i2
                generalize base[base.length - 1 - k] = x at *
                generalize target[target.length - 1 - k] = y at *
                have hxy : ((x.toNat : Int) == (y.toNat : Int)) = B := by
                  rw [hB, hfr, Bool.eq_iff_iff]
                  simp
                  constructor
                  · intro h; have : x = y := UInt8.toNat_inj.1 (by omega)
                    simp [this]
                  · intro h; by_cases e : x = y
                    · rw [e]
                    · simp [e] at h
                clear hB hfr HB HF
                obtain ⟨w1, w2, w3, w4, w5, w6⟩ := W.out
                go_quiet (fail)
                go_wp2_with fail
                go_meet
                exact ⟨rfl, below_drewN hbr _⟩
              · have h2' : decide ((k : Int) < (target.length : Int) - (f : Int)) = false := decide_eq_false (by have := HRTL.out; omega)
                rw [dif_neg (by omega)] at hfr
                have hBf : B = false := by rw [hB, hfr]; simp
                subst hBf
                clear hB hfr HB HF
                obtain ⟨w1, w2, w3, w4, w5, w6⟩ := W.out
                go_quiet (fail)
                go_wp2_with fail
                go_meet
                exact ⟨rfl, below_drewN hbr _⟩
            · have h1' : decide ((k : Int) < (base.length : Int) - (f : Int)) = false := decide_eq_false (by have := HRBL.out; omega)
              rw [dif_neg (by omega)] at hfr
              have hBf : B = false := by rw [hB, hfr]; simp
              subst hBf
              clear hB hfr HB HF
              obtain ⟨w1, w2, w3, w4, w5, w6⟩ := W.out
              go_quiet (fail)
              go_wp2_with fail
              go_meet
              exact ⟨rfl, below_drewN hbr _⟩
          case rest =>
            obtain ⟨rfl, hbr2⟩ := hcut
            cases B with
            | true =>
              have h1 : k < rb.length ∧ k < rt.length := by
                by_cases h : k < rb.length ∧ k < rt.length
                · exact h
                · have := HB.out; rw [hfr, dif_neg h] at this; simp at this
              have hf2 : k + 1 + frontOf (rb.drop (k + 1)) (rt.drop (k + 1)) = frontOf rb rt := by
                have h3 := HB.out
                rw [← HF.out]
                rw [hfr, dif_pos h1] at h3 ⊢
                split
                · omega
                · rename_i h; rw [if_neg h] at h3; simp at h3
              have HF2 := Lib.hid hf2
              have := HRBL.out
              clear hf2 hfr
              go_wp2_with fail
              go_roundw
              case rel => exact ⟨k + 1, by go_num, by omega, by omega, HF2.out, hbr2⟩
              case measure => simp [intOf]; omega
            | false =>
              have hk : k = frontOf rb rt := by
                have h3 := HB.out
                have h4 := HF.out
                simp at h3
                rw [h3] at h4; exact h4
              have hk' := hk
              have hkt : k + f ≤ target.length := by have := HRTL.out; omega
              have hkb2 : k + f ≤ base.length := by have := HRBL.out; omega
              have hps := parts_spec base target
              have hmk := makeOf_eq base target
              have ha : aheadOf base target = if f < 8 then 0 else f := by unfold aheadOf; rw [← HK.out]
              have hbh : behindOf base target = if k < 8 then 0 else k := by unfold behindOf; simp only; rw [← HK.out, ← HRB.out, ← HRT.out]; rw [← hk']
              clear hk HB HF hfr hbr W HK HRB HRT hk' HRBL HRTL GB GT hj1 hj2 hk1 hk2
              generalize aheadOf base target = p at *
              generalize behindOf base target = q at *
              obtain ⟨hps1, hps2, -, -⟩ := hps
              have HM := Lib.hid hmk
              clear hmk IX IX'
              by_cases hf8 : f < 8
              all_goals
                by_cases hk8 : k < 8
                all_goals
                  first | rw [if_pos hf8] at ha | rw [if_neg hf8] at ha
                  first | rw [if_pos hk8] at hbh | rw [if_neg hk8] at hbh
                  have htp : (target.drop p).take (target.length - q - p) = (target.drop p).take (target.length - q - p) := rfl
                  obtain ⟨a6, l6, cap6, hl6, hl6n, hb6, hc6, hcc6, hn6, hsl6⟩ := cut_mid_i (P := Try.prog) hb' 22 Try.underlying22 sizeOf_u8 cap' (if f < 8 then 0 else (f : Int)) (if k < 8 then (target.length : Int) else (target.length : Int) - (k : Int)) p (target.length - q) (by split <;> omega) (by split <;> omega) hc' hn' (by omega) (by omega)
                  rw [← hl6] at HM
                  first | rw [if_pos hf8] at hsl6 | rw [if_neg hf8] at hsl6
                  first | rw [if_pos hk8] at hsl6 | rw [if_neg hk8] at hsl6
                  have HA := Lib.hid ha
                  have HBH := Lib.hid hbh
                  have hl6m : l6.length ≤ 1000000 := by omega
                  clear ha hbh hl6 hl6n htp
                  first | (have hf8' : decide ((f : Int) < 8) = true := decide_eq_true (by omega)) | (have hf8' : decide ((f : Int) < 8) = false := decide_eq_false (by omega))
                  first | (have hk8' : decide ((k : Int) < 8) = true := decide_eq_true (by omega)) | (have hk8' : decide ((k : Int) < 8) = false := decide_eq_false (by omega))
                  go_wp2_with fail
                  refine (leb_any base.length _ (by omega)).mono ?_
                  rintro e w1 ⟨v1, rfl, hb1⟩
                  have g1 := hbr2.trans (hb1.2.1.mono hbr2.size)
                  go_wp2_with fail
                  refine (leb_any target.length _ (by omega)).mono ?_
                  rintro e w2 ⟨v2, rfl, hb2⟩
                  have hb1' := (hb1.later hb2.2.1).rebase hbr2.size hbr2 (Nat.le_refl _)
                  obtain ⟨a2, cap2, rfl, hbs2, -, -, hn2⟩ := hb2.1.bs
                  have hL1 := lebOf_room base.length
                  have hL2 := lebOf_room target.length
                  go_wp2_with (at_builtin; refine wpList_append_buf rfl (.tmp 68) (.tmp 71) rfl v1 _ rfl hb1' a2 cap2 _ rfl hbs2 (fun e => (hn2 e).2) (by omega) ?_; intro v3 w3 hb3 hgr3; obtain ⟨a3, n3, cap3, hv3⟩ := hb3.1.slice; subst hv3)
                  have hst : StepsAt w.heap.size w (w3.alloc (.cells #[.slice a3 n3 cap3] 50)) w3.heap.size (lebOf base.length ++ lebOf target.length) := ⟨.slice a3 n3 cap3, heap_alloc_last _ _ _ rfl, hb3.later ((Below.refl _ _).alloc (Nat.le_refl _) _), hb3.le⟩
                  have hR1 := copOf_room 0 p (by omega)
                  have hR2 := insOf_room l6 hl6m
                  have hR3 := copOf_room (base.length - q) q (by omega)
                  refine Calls.mono (copy_int w.heap.size w3.heap.size w _ 0 p _ _ _ rfl ?_ hst (by omega) (by rw [List.length_append]; omega)) ?_
                  · have := HA.out; omega
                  rintro e w4 ⟨rfl, hst4⟩
                  generalize w3.heap.size = P at *
                  clear hst
                  go_wp2_with fail
                  refine (insert_any w.heap.size P w _ a6 cap6 l6 _ rfl hst4 hb6 hc6 (by omega) hn6 (by simp only [List.length_append]; omega)).mono ?_
                  rintro e w5 ⟨rfl, hst5⟩
                  clear hst4
                  go_wp2_with fail
                  refine Calls.mono (copy_int w.heap.size P w _ (base.length - q) q _ _ _ ?_ ?_ hst5 (by omega) (by simp only [List.length_append]; omega)) ?_
                  · have := HBH.out; omega
                  · have := HBH.out; omega
                  rintro e w6 ⟨rfl, hst6⟩
                  clear hst5
                  obtain ⟨v6, hP6, hbuf6, -⟩ := hst6
                  have hc6 := cell_of_one hP6
                  obtain ⟨a7, n7, cap7, hv7⟩ := hbuf6.1.slice
                  subst hv7
                  go_wp2_with fail
                  go_ret
                  exact ⟨.slice a7 n7 cap7, rfl, by rw [HM.out]; exact hbuf6⟩
end Go.Proofs.Ytnppjhkhfjpkfaa
