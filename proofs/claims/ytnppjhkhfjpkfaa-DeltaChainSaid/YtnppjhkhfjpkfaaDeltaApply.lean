/-
  The walk of delta.Apply.
-/
import Derived.Test.YtnppjhkhfjpkfaaDeltaTaken
namespace Go.Proofs.Ytnppjhkhfjpkfaa
open Go.RowKit Go.Mix

/-- What Apply hands back: bytes of the call's own and an error. -/
def ApplyPost (w : World) (x : List UInt8 × Nat) (e : Ending) (w' : World) : Prop :=
  ∃ v, e = .returned (.tuple #[v, .int .i64 (x.2 : Int)]) ∧ OwnB w' w.heap.size v x.1 ∧ Below w.heap.size w w'

theorem applyPost_none {w w' : World} {x : List UInt8 × Nat} {n : Nat} (h : x = ([], n)) (hb : Below w.heap.size w w') : ApplyPost w x (.returned (.tuple #[.slice none 0 0, .int .i64 (n : Int)])) w' := by
  subst h; exact ⟨_, rfl, OwnB.nil _ _, hb⟩

theorem steps_nil (base : List UInt8) (b f : Nat) (o : List UInt8) (hf : 0 < f) : steps base b f [] o = if o.length = b then (o, 0) else ([], 4) := by
  cases f with
  | zero => omega
  | succ f => rfl
theorem steps_cons (base : List UInt8) (b f : Nat) (c : UInt8) (r o : List UInt8) : steps base b (f + 1) (c :: r) o =
      if c.toNat = 0 then ([], 4)
      else if c.toNat < 128 then
        if r.length < c.toNat then ([], 3)
        else if b < o.length + c.toNat then ([], 4)
        else steps base b f (r.drop c.toNat) (o ++ r.take c.toNat)
      else match takenOf c.toNat r with
        | none => ([], 3)
        | some (p, s, n) =>
          if base.length < p + s then ([], 4)
          else if b < o.length + s then ([], 4)
          else steps base b f (r.drop n) (o ++ (base.drop p).take s) := rfl

set_option maxRecDepth 100000 in
set_option maxHeartbeats 4000000 in
theorem apply_any (a : Option Addr) (cap : Nat) (base : List UInt8) (a' : Option Addr) (cap' : Nat) (d : List UInt8) (most : Int) (w : World)
    (hb : Bs w a base) (hc : base.length ≤ cap) (_hmax : cap ≤ 9223372036854775807) (hn : a = none → cap = 0)
    (hb' : Bs w a' d) (hc' : d.length ≤ cap') (hmax' : cap' ≤ 9223372036854775807) (hn' : a' = none → cap' = 0)
    (hbl : base.length ≤ 140737488355328) (hdl : d.length ≤ 140737488355328) (hmost : most ≤ 140737488355328) (hmlo : -9223372036854775808 ≤ most) :
    Calls Try.prog 9 #[.slice a base.length cap, .slice a' d.length cap', .int .i64 most] w (ApplyPost w (applyOf base d most)) := by
  have CS := Lib.hid (sizes_any a' cap' d w hb' hc' hmax' hn')
  have hbd := sizesOf_bounds d
  have hap : applyOf base d most = if (sizesOf d).2.2.2 ≠ 0 then ([], (sizesOf d).2.2.2) else if (sizesOf d).1 ≠ base.length then ([], 4) else if most < ((sizesOf d).2.1 : Int) then ([], 2) else steps base (sizesOf d).2.1 (d.length + 1) (d.drop (sizesOf d).2.2.1) [] := rfl
  generalize applyOf base d most = R at *
  generalize sizesOf d = S at *
  obtain ⟨sa, sb, st, se⟩ := S
  simp only at CS hbd hap
  obtain ⟨-, -, hst, -⟩ := hbd
  by_cases he : se = 0
  · subst he
    rw [if_neg (by simp)] at hap
    by_cases hsa : sa = base.length
    · rw [if_neg (by simpa using hsa)] at hap
      have hsa1 : ((sa : Int) != (base.length : Int)) = false := by rw [hsa]; simp
      by_cases hms : most < (sb : Int)
      · rw [if_pos hms] at hap
        have HAP := Lib.hid hap
        clear hap hsa
        go_enter Try.func9, Try.ntmps9
        go_wp2_with fail
        refine CS.out.mono ?_
        rintro e w1 ⟨rfl, hbel⟩
        go_wp2_with fail
        go_ret2
        exact applyPost_none HAP.out hbel
      · rw [if_neg hms] at hap
        have hsb : (sb : Int) ≤ most := by omega
        have hsb2 : sb ≤ 140737488355328 := by omega
        have HAP := Lib.hid hap
        clear hap hsa hms
        go_enter Try.func9, Try.ntmps9
        go_wp2_with fail
        refine CS.out.mono ?_
        rintro e w1 ⟨rfl, hbel⟩
        go_wp2_with fail
        have hbase : w.heap.size ≤ w1.heap.size := hbel.size
        have hl := hsb2
        go_loopw [10, 12] (fun tt v wr => ∃ (k f : Nat) (o : List UInt8), k ≤ d.length ∧ tt = .int .i64 k ∧ OwnB wr w.heap.size v o ∧ o.length ≤ sb ∧ (d.drop k).length < f ∧ steps base sb f (d.drop k) o = R ∧ Below w.heap.size w wr)
          (fun tt _ _ => d.length - (intOf tt).toNat)
        case atStart => exact ⟨st, d.length + 1, [], hst, rfl, OwnB.nil _ _, by simp, by simp; omega, HAP.out.symm, hbel⟩
        case round =>
          clear hbel hbase
          obtain ⟨k, f, o, hkd, rfl, how, hol, hf, hgo, hbr⟩ := hrel
          have HGO := Lib.hid hgo
          have HF := Lib.hid hf
          clear hgo hf
          obtain ⟨ao, capo, hv, hbo, hco, hcm, hno⟩ := how.bs
          subst hv
          by_cases hk : k < d.length
          · obtain ⟨f', rfl⟩ : ∃ f', f = f' + 1 := ⟨f - 1, by have := HF.out; omega⟩
            have hd1 : d.drop k = d[k] :: d.drop (k + 1) := List.drop_eq_getElem_cons hk
            have hcell := (hb'.below hbr).cell hk
            have IK := run_index_any (P := Try.prog) hb'.cells 22 Try.underlying22 sizeOf_u8 cap' (n := d.length) hk (by rw [bcells_length]; omega)
            have h8 := d[k].toNat_lt
            have hG := HGO.out
            rw [hd1, steps_cons] at hG
            have hF2 : (d.drop (k + 1)).length < f' := by have := HF.out; rw [hd1] at this; simp only [List.length_cons] at this; omega
            generalize d[k] = c at *
            have HG := Lib.hid hG
            have HF2 := Lib.hid hF2
            clear hd1 hG hF2
            by_cases hc0 : c.toNat = 0
            · have hR : R = ([], 4) := by rw [← HG.out, if_pos hc0]
              have HR := Lib.hid hR
              have ht : ((c.toNat : Int) == 0) = true := by rw [hc0]; rfl
              clear hR hc0
              go_wp2_with fail
              go_ret2
              exact applyPost_none HR.out hbr
            · have ht : ((c.toNat : Int) == 0) = false := eq0 _ hc0
              have hG := HG.out
              rw [if_neg hc0] at hG
              clear hc0
              by_cases hc128 : c.toNat < 128
              · rw [if_pos hc128] at hG
                have hc1 : (c.toNat : Int) < 128 := by omega
                by_cases hlong : (d.drop (k + 1)).length < c.toNat
                · rw [if_pos hlong] at hG
                  have HR := Lib.hid hG.symm
                  have hl2 : (d.length : Int) < (k : Int) + 1 + (c.toNat : Int) := by rw [List.length_drop] at hlong; omega
                  clear hG hlong
                  go_wp2_with fail
                  go_ret2
                  exact applyPost_none HR.out hbr
                · rw [if_neg hlong] at hG
                  have hl2 : (k : Int) + 1 + (c.toNat : Int) ≤ (d.length : Int) := by rw [List.length_drop] at hlong; omega
                  obtain ⟨a3, l3, cap3, hl3, hlen3, hb3, hc3, hcc3, hn3, hsl3⟩ := cut_mid (P := Try.prog) hb' 22 Try.underlying22 sizeOf_u8 cap' (k + 1) (k + 1 + c.toNat) hc' hn' (by omega) (by omega)
                  have e3 : k + 1 + c.toNat - (k + 1) = c.toNat := by omega
                  rw [e3] at hl3 hlen3
                  rw [← hl3, List.drop_drop] at hG
                  have HG3 := Lib.hid hG
                  have HL3 := Lib.hid hlen3
                  have c1 : ((k + 1 : Nat) : Int) = (k : Int) + 1 := by omega
                  have c2 : ((k + 1 + c.toNat : Nat) : Int) = (k : Int) + 1 + (c.toNat : Int) := by omega
                  have hsl4 : ∀ w : World, (Instr.slice 22 (.slice a' d.length cap') (some (.int .i64 ((k : Int) + 1))) (some (.int .i64 ((k : Int) + 1 + (c.toNat : Int)))) none).run Try.prog w = .ok (.slice a3 l3.length cap3) w := fun w => by have h := hsl3 w; rw [c1, c2] at h; exact h
                  clear hG hlong hl3 hlen3 e3 hsl3 c1 c2
                  by_cases hroom : sb < o.length + c.toNat
                  · have hR : R = ([], 4) := by rw [← HG3.out, if_pos hroom]
                    have HR := Lib.hid hR
                    have hr2 : (sb : Int) < (o.length : Int) + (l3.length : Int) := by rw [HL3.out]; omega
                    have hl3m : l3.length ≤ 127 := by rw [HL3.out]; omega
                    clear hroom hR
                    go_wp2_with fail
                    go_ret2
                    exact applyPost_none HR.out hbr
                  · have hR := HG3.out
                    rw [if_neg hroom] at hR
                    have HR := Lib.hid hR
                    have hr2 : (o.length : Int) + (l3.length : Int) ≤ (sb : Int) := by rw [HL3.out]; omega
                    have hl3m : l3.length ≤ 127 := by rw [HL3.out]; omega
                    clear hroom hR
                    go_upto_region 29 with (fail)
                    refine wp_region_lit ?_
                    refine wpList_move rfl rfl ?_
                    refine wpList_move rfl rfl ?_
                    refine wpList_append_bytes rfl (.tmp 105) (.tmp 106) rfl w.heap.size (.slice ao o.length capo) o rfl how a3 cap3 l3 rfl (hb3.below hbr) hn3 (by omega) hbr.size ?_
                    intro v5 w5 how5 hgr5
                    go_wp2_with fail
                    have hbr5 := hbr.grown hgr5 hbr.size (fun k hk => (how.lt k hk).1)
                    go_roundw
                    case rel => exact ⟨k + 1 + c.toNat, f', o ++ l3, by omega, by go_num, how5, by rw [List.length_append]; omega, by have := HF2.out; simp only [List.length_drop] at this ⊢; omega, HR.out, hbr5⟩
                    case measure => simp [intOf]; omega
              · rw [if_neg hc128] at hG
                have hc1 : (128 : Int) ≤ (c.toNat : Int) := by omega
                obtain ⟨a2, l2, cap2, hl2, hb2, hc2, hcc2, hn2, hsl2⟩ := cut_from (P := Try.prog) hb' 22 Try.underlying22 sizeOf_u8 cap' (k + 1) hc' hn' (by omega)
                have c1 : ((k + 1 : Nat) : Int) = (k : Int) + 1 := by omega
                have hsl4 : ∀ w : World, (Instr.slice 22 (.slice a' d.length cap') (some (.int .i64 ((k : Int) + 1))) none none).run Try.prog w = .ok (.slice a2 l2.length cap2) w := fun w => by have h := hsl2 w; rw [c1] at h; exact h
                rw [← hl2] at hG
                have htb := takenOf_bounds c.toNat l2
                have CT := Lib.hid (fun (wx : World) (hx : Below w.heap.size w wx) => taken_any c a2 cap2 l2 wx (hb2.below hx) (by omega))
                have HL2 := Lib.hid hl2
                clear hsl2 c1 hl2
                cases htk : takenOf c.toNat l2 with
                | none =>
                  rw [htk] at hG CT
                  have HR := Lib.hid hG.symm
                  clear hG htk htb hc128
                  go_wp2_with fail
                  refine (CT.out _ hbr).mono ?_
                  rintro e wx ⟨rfl, rfl⟩
                  unfold takenRet
                  go_wp2_with fail
                  go_ret2
                  exact applyPost_none HR.out hbr
                | some x =>
                  obtain ⟨p, s, n⟩ := x
                  obtain ⟨t1, t2, t3, t4, t5⟩ := htb p s n htk
                  rw [htk] at hG CT
                  simp only at hG
                  rw [HL2.out, List.length_drop] at t5
                  have HG3 := Lib.hid hG
                  clear hG htk htb hc128
                  by_cases hps : base.length < p + s
                  · have hR : R = ([], 4) := by rw [← HG3.out, if_pos hps]
                    have HR := Lib.hid hR
                    have hps2 : (base.length : Int) < (p : Int) + (s : Int) := by omega
                    clear hR hps
                    go_wp2_with fail
                    refine (CT.out _ hbr).mono ?_
                    rintro e wx ⟨rfl, rfl⟩
                    unfold takenRet
                    go_wp2_with fail
                    go_ret2
                    exact applyPost_none HR.out hbr
                  · have hG := HG3.out
                    rw [if_neg hps] at hG
                    have hps2 : (p : Int) + (s : Int) ≤ (base.length : Int) := by omega
                    obtain ⟨a3, l3, cap3, hl3, hlen3, hb3, hc3, hcc3, hn3, hsl3⟩ := cut_mid (P := Try.prog) hb 22 Try.underlying22 sizeOf_u8 cap p (p + s) hc hn (by omega) (by omega)
                    have e3 : p + s - p = s := by omega
                    rw [e3] at hl3 hlen3
                    rw [← hl3, HL2.out, List.drop_drop] at hG
                    have c2 : ((p + s : Nat) : Int) = (p : Int) + (s : Int) := by omega
                    have hsl5 : ∀ w : World, (Instr.slice 22 (.slice a base.length cap) (some (.int .i64 (p : Int))) (some (.int .i64 ((p : Int) + (s : Int)))) none).run Try.prog w = .ok (.slice a3 l3.length cap3) w := fun w => by have h := hsl3 w; rw [c2] at h; exact h
                    have HG4 := Lib.hid hG
                    have HL3 := Lib.hid hlen3
                    clear hG hps hl3 hlen3 e3 hsl3 c2
                    by_cases hroom : sb < o.length + s
                    · have hR : R = ([], 4) := by rw [← HG4.out, if_pos hroom]
                      have HR := Lib.hid hR
                      have hr2 : (sb : Int) < (o.length : Int) + (l3.length : Int) := by rw [HL3.out]; omega
                      have hl3m : l3.length ≤ 16777216 := by rw [HL3.out]; omega
                      clear hroom hR
                      go_wp2_with fail
                      refine (CT.out _ hbr).mono ?_
                      rintro e wx ⟨rfl, rfl⟩
                      unfold takenRet
                      go_wp2_with fail
                      go_ret2
                      exact applyPost_none HR.out hbr
                    · have hR := HG4.out
                      rw [if_neg hroom] at hR
                      have HR := Lib.hid hR
                      have hr2 : (o.length : Int) + (l3.length : Int) ≤ (sb : Int) := by rw [HL3.out]; omega
                      have hl3m : l3.length ≤ 16777216 := by rw [HL3.out]; omega
                      clear hroom hR
                      go_wp2_with fail
                      refine (CT.out _ hbr).mono ?_
                      rintro e wx ⟨rfl, rfl⟩
                      unfold takenRet
                      go_upto_region 29 with (fail)
                      refine wp_region_lit ?_
                      refine wpList_move rfl rfl ?_
                      refine wpList_move rfl rfl ?_
                      refine wpList_append_bytes rfl (.tmp 105) (.tmp 106) rfl w.heap.size (.slice ao o.length capo) o rfl how a3 cap3 l3 rfl (hb3.below hbr) hn3 (by omega) hbr.size ?_
                      intro v5 w5 how5 hgr5
                      go_wp2_with fail
                      have hbr5 := hbr.grown hgr5 hbr.size (fun k hk => (how.lt k hk).1)
                      go_roundw
                      case rel => exact ⟨k + 1 + n, f', o ++ l3, by omega, by go_num, how5, by rw [List.length_append]; omega, by have := HF2.out; simp only [List.length_drop] at this ⊢; omega, HR.out, hbr5⟩
                      case measure => simp [intOf]; omega
          · have hR : R = if o.length = sb then (o, 0) else ([], 4) := by
              rw [← HGO.out, List.drop_of_length_le (by omega), steps_nil _ _ _ _ (by have := HF.out; omega)]
            have HR := Lib.hid hR
            clear hR
            by_cases hob : o.length = sb
            · have hz : ((o.length : Int) != (sb : Int)) = false := by rw [hob]; simp
              have HOB := Lib.hid hob
              clear hob
              go_wp2_with fail
              go_ret2
              exact ⟨.slice ao o.length capo, by rw [HR.out, if_pos HOB.out]; rfl, by rw [HR.out, if_pos HOB.out]; exact how, hbr⟩
            · have hz : ((o.length : Int) != (sb : Int)) = true := by rw [bne_iff_ne]; omega
              have hz2 : ((o.length : Int) == (sb : Int)) = false := by rw [beq_eq_false_iff_ne]; omega
              have HOB := Lib.hid hob
              clear hob
              go_wp2_with fail
              go_ret2
              exact applyPost_none (by rw [HR.out, if_neg HOB.out]) hbr
    · rw [if_pos hsa] at hap
      have hsa1 : ((sa : Int) != (base.length : Int)) = true := by rw [bne_iff_ne]; omega
      have hsa2 : ((sa : Int) == (base.length : Int)) = false := by rw [beq_eq_false_iff_ne]; omega
      have HAP := Lib.hid hap
      clear hap hsa
      go_enter Try.func9, Try.ntmps9
      go_wp2_with fail
      refine CS.out.mono ?_
      rintro e w1 ⟨rfl, hbel⟩
      go_wp2_with fail
      go_ret2
      exact applyPost_none HAP.out hbel
  · rw [if_pos he] at hap
    have hz := neq0 se he
    have hz2 := eq0 se he
    have HAP := Lib.hid hap
    clear hap he
    go_enter Try.func9, Try.ntmps9
    go_wp2_with fail
    refine CS.out.mono ?_
    rintro e w1 ⟨rfl, hbel⟩
    go_wp2_with fail
    go_ret2
    exact applyPost_none HAP.out hbel

end Go.Proofs.Ytnppjhkhfjpkfaa
