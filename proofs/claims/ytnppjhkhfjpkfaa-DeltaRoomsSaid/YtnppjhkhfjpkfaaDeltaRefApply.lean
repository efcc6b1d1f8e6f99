/-
  The walk of the reference's Apply.
-/
import Derived.Test.YtnppjhkhfjpkfaaDeltaApply
namespace Go.Proofs.Ytnppjhkhfjpkfaa
open Go.RowKit Go.Mix

/-- The seven numbers, in a block of their own. -/
def Sev (w : World) (b : Nat) (sv : Nat → Nat) : Prop :=
  w.heap[b]? = some (.cells #[.int .i64 (sv 0 : Int), .int .i64 (sv 1 : Int), .int .i64 (sv 2 : Int), .int .i64 (sv 3 : Int), .int .i64 (sv 4 : Int), .int .i64 (sv 5 : Int), .int .i64 (sv 6 : Int)] 45 (0, 0))
def upd7 (sv : Nat → Nat) (i x j : Nat) : Nat := if j = i then x else sv j

theorem Sev.cell {w : World} {b : Nat} {sv : Nat → Nat} (h : Sev w b sv) (j : Nat) (hj : j < 7) : w.cell? ⟨b, j, none⟩ = some (.int .i64 (sv j : Int)) := by
  unfold Sev at h
  simp only [World.cell?, h]
  match j, hj with
  | 0, _ => rfl
  | 1, _ => rfl
  | 2, _ => rfl
  | 3, _ => rfl
  | 4, _ => rfl
  | 5, _ => rfl
  | 6, _ => rfl
theorem Sev.frozen {w : World} {b : Nat} {sv : Nat → Nat} (h : Sev w b sv) (j : Nat) : w.frozen? ⟨b, j, none⟩ = false := by
  unfold Sev at h; simp [World.frozen?, h]
theorem Sev.lt {w : World} {b : Nat} {sv : Nat → Nat} (h : Sev w b sv) : b < w.heap.size := lt_of_cell (h.cell 0 (by decide))
theorem Sev.set {w : World} {b : Nat} {sv : Nat → Nat} (h : Sev w b sv) (j x : Nat) (hj : j < 7) : Sev (w.setCell ⟨b, j, none⟩ (.int .i64 (x : Int))) b (upd7 sv j x) := by
  unfold Sev at h ⊢
  simp only [World.setCell, Array.getElem?_modify, h, if_true, Option.map_some]
  match j, hj with
  | 0, _ => rfl
  | 1, _ => rfl
  | 2, _ => rfl
  | 3, _ => rfl
  | 4, _ => rfl
  | 5, _ => rfl
  | 6, _ => rfl

def placeOf (sv : Nat → Nat) : Nat := sv 0 + 256 * sv 1 + 65536 * sv 2 + 16777216 * sv 3
def sizeOf7 (sv : Nat → Nat) : Nat := sv 4 + 256 * sv 5 + 65536 * sv 6

theorem place_upd (sv : Nat → Nat) (i x : Nat) (hi : i < 7) (h0 : sv i = 0) : placeOf (upd7 sv i x) = (if i < 4 then placeOf sv + x * 2 ^ (8 * i) else placeOf sv) ∧ sizeOf7 (upd7 sv i x) = (if i < 4 then sizeOf7 sv else sizeOf7 sv + x * 2 ^ (8 * (i - 4))) := by
  unfold placeOf sizeOf7 upd7
  match i, hi with
  | 0, _ => simp at h0 ⊢; omega
  | 1, _ => simp at h0 ⊢; omega
  | 2, _ => simp at h0 ⊢; omega
  | 3, _ => simp at h0 ⊢; omega
  | 4, _ => simp at h0 ⊢; omega
  | 5, _ => simp at h0 ⊢; omega
  | 6, _ => simp at h0 ⊢; omega

theorem refStep (c : Nat) (r : List UInt8) (i n : Nat) (sv : Nat → Nat) (hi : i < 7) (h : tk c r i = some (placeOf sv, sizeOf7 sv, n)) (hz : ∀ j, i ≤ j → sv j = 0) :
    (c / 2 ^ i % 2 = 0 → tk c r (i + 1) = some (placeOf sv, sizeOf7 sv, n)) ∧ (c / 2 ^ i % 2 ≠ 0 → r.length ≤ n → tk c r (i + 1) = none) ∧
    (c / 2 ^ i % 2 ≠ 0 → n < r.length → tk c r (i + 1) = some (placeOf (upd7 sv i (r.getD n 0).toNat), sizeOf7 (upd7 sv i (r.getD n 0).toNat), n + 1)) := by
  have e : tk c r (i + 1) = if c / 2 ^ i % 2 = 0 then some (placeOf sv, sizeOf7 sv, n) else if r.length ≤ n then none
      else if i < 4 then some (placeOf sv + (r.getD n 0).toNat * 2 ^ (8 * i), sizeOf7 sv, n + 1) else some (placeOf sv, sizeOf7 sv + (r.getD n 0).toNat * 2 ^ (8 * (i - 4)), n + 1) := by rw [tk, h]
  rw [e]
  refine ⟨fun h0 => by rw [if_pos h0], fun h0 h1 => by rw [if_neg h0, if_pos h1], fun h0 h1 => ?_⟩
  rw [if_neg h0, if_neg (by omega)]
  obtain ⟨e1, e2⟩ := place_upd sv i (r.getD n 0).toNat hi (hz i (Nat.le_refl _))
  rw [e1, e2]
  split <;> rfl

theorem wrapDiv (c b : Nat) (hc : c < 256) (_hb : 1 ≤ b) : (wrap64 ((c : Int) / (b : Int))).tmod 2 = ((c / b % 2 : Nat) : Int) := by
  have h1 : ((c : Int) / (b : Int)) = ((c / b : Nat) : Int) := (Int.natCast_ediv c b).symm
  have h2 : c / b ≤ c := Nat.div_le_self c b
  rw [h1]
  generalize c / b = q at *
  have h3 : wrap64 (q : Int) = (q : Int) := by unfold wrap64; omega
  rw [h3, Int.tmod_eq_emod_of_nonneg (by omega)]
  rfl

theorem OwnB.set_other {w : World} {base : Nat} {v : Value} {l : List UInt8} (h : OwnB w base v l) {a : Addr} (ha : v.ownBlock ≠ some a.block) (u : Value) : OwnB (w.setCell a u) base v l := ownsRow_setCell_other h ha u

set_option maxRecDepth 100000 in
set_option maxHeartbeats 8000000 in
theorem refApply_any (a : Option Addr) (cap : Nat) (base : List UInt8) (a' : Option Addr) (cap' : Nat) (d : List UInt8) (most : Int) (w : World)
    (hb : Bs w a base) (_hc : base.length ≤ cap) (_hn : a = none → cap = 0)
    (hb' : Bs w a' d) (hc' : d.length ≤ cap') (hmax' : cap' ≤ 9223372036854775807) (hn' : a' = none → cap' = 0)
    (hbl : base.length ≤ 140737488355328) (hdl : d.length ≤ 140737488355328) (hmost : most ≤ 140737488355328) (hmlo : -9223372036854775808 ≤ most) :
    Calls Try.prog 10 #[.slice a base.length cap, .slice a' d.length cap', .int .i64 most] w (ApplyPost w (applyOf base d most)) := by
  have CS := Lib.hid (refSizes_any a' cap' d w hb' hc' hmax' hn')
  have hbd := sizesOf_bounds d
  have hap : applyOf base d most = if (sizesOf d).2.2.2 ≠ 0 then ([], (sizesOf d).2.2.2) else if (sizesOf d).1 ≠ base.length then ([], 4) else if most < ((sizesOf d).2.1 : Int) then ([], 2) else steps base (sizesOf d).2.1 (d.length + 1) (d.drop (sizesOf d).2.2.1) [] := rfl
  generalize applyOf base d most = R at *
  generalize sizesOf d = S at *
  obtain ⟨sa, sb, st, se⟩ := S
  simp only at CS hbd hap
  obtain ⟨-, -, hst, -⟩ := hbd
  have IXB := Lib.hid (fun k (hk : k < base.length) => run_index_any (P := Try.prog) hb.cells 22 Try.underlying22 sizeOf_u8 cap (n := base.length) hk (by rw [bcells_length]; omega))
  have IXD := Lib.hid (fun k (hk : k < d.length) => run_index_any (P := Try.prog) hb'.cells 22 Try.underlying22 sizeOf_u8 cap' (n := d.length) hk (by rw [bcells_length]; omega))
  by_cases he : se = 0
  · subst he
    rw [if_neg (by simp)] at hap
    by_cases hsa : sa = base.length
    · rw [if_neg (by simpa using hsa)] at hap
      have hsa1 : ((sa : Int) != (base.length : Int)) = false := by rw [hsa]; simp
      by_cases hms : most < (sb : Int)
      · rw [if_pos hms] at hap
        have HAP := Lib.hid hap
        clear hap hsa
        go_enter Try.func10, Try.ntmps10
        go_wp2_with fail
        refine CS.out.mono ?_
        rintro e w1 ⟨rfl, rfl⟩
        go_wp2_with fail
        go_ret2
        exact applyPost_none HAP.out (Below.refl _ _)
      · rw [if_neg hms] at hap
        have hsb : (sb : Int) ≤ most := by omega
        have hsb2 : sb ≤ 140737488355328 := by omega
        have HAP := Lib.hid hap
        clear hap hsa hms
        go_enter Try.func10, Try.ntmps10
        go_wp2_with fail
        refine CS.out.mono ?_
        rintro e w1 ⟨rfl, rfl⟩
        go_wp2_with fail
        go_loopw [10, 12] (fun tt v wr => ∃ (k f : Nat) (o : List UInt8), k ≤ d.length ∧ tt = .int .i64 k ∧ OwnB wr w.heap.size v o ∧ o.length ≤ sb ∧ (d.drop k).length < f ∧ steps base sb f (d.drop k) o = R ∧ Below w.heap.size w wr)
          (fun tt _ _ => d.length - (intOf tt).toNat)
        case atStart => exact ⟨st, d.length + 1, [], hst, rfl, OwnB.nil _ _, by simp, by simp; omega, HAP.out.symm, Below.refl _ _⟩
        case round =>
          obtain ⟨k, f, o, hkd, rfl, how, hol, hf, hgo, hbr⟩ := hrel
          obtain ⟨wo, rfl⟩ : ∃ wo : World, wo = wr := ⟨_, rfl⟩
          have HGO := Lib.hid hgo
          have HF := Lib.hid hf
          clear hgo hf
          obtain ⟨ao, capo, hv, hbo, hco, hcm, hno⟩ := how.bs
          subst hv
          by_cases hk : k < d.length
          · obtain ⟨f', rfl⟩ : ∃ f', f = f' + 1 := ⟨f - 1, by have := HF.out; omega⟩
            have hd1 : d.drop k = d[k] :: d.drop (k + 1) := List.drop_eq_getElem_cons hk
            have hcell := (hb'.below hbr).cell hk
            have IK := IXD.out k hk
            have h8 := d[k].toNat_lt
            have hG := HGO.out
            rw [hd1, steps_cons] at hG
            have hF2 : (d.drop (k + 1)).length < f' := by have := HF.out; rw [hd1] at this; simp only [List.length_cons] at this; omega
            generalize d[k] = c at *
            have HG := Lib.hid hG
            have HF2 := Lib.hid hF2
            clear hd1 hG hF2
            by_cases hc0 : c.toNat = 0
            · have hR : R = ([], 4) := by rw [← HG.out, if_pos hc0]
              have HR := Lib.hid hR
              have ht : ((c.toNat : Int) == 0) = true := by rw [hc0]; rfl
              clear hR hc0
              go_wp2_with fail
              go_ret2
              exact applyPost_none HR.out hbr
            · have ht : ((c.toNat : Int) == 0) = false := eq0 _ hc0
              have hG := HG.out
              rw [if_neg hc0] at hG
              clear hc0
              by_cases hc128 : c.toNat < 128
              · rw [if_pos hc128] at hG
                have hc1 : (c.toNat : Int) < 128 := by omega
                by_cases hlong : (d.drop (k + 1)).length < c.toNat
                · rw [if_pos hlong] at hG
                  have HR := Lib.hid hG.symm
                  have hl2 : (d.length : Int) - ((k : Int) + 1) < (c.toNat : Int) := by rw [List.length_drop] at hlong; omega
                  clear hG hlong
                  go_wp2_with fail
                  go_ret2
                  exact applyPost_none HR.out hbr
                · rw [if_neg hlong] at hG
                  have hl2 : (c.toNat : Int) ≤ (d.length : Int) - ((k : Int) + 1) := by rw [List.length_drop] at hlong; omega
                  have hl3 : k + 1 + c.toNat ≤ d.length := by omega
                  have HG3 := Lib.hid hG
                  clear hG hlong
                  by_cases hroom : sb < o.length + c.toNat
                  · have hR : R = ([], 4) := by rw [← HG3.out, if_pos hroom]
                    have HR := Lib.hid hR
                    have hr2 : (sb : Int) - (o.length : Int) < (c.toNat : Int) := by omega
                    clear hroom hR
                    go_wp2_with fail
                    go_ret2
                    exact applyPost_none HR.out hbr
                  · have hR := HG3.out
                    rw [if_neg hroom, List.drop_drop] at hR
                    have HR := Lib.hid hR
                    have hr2 : (c.toNat : Int) ≤ (sb : Int) - (o.length : Int) := by omega
                    clear hroom hR
                    go_wp2_with fail
                    go_loopw [12, 14] (fun v ii wr => ∃ i : Nat, i ≤ c.toNat ∧ ii = .int .i64 i ∧ OwnB wr w.heap.size v (o ++ (d.drop (k + 1)).take i) ∧ Below w.heap.size w wr) (fun _ ii _ => c.toNat - (intOf ii).toNat)
                    case atStart => exact ⟨0, by omega, rfl, by rw [List.take_zero, List.append_nil]; exact how, hbr⟩
                    case round =>
                      clear how hbo hcell IK
                      obtain ⟨i, hic, rfl, how, hbr⟩ := hrel
                      have hlo : (o ++ (d.drop (k + 1)).take i).length = o.length + i := by rw [List.length_append, List.length_take, List.length_drop]; omega
                      by_cases hi : i < c.toNat
                      · have hx : k + 1 + i < d.length := by omega
                        have hcell := (hb'.below hbr).cell hx
                        have IK := IXD.out (k + 1 + i) hx
                        have ei : ((k + 1 + i : Nat) : Int) = (k : Int) + 1 + (i : Int) := by omega
                        rw [ei] at IK
                        have htk : (d.drop (k + 1)).take (i + 1) = (d.drop (k + 1)).take i ++ [d[k + 1 + i]] := by
                          rw [List.take_succ_eq_append_getElem (by rw [List.length_drop]; omega)]; simp
                        generalize d[k + 1 + i] = x at *
                        have HTK := Lib.hid htk
                        have HLO := Lib.hid hlo
                        clear htk hlo ei
                        have hwa : Grow wr (wr.alloc (.cells #[.int .u8 (x.toNat : Int)] 5)) := (Below.refl _ _).alloc (Nat.le_refl _) _
                        have hbs : Bs (wr.alloc (.cells #[.int .u8 (x.toNat : Int)] 5)) (some ⟨wr.heap.size, 0, none⟩) [x] := .block (heap_alloc_last _ _ _ rfl) rfl
                        have howa := how.below hwa
                        go_wp2_with (at_builtin; refine wpList_append_bytes rfl (.tmp 70) (.tmp 77) rfl w.heap.size u12 _ rfl howa (some ⟨wr.heap.size, 0, none⟩) 1 [x] rfl hbs (by simp) (by rw [HLO.out]; simp; omega) (Nat.le_trans hbr.size hwa.size) ?_; intro v5 w5 how5 hgr5)
                        have hbr5 := (hbr.trans (hwa.mono hbr.size)).grown hgr5 (Nat.le_trans hbr.size hwa.size) (fun k hk => (howa.lt k hk).1)
                        rw [List.append_assoc, ← HTK.out] at how5
                        go_roundw
                        case rel => exact ⟨i + 1, by omega, by go_num, how5, hbr5⟩
                        case measure => simp [intOf]; omega
                      · obtain rfl : i = c.toNat := by omega
                        have HLO := Lib.hid hlo
                        clear hlo
                        go_wp2_with fail
                        go_roundw
                        case rel => exact ⟨k + 1 + c.toNat, f', _, by omega, by go_num, how, by rw [HLO.out]; omega, by have := HF2.out; simp only [List.length_drop] at this ⊢; omega, HR.out, hbr⟩
                        case measure => simp [intOf]; omega
              · rw [if_neg hc128] at hG
                have hc1 : (128 : Int) ≤ (c.toNat : Int) := by omega
                have hget : ∀ n, n < (d.drop (k + 1)).length → ∃ x : UInt8, x = (d.drop (k + 1)).getD n 0 ∧ wo.cell? (elt a' (k + 1 + n)) = some (.int .u8 (x.toNat : Int)) := fun n hn => by
                  rw [List.length_drop] at hn
                  have hx : k + 1 + n < d.length := by omega
                  have e : (d.drop (k + 1)).getD n 0 = d[k + 1 + n] := by simp [List.getD_eq_getElem?_getD, hx]
                  exact ⟨d[k + 1 + n], e.symm, (hb'.below hbr).cell hx⟩
                obtain ⟨l2, hl2⟩ : ∃ l2, l2 = d.drop (k + 1) := ⟨_, rfl⟩
                have hl2n : l2.length = d.length - (k + 1) := by rw [hl2, List.length_drop]
                rw [← hl2] at hget
                rw [← hl2] at hG
                have hF2 := HF2.out
                rw [← hl2] at hF2
                have HF3 := Lib.hid hF2
                have HG3 := Lib.hid hG
                have HL2 := Lib.hid hl2
                have HL2N := Lib.hid hl2n
                have HGET := Lib.hid hget
                have hwa : Grow wo (wo.alloc (.cells #[.int .i64 0, .int .i64 0, .int .i64 0, .int .i64 0, .int .i64 0, .int .i64 0, .int .i64 0] 45)) := (Below.refl _ _).alloc (Nat.le_refl _) _
                have hsev0 : Sev (wo.alloc (.cells #[.int .i64 0, .int .i64 0, .int .i64 0, .int .i64 0, .int .i64 0, .int .i64 0, .int .i64 0] 45)) wo.heap.size (fun _ => 0) := heap_alloc_last _ _ _ rfl
                have howa := how.below hwa
                have hbra := hbr.trans (hwa.mono hbr.size)
                have hwb : ∀ g, (Value.slice ao o.length capo).ownBlock = some g → g < wo.heap.size := fun g hg => (how.lt g hg).2
                have HWB := Lib.hid hwb
                have hwbl := hbr.size
                clear hG hF2 hl2 hl2n hget hc128 hwb HG HF2 hbo how HGO HF
                go_wp2_with fail
                go_loopw [10, 16, 17] (fun tt bb ii wr => ∃ (i n at1 : Nat) (sv : Nat → Nat), i ≤ 7 ∧ ii = .int .i64 i ∧ bb = .int .i64 (2 ^ i : Nat) ∧ tt = .int .i64 (at1 : Int) ∧ at1 = k + 1 + n ∧ n ≤ l2.length ∧
                    tk c.toNat l2 i = some (placeOf sv, sizeOf7 sv, n) ∧ (∀ j, i ≤ j → sv j = 0) ∧ (∀ j, sv j < 256) ∧ Sev wr wo.heap.size sv ∧ OwnB wr w.heap.size (.slice ao o.length capo) o ∧ Below wo.heap.size wo wr)
                  (fun _ _ ii _ => 7 - (intOf ii).toNat)
                case atStart => exact ⟨0, 0, k + 1, fun _ => 0, by omega, rfl, rfl, by go_num, by omega, by omega, rfl, fun _ _ => rfl, fun _ => Nat.zero_lt_succ _, hsev0, howa, hwa⟩
                case round =>
                  clear hsev0 howa hwa hbra
                  obtain ⟨i, n, at1, sv, hi7, rfl, rfl, rfl, hat, hn, htk, hz, hs256, hsev, how, hbw⟩ := hrel
                  obtain ⟨b, hbb⟩ : ∃ b, b = 2 ^ i := ⟨_, rfl⟩
                  have hb1 : 1 ≤ b := by rw [hbb]; exact Nat.two_pow_pos i
                  have hb2 : b ≤ 128 := by rw [hbb]; exact Nat.pow_le_pow_right (n := 2) (by decide) hi7
                  have hb3 : 2 ^ (i + 1) = 2 * b := by rw [hbb, Nat.pow_succ]; omega
                  rw [← hbb]
                  have hL := HL2N.out
                  have HZ := Lib.hid hz
                  have H256 := Lib.hid hs256
                  by_cases hi : i < 7
                  · obtain ⟨r1, r2, r3⟩ := refStep c.toNat l2 i n sv hi htk hz
                    rw [← hbb] at r1 r2 r3
                    have R1 := Lib.hid r1
                    have R2 := Lib.hid r2
                    have R3 := Lib.hid r3
                    have HB3 := Lib.hid hb3
                    have hi' : (i : Int) < 7 := by omega
                    have edv : (wrap64 ((c.toNat : Int) / (b : Int))).tmod 2 = ((c.toNat / b % 2 : Nat) : Int) := wrapDiv _ _ (by omega) hb1
                    clear htk hz hs256 r1 r2 r3 hbb hb3
                    by_cases hbit : c.toNat / b % 2 = 0
                    · have ht : ((wrap64 ((c.toNat : Int) / (b : Int))).tmod 2 == 1) = false := by rw [edv, hbit]; rfl
                      have hR1 := Lib.hid (R1.out hbit)
                      clear edv hbit hL
                      go_wp2_with fail
                      go_roundw
                      case rel => exact ⟨i + 1, n, at1, sv, by omega, by go_num, by rw [HB3.out]; go_num, rfl, hat, hn, hR1.out, fun j hj => HZ.out j (by omega), H256.out, hsev, how, hbw⟩
                      case measure => simp [intOf]; omega
                    · have ht : ((wrap64 ((c.toNat : Int) / (b : Int))).tmod 2 == 1) = true := by rw [edv, show c.toNat / b % 2 = 1 from by omega]; rfl
                      by_cases hend : l2.length ≤ n
                      · have hnone : takenOf c.toNat l2 = none := by
                          have := tk_none c.toNat l2 (i + 1) (R2.out hbit hend) 7 (by omega)
                          unfold takenOf; rw [this]
                        have hR := HG3.out
                        rw [hnone] at hR
                        have HR := Lib.hid hR.symm
                        have hend2 : (d.length : Int) ≤ (at1 : Int) := by omega
                        clear edv hbit hL hR hnone hend
                        go_wp2_with fail
                        go_ret2
                        exact applyPost_none HR.out (hbr.trans (hbw.mono hwbl))
                      · have hlt : n < l2.length := by omega
                        have hlt2 : (at1 : Int) < (d.length : Int) := by omega
                        have hR3 := R3.out hbit hlt
                        obtain ⟨x, hx, hxc⟩ := HGET.out n hlt
                        rw [← hx] at hR3
                        have hxc2 : wr.cell? (elt a' at1) = some (.int .u8 (x.toNat : Int)) := by rw [hat]; exact (hbw.cell (lt_of_cell hxc)).trans hxc
                        have IK := IXD.out at1 (by omega)
                        have hsc := hsev.cell i hi
                        have hsf := hsev.frozen i
                        have hx8 := x.toNat_lt
                        have HR3 := Lib.hid hR3
                        have hnn : at1 < d.length := by omega
                        have HAT := Lib.hid hat
                        clear edv hbit hL hend hR3 hx hxc hat
                        go_wp2_with fail
                        have hob2 : (Value.slice ao o.length capo).ownBlock ≠ some wo.heap.size := fun h => absurd (HWB.out _ h) (Nat.lt_irrefl _)
                        go_roundw
                        case rel =>
                          exact ⟨i + 1, n + 1, at1 + 1, upd7 sv i x.toNat, by omega, by go_num, by rw [HB3.out]; go_num, by go_num, by have := HAT.out; omega, by omega, HR3.out,
                            fun j hj => by unfold upd7; rw [if_neg (by omega)]; exact HZ.out j (by omega),
                            fun j => by
                              unfold upd7
                              split
                              · exact hx8
                              · exact H256.out j,
                            hsev.set i _ hi, how.set_other (a := ⟨wo.heap.size, i, none⟩) hob2 _, hbw.setCell (Nat.le_refl _) _⟩
                        case measure => simp [intOf]; omega
                  · clear hb1 hb2
                    obtain rfl : i = 7 := by omega
                    have c0 := hsev.cell 0 (by decide)
                    have c1 := hsev.cell 1 (by decide)
                    have c2 := hsev.cell 2 (by decide)
                    have c3 := hsev.cell 3 (by decide)
                    have c4 := hsev.cell 4 (by decide)
                    have c5 := hsev.cell 5 (by decide)
                    have c6 := hsev.cell 6 (by decide)
                    have b0 := hs256 0
                    have b1 := hs256 1
                    have b2 := hs256 2
                    have b3 := hs256 3
                    have b4 := hs256 4
                    have b5 := hs256 5
                    have b6 := hs256 6
                    have hplace : placeOf sv = sv 0 + 256 * sv 1 + 65536 * sv 2 + 16777216 * sv 3 := rfl
                    have hsize : sizeOf7 sv = sv 4 + 256 * sv 5 + 65536 * sv 6 := rfl
                    clear hz hs256 hbb hb3
                    generalize placeOf sv = pl at *
                    generalize sizeOf7 sv = sz at *
                    generalize sv 0 = x0 at *
                    generalize sv 1 = x1 at *
                    generalize sv 2 = x2 at *
                    generalize sv 3 = x3 at *
                    generalize sv 4 = x4 at *
                    generalize sv 5 = x5 at *
                    generalize sv 6 = x6 at *
                    have HAT := Lib.hid hat
                    have hbrw : Below w.heap.size w wr := hbr.trans (hbw.mono hwbl)
                    have hplI : ((x0 : Int) + 256 * (x1 : Int) + 65536 * (x2 : Int) + 16777216 * (x3 : Int)) = (pl : Int) := by omega
                    have hpln : pl < 4294967296 := by omega
                    by_cases hsz0 : sz = 0
                    · obtain ⟨ss, hss⟩ : ∃ ss : Nat, ss = 65536 := ⟨_, rfl⟩
                      have htz : (((x4 : Int) + 256 * (x5 : Int) + 65536 * (x6 : Int)) == 0) = true := by rw [beq_iff_eq]; omega
                      have htak : takenOf c.toNat l2 = some (pl, ss, n) := by unfold takenOf; rw [htk]; simp [hsz0, hss]
                      have hR := HG3.out
                      rw [htak] at hR
                      have hR2 : (if base.length < pl + ss then ([], 4) else if sb < o.length + ss then ([], 4) else steps base sb f' (l2.drop n) (o ++ (base.drop pl).take ss)) = R := hR
                      clear hR htk htak hL hat
                      by_cases hbad : base.length < pl + ss
                      · rw [if_pos hbad] at hR2
                        have HR := Lib.hid hR2.symm
                        clear hR2
                        by_cases hbad1 : base.length < pl
                        · have t1 : (base.length : Int) < ((x0 : Int) + 256 * (x1 : Int) + 65536 * (x2 : Int) + 16777216 * (x3 : Int)) := by omega
                          clear hplace hsize hplI hbad hbad1
                          go_wp2_with fail
                          go_ret2
                          exact applyPost_none HR.out hbrw
                        · have t1 : ((x0 : Int) + 256 * (x1 : Int) + 65536 * (x2 : Int) + 16777216 * (x3 : Int)) ≤ (base.length : Int) := by omega
                          have t2 : (base.length : Int) - ((x0 : Int) + 256 * (x1 : Int) + 65536 * (x2 : Int) + 16777216 * (x3 : Int)) < (65536 : Int) := by omega
                          clear hplace hsize hplI hbad hbad1
                          go_wp2_with fail
                          go_ret2
                          exact applyPost_none HR.out hbrw
                      · rw [if_neg hbad] at hR2
                        have t1 : ((x0 : Int) + 256 * (x1 : Int) + 65536 * (x2 : Int) + 16777216 * (x3 : Int)) ≤ (base.length : Int) := by omega
                        have t2 : (65536 : Int) ≤ (base.length : Int) - ((x0 : Int) + 256 * (x1 : Int) + 65536 * (x2 : Int) + 16777216 * (x3 : Int)) := by omega
                        by_cases hroom : sb < o.length + ss
                        · rw [if_pos hroom] at hR2
                          have HR := Lib.hid hR2.symm
                          have t3 : (sb : Int) - (o.length : Int) < (65536 : Int) := by omega
                          clear hR2 hplace hsize hplI hbad hroom
                          go_wp2_with fail
                          go_ret2
                          exact applyPost_none HR.out hbrw
                        · rw [if_neg hroom] at hR2
                          have HR := Lib.hid hR2
                          have t3 : (65536 : Int) ≤ (sb : Int) - (o.length : Int) := by omega
                          have HPLI := Lib.hid hplI
                          have hszI : (65536 : Int) = (ss : Int) := by omega
                          have HSZI := Lib.hid hszI
                          have D1 := Lib.hid (show decide ((base.length : Int) < (pl : Int)) = false by rw [decide_eq_false_iff_not]; omega)
                          have D2 := Lib.hid (show decide ((base.length : Int) - (pl : Int) < (ss : Int)) = false by rw [decide_eq_false_iff_not]; omega)
                          have D3 := Lib.hid (show decide ((sb : Int) - (o.length : Int) < (ss : Int)) = false by rw [decide_eq_false_iff_not]; omega)
                          clear hR2 hplace hsize hplI hszI hss
                          go_wp2_with fail
                          rw [HPLI.out]
                          rw [HSZI.out]
                          rw [D1.out, D2.out, D3.out, show (false || false) = false from rfl, show (false || false) = false from rfl]
                          clear D1 D2 D3
                          clear c0 c1 c2 c3 c4 c5 c6 b0 b1 b2 b3 b4 b5 b6 t1 t2 t3 htz
                          go_loopw [12, 20] (fun v ii wr => ∃ i : Nat, i ≤ ss ∧ ii = .int .i64 i ∧ OwnB wr w.heap.size v (o ++ (base.drop pl).take i) ∧ Below w.heap.size w wr) (fun _ ii _ => ss - (intOf ii).toNat)
                          case atStart => exact ⟨0, by omega, rfl, by rw [List.take_zero, List.append_nil]; exact how, hbrw⟩
                          case round =>
                            clear how hbrw hsev hbr hbw
                            obtain ⟨i, hic, rfl, how, hbr⟩ := hrel
                            have hlo : (o ++ (base.drop pl).take i).length = o.length + i := by rw [List.length_append, List.length_take, List.length_drop]; omega
                            by_cases hi : i < ss
                            · have hx : pl + i < base.length := by omega
                              have hcell := (hb.below hbr).cell hx
                              have IK := IXB.out (pl + i) hx
                              have ei : ((pl + i : Nat) : Int) = (pl : Int) + (i : Int) := by omega
                              rw [ei] at IK
                              have htk : (base.drop pl).take (i + 1) = (base.drop pl).take i ++ [base[pl + i]] := by
                                rw [List.take_succ_eq_append_getElem (by rw [List.length_drop]; omega)]; simp
                              generalize base[pl + i] = x at *
                              have HTK := Lib.hid htk
                              have HLO := Lib.hid hlo
                              clear htk hlo ei
                              have hwa : Grow wr (wr.alloc (.cells #[.int .u8 (x.toNat : Int)] 5)) := (Below.refl _ _).alloc (Nat.le_refl _) _
                              have hbs : Bs (wr.alloc (.cells #[.int .u8 (x.toNat : Int)] 5)) (some ⟨wr.heap.size, 0, none⟩) [x] := .block (heap_alloc_last _ _ _ rfl) rfl
                              have howa := how.below hwa
                              go_wp2_with (at_builtin; refine wpList_append_bytes rfl (.tmp 157) (.tmp 164) rfl w.heap.size u12 _ rfl howa (some ⟨wr.heap.size, 0, none⟩) 1 [x] rfl hbs (by simp) (by rw [HLO.out]; simp; omega) (Nat.le_trans hbr.size hwa.size) ?_; intro v5 w5 how5 hgr5)
                              have hbr5 := (hbr.trans (hwa.mono hbr.size)).grown hgr5 (Nat.le_trans hbr.size hwa.size) (fun k hk => (howa.lt k hk).1)
                              rw [List.append_assoc, ← HTK.out] at how5
                              go_roundw
                              case rel => exact ⟨i + 1, by omega, by go_num, how5, hbr5⟩
                              case measure => simp [intOf]; omega
                            · obtain rfl : i = ss := by omega
                              have HLO := Lib.hid hlo
                              clear hlo
                              go_wp2_with fail
                              have hR5 := HR.out
                              rw [HL2.out, List.drop_drop, ← HAT.out] at hR5
                              go_roundw
                              case rel => exact ⟨at1, f', _, by have := HAT.out; have := HL2N.out; omega, by first | rfl | (rw [HAT.out]; go_num), how, by rw [HLO.out]; omega, by have h1 := HF3.out; have := HAT.out; rw [HL2.out] at h1; simp only [List.length_drop] at h1 ⊢; omega, hR5, hbr⟩
                              case measure => have := HAT.out; simp [intOf]; omega
                    · have htz : (((x4 : Int) + 256 * (x5 : Int) + 65536 * (x6 : Int)) == 0) = false := by rw [beq_eq_false_iff_ne]; omega
                      have htak : takenOf c.toNat l2 = some (pl, sz, n) := by unfold takenOf; rw [htk]; simp [hsz0]
                      have hszI : ((x4 : Int) + 256 * (x5 : Int) + 65536 * (x6 : Int)) = (sz : Int) := by omega
                      have hR := HG3.out
                      rw [htak] at hR
                      have hR2 : (if base.length < pl + sz then ([], 4) else if sb < o.length + sz then ([], 4) else steps base sb f' (l2.drop n) (o ++ (base.drop pl).take sz)) = R := hR
                      clear hR htk htak hL hat
                      by_cases hbad : base.length < pl + sz
                      · rw [if_pos hbad] at hR2
                        have HR := Lib.hid hR2.symm
                        clear hR2
                        by_cases hbad1 : base.length < pl
                        · have t1 : (base.length : Int) < ((x0 : Int) + 256 * (x1 : Int) + 65536 * (x2 : Int) + 16777216 * (x3 : Int)) := by omega
                          clear hplace hsize hplI hbad hbad1 hszI
                          go_wp2_with fail
                          go_ret2
                          exact applyPost_none HR.out hbrw
                        · have t1 : ((x0 : Int) + 256 * (x1 : Int) + 65536 * (x2 : Int) + 16777216 * (x3 : Int)) ≤ (base.length : Int) := by omega
                          have t2 : (base.length : Int) - ((x0 : Int) + 256 * (x1 : Int) + 65536 * (x2 : Int) + 16777216 * (x3 : Int)) < ((x4 : Int) + 256 * (x5 : Int) + 65536 * (x6 : Int)) := by omega
                          clear hplace hsize hplI hbad hbad1 hszI
                          go_wp2_with fail
                          go_ret2
                          exact applyPost_none HR.out hbrw
                      · rw [if_neg hbad] at hR2
                        have t1 : ((x0 : Int) + 256 * (x1 : Int) + 65536 * (x2 : Int) + 16777216 * (x3 : Int)) ≤ (base.length : Int) := by omega
                        have t2 : ((x4 : Int) + 256 * (x5 : Int) + 65536 * (x6 : Int)) ≤ (base.length : Int) - ((x0 : Int) + 256 * (x1 : Int) + 65536 * (x2 : Int) + 16777216 * (x3 : Int)) := by omega
                        by_cases hroom : sb < o.length + sz
                        · rw [if_pos hroom] at hR2
                          have HR := Lib.hid hR2.symm
                          have t3 : (sb : Int) - (o.length : Int) < ((x4 : Int) + 256 * (x5 : Int) + 65536 * (x6 : Int)) := by omega
                          clear hR2 hplace hsize hplI hbad hroom hszI
                          go_wp2_with fail
                          go_ret2
                          exact applyPost_none HR.out hbrw
                        · rw [if_neg hroom] at hR2
                          have HR := Lib.hid hR2
                          have t3 : ((x4 : Int) + 256 * (x5 : Int) + 65536 * (x6 : Int)) ≤ (sb : Int) - (o.length : Int) := by omega
                          have HPLI := Lib.hid hplI
                          have HSZI := Lib.hid hszI
                          have D1 := Lib.hid (show decide ((base.length : Int) < (pl : Int)) = false by rw [decide_eq_false_iff_not]; omega)
                          have D2 := Lib.hid (show decide ((base.length : Int) - (pl : Int) < (sz : Int)) = false by rw [decide_eq_false_iff_not]; omega)
                          have D3 := Lib.hid (show decide ((sb : Int) - (o.length : Int) < (sz : Int)) = false by rw [decide_eq_false_iff_not]; omega)
                          clear hR2 hplace hsize hplI hszI
                          go_wp2_with fail
                          rw [HPLI.out]
                          rw [HSZI.out]
                          rw [D1.out, D2.out, D3.out, show (false || false) = false from rfl, show (false || false) = false from rfl]
                          clear D1 D2 D3
                          clear c0 c1 c2 c3 c4 c5 c6 b0 b1 b2 b3 b4 b5 b6 t1 t2 t3 htz
                          go_loopw [12, 20] (fun v ii wr => ∃ i : Nat, i ≤ sz ∧ ii = .int .i64 i ∧ OwnB wr w.heap.size v (o ++ (base.drop pl).take i) ∧ Below w.heap.size w wr) (fun _ ii _ => sz - (intOf ii).toNat)
                          case atStart => exact ⟨0, by omega, rfl, by rw [List.take_zero, List.append_nil]; exact how, hbrw⟩
                          case round =>
                            clear how hbrw hsev hbr hbw
                            obtain ⟨i, hic, rfl, how, hbr⟩ := hrel
                            have hlo : (o ++ (base.drop pl).take i).length = o.length + i := by rw [List.length_append, List.length_take, List.length_drop]; omega
                            by_cases hi : i < sz
                            · have hx : pl + i < base.length := by omega
                              have hcell := (hb.below hbr).cell hx
                              have IK := IXB.out (pl + i) hx
                              have ei : ((pl + i : Nat) : Int) = (pl : Int) + (i : Int) := by omega
                              rw [ei] at IK
                              have htk : (base.drop pl).take (i + 1) = (base.drop pl).take i ++ [base[pl + i]] := by
                                rw [List.take_succ_eq_append_getElem (by rw [List.length_drop]; omega)]; simp
                              generalize base[pl + i] = x at *
                              have HTK := Lib.hid htk
                              have HLO := Lib.hid hlo
                              clear htk hlo ei
                              have hwa : Grow wr (wr.alloc (.cells #[.int .u8 (x.toNat : Int)] 5)) := (Below.refl _ _).alloc (Nat.le_refl _) _
                              have hbs : Bs (wr.alloc (.cells #[.int .u8 (x.toNat : Int)] 5)) (some ⟨wr.heap.size, 0, none⟩) [x] := .block (heap_alloc_last _ _ _ rfl) rfl
                              have howa := how.below hwa
                              go_wp2_with (at_builtin; refine wpList_append_bytes rfl (.tmp 157) (.tmp 164) rfl w.heap.size u12 _ rfl howa (some ⟨wr.heap.size, 0, none⟩) 1 [x] rfl hbs (by simp) (by rw [HLO.out]; simp; omega) (Nat.le_trans hbr.size hwa.size) ?_; intro v5 w5 how5 hgr5)
                              have hbr5 := (hbr.trans (hwa.mono hbr.size)).grown hgr5 (Nat.le_trans hbr.size hwa.size) (fun k hk => (howa.lt k hk).1)
                              rw [List.append_assoc, ← HTK.out] at how5
                              go_roundw
                              case rel => exact ⟨i + 1, by omega, by go_num, how5, hbr5⟩
                              case measure => simp [intOf]; omega
                            · obtain rfl : i = sz := by omega
                              have HLO := Lib.hid hlo
                              clear hlo
                              go_wp2_with fail
                              have hR5 := HR.out
                              rw [HL2.out, List.drop_drop, ← HAT.out] at hR5
                              go_roundw
                              case rel => exact ⟨at1, f', _, by have := HAT.out; have := HL2N.out; omega, by first | rfl | (rw [HAT.out]; go_num), how, by rw [HLO.out]; omega, by have h1 := HF3.out; have := HAT.out; rw [HL2.out] at h1; simp only [List.length_drop] at h1 ⊢; omega, hR5, hbr⟩
                              case measure => have := HAT.out; simp [intOf]; omega
          · have hR : R = if o.length = sb then (o, 0) else ([], 4) := by
              rw [← HGO.out, List.drop_of_length_le (by omega), steps_nil _ _ _ _ (by have := HF.out; omega)]
            have HR := Lib.hid hR
            clear hR
            by_cases hob : o.length = sb
            · have hz : ((o.length : Int) != (sb : Int)) = false := by rw [hob]; simp
              have HOB := Lib.hid hob
              clear hob
              go_wp2_with fail
              go_ret2
              exact ⟨.slice ao o.length capo, by rw [HR.out, if_pos HOB.out]; rfl, by rw [HR.out, if_pos HOB.out]; exact how, hbr⟩
            · have hz : ((o.length : Int) != (sb : Int)) = true := by rw [bne_iff_ne]; omega
              have hz2 : ((o.length : Int) == (sb : Int)) = false := by rw [beq_eq_false_iff_ne]; omega
              have HOB := Lib.hid hob
              clear hob
              go_wp2_with fail
              go_ret2
              exact applyPost_none (by rw [HR.out, if_neg HOB.out]) hbr
    · rw [if_pos hsa] at hap
      have hsa1 : ((sa : Int) != (base.length : Int)) = true := by rw [bne_iff_ne]; omega
      have hsa2 : ((sa : Int) == (base.length : Int)) = false := by rw [beq_eq_false_iff_ne]; omega
      have HAP := Lib.hid hap
      clear hap hsa
      go_enter Try.func10, Try.ntmps10
      go_wp2_with fail
      refine CS.out.mono ?_
      rintro e w1 ⟨rfl, rfl⟩
      go_wp2_with fail
      go_ret2
      exact applyPost_none HAP.out (Below.refl _ _)
  · rw [if_pos he] at hap
    have hz := neq0 se he
    have hz2 := eq0 se he
    have HAP := Lib.hid hap
    clear hap he
    go_enter Try.func10, Try.ntmps10
    go_wp2_with fail
    refine CS.out.mono ?_
    rintro e w1 ⟨rfl, rfl⟩
    go_wp2_with fail
    go_ret2
    exact applyPost_none HAP.out (Below.refl _ _)

end Go.Proofs.Ytnppjhkhfjpkfaa
