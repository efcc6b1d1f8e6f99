/-
  The walk of zlib.Open.
-/
import Derived.Test.YtaapnjhkflpiiaaZlib2
import Derived.Test.YtaapnjhkflpiiaaArrEq
import Derived.Laws.BitsAllLaws
namespace Go.Proofs.Ytaapnjhkflpiiaa
open Go.RowKit Go.Mix

def OpenEnds (d : List UInt8) (most : Int) (w : World) (e : Ending) (w' : World) : Prop :=
  ∃ a2 c2, e = .returned (.tuple #[.slice a2 (openOf d most).1.length c2, .int .i64 ((openOf d most).2.1 : Nat), .int .i64 ((openOf d most).2.2 : Nat)]) ∧ Sl w' a2 c2 (openOf d most).1 ∧ Below w.heap.size w w'

theorem OpenEnds.err {d : List UInt8} {most : Int} {w w' : World} {n : Nat} {e : Ending} (h : openOf d most = ([], 0, n)) (he : e = .returned (.tuple #[.slice none 0 0, .int .i64 0, .int .i64 (n : Int)])) (g : Below w.heap.size w w') : OpenEnds d most w e w' := by
  unfold OpenEnds
  rw [h]
  exact ⟨none, 0, he, ⟨.inl rfl, Nat.le_refl _, by decide, fun _ => rfl⟩, g⟩

theorem head_15 (x : Nat) (hx : x < 256) : bits .and .u8 (x : Int) 15 = ((x % 16 : Nat) : Int) := by
  rw [show (15 : Int) = ((15 : Nat) : Int) from rfl, u8_and_nat x 15 hx (by decide)]
  congr 1
  exact Nat.and_two_pow_sub_one_eq_mod x 4
theorem head_32 (y : Nat) (hy : y < 256) : bits .and .u8 (y : Int) 32 = ((y / 32 % 2 * 32 : Nat) : Int) := by
  rw [show (32 : Int) = ((32 : Nat) : Int) from rfl, u8_and_nat y 32 hy (by decide)]
  have : ∀ y, y < 256 → y &&& 32 = y / 32 % 2 * 32 := by decide +kernel
  rw [this y hy]

theorem head_or (x y : Nat) (hx : x < 256) (hy : y < 256) : bits .or .i64 ((x : Int) * 256) (y : Int) = ((256 * x + y : Nat) : Int) := by
  have e : (x : Int) * 256 = ((x * 256 : Nat) : Int) := by omega
  have h3 : x * 256 ||| y = 256 * x + y := by
    rw [show x * 256 = x <<< 8 by rw [Nat.shiftLeft_eq], ← Nat.shiftLeft_add_eq_or_of_lt (i := 8) (b := y) (by omega), Nat.shiftLeft_eq, Nat.mul_comm]
  rw [e, (i64_bits_nat (x * 256) y (by omega) (by omega)).2.1, h3]

theorem arr4 : Go.WideMaps.ArrKey Try.prog 44 5 4 := ⟨Try.underlying44, by kernel_rfl, by kernel_rfl, by kernel_rfl⟩

/-- Four bytes ahead, as an array. -/
theorem four_at {w : World} {a : Option Addr} {cap : Nat} {b : List UInt8} (hs : Sl w a cap b) (h4 : 4 ≤ b.length) :
    ∃ (bb off : Nat) (x y z u : UInt8), b.take 4 = [x, y, z, u] ∧
      (∀ w : World, (Instr.arrayAt 44 (.slice a b.length cap)).run Try.prog w = .ok (.pointer (some ⟨bb, off, none⟩)) w) ∧
      w.cell? ⟨bb, off, none⟩ = some (.int .u8 (x.toNat : Int)) ∧ w.cell? ⟨bb, off + 1, none⟩ = some (.int .u8 (y.toNat : Int)) ∧ w.cell? ⟨bb, off + 2, none⟩ = some (.int .u8 (z.toNat : Int)) ∧ w.cell? ⟨bb, off + 3, none⟩ = some (.int .u8 (u.toNat : Int)) := by
  obtain ⟨bb, off, rfl, hc⟩ : ∃ bb off, a = some ⟨bb, off, none⟩ ∧ ∀ j (h : j < b.length), w.cell? ⟨bb, off + j, none⟩ = some (.int .u8 (b[j].toNat : Int)) := by
    rcases hs.bs with rfl | h
    · simp at h4
    · exact h
  refine ⟨bb, off, b[0], b[1], b[2], b[3], ?_, fun w => run_arrayAt w _ 5 4 _ _ _ Try.underlying44 (by omega), hc 0 (by omega), hc 1 (by omega), hc 2 (by omega), hc 3 (by omega)⟩
  match b, h4 with
  | b0 :: b1 :: b2 :: b3 :: _, _ => rfl

set_option maxRecDepth 100000 in
set_option maxHeartbeats 2000000 in
theorem open_any {w : World} {a : Option Addr} {cap : Nat} {d : List UInt8} (most : Int) (hs : Sl w a cap d) (hl : d.length ≤ 1000000) (hroom : most ≤ 1000000) :
    Calls Try.prog 28 #[.slice a d.length cap, .int .i64 most] w (OpenEnds d most w) := by
  have hE0 : openOf d most = if d.length < 2 then ([], 0, 3) else if headBad (d.getD 0 0).toNat (d.getD 1 0).toNat = true then ([], 0, 4) else if (rawOf (d.drop 2) most).2.2 ≠ 0 then ([], 0, (rawOf (d.drop 2) most).2.2)
      else if (d.drop (2 + (rawOf (d.drop 2) most).2.1)).length < 4 then ([], 0, 3) else if (d.drop (2 + (rawOf (d.drop 2) most).2.1)).take 4 ≠ tailOf (rawOf (d.drop 2) most).1 then ([], 0, 5)
      else ((rawOf (d.drop 2) most).1, (rawOf (d.drop 2) most).2.1 + 6, 0) := rfl
  by_cases h2 : d.length < 2
  · have t1 : decide (d.length < 2) = true := decide_eq_true h2
    have t2 : decide ((d.length : Int) < 2) = true := decide_eq_true (by omega)
    rw [if_pos h2] at hE0
    have HE := Lib.hid hE0
    clear hE0
    go_enter Try.func28, Try.ntmps28
    go_wp2_with fail
    go_ret3
    exact OpenEnds.err HE.out rfl (Below.refl _ _)
  · have t1 : decide (d.length < 2) = false := decide_eq_false h2
    have t2 : decide ((d.length : Int) < 2) = false := decide_eq_false (by omega)
    rw [if_neg h2] at hE0
    have hx := (d.getD 0 0).toNat_lt
    have hy := (d.getD 1 0).toNat_lt
    obtain ⟨IK0, IC0⟩ := hs.at 0 0 rfl (by omega)
    obtain ⟨IK1, IC1⟩ := hs.at 1 1 rfl (by omega)
    have ex : d[0]'(by omega) = d.getD 0 0 := by rw [List.getD_eq_getElem?_getD, List.getElem?_eq_getElem]; rfl
    have ey : d[1]'(by omega) = d.getD 1 0 := by rw [List.getD_eq_getElem?_getD, List.getElem?_eq_getElem]; rfl
    rw [ex] at IC0
    rw [ey] at IC1
    clear ex ey
    generalize (d.getD 0 0).toNat = x at *
    generalize (d.getD 1 0).toNat = y at *
    have a15 := head_15 x (by omega)
    have a32 := head_32 y (by omega)
    obtain ⟨r, hr⟩ : ∃ r, r = x % 16 := ⟨_, rfl⟩
    obtain ⟨s, hs32⟩ : ∃ s, s = y / 32 % 2 * 32 := ⟨_, rfl⟩
    rw [← hr] at a15
    rw [← hs32] at a32
    have HR := Lib.hid (And.intro hr hs32)
    clear hr hs32
    obtain ⟨B, hB⟩ : ∃ B, B = headBad x y := ⟨_, rfl⟩
    rw [← hB] at hE0
    have HB := Lib.hid hB
    have HE := Lib.hid hE0
    clear hB hE0
    go_enter Try.func28, Try.ntmps28
    go_upto_region 3 with (fail)
    go_cut [46] from 14 to 75 (fun t wx => t = .bool B ∧ Below w.heap.size w wx)
    case first =>
      by_cases c1 : x % 16 = 8
      · have u1 : ((r : Int) != 8) = false := by rw [bne_eq_false_iff_eq, HR.out.1]; omega
        by_cases c2 : 7 < x / 16
        · have u2 : decide (7 < (x : Int) / 16) = true := decide_eq_true (by omega)
          have HBB := Lib.hid (show B = true by rw [HB.out]; unfold headBad; simp [c2])
          clear c1 c2
          go_quiet (fail)
          go_wp2_with fail
          go_meet
          exact ⟨by rw [HBB.out], below_drewN (Below.refl _ _) _⟩
        · have u2 : decide (7 < (x : Int) / 16) = false := decide_eq_false (by omega)
          by_cases c3 : y / 32 % 2 = 1
          · have u3 : ((s : Int) != 0) = true := by rw [bne_iff_ne, HR.out.2]; omega
            have HBB := Lib.hid (show B = true by rw [HB.out]; unfold headBad; simp [c3])
            clear c1 c2 c3
            go_quiet (fail)
            go_wp2_with fail
            go_meet
            exact ⟨by rw [HBB.out], below_drewN (Below.refl _ _) _⟩
          · have u3 : ((s : Int) != 0) = false := by rw [bne_eq_false_iff_eq, HR.out.2]; omega
            have HBB := Lib.hid (show B = decide ((256 * x + y) % 31 ≠ 0) by rw [HB.out]; unfold headBad; simp [c1, c2, c3])
            clear c1 c2 c3
            have u4 : ((bits .or .i64 ((x : Int) * 256) (y : Int)).tmod 31 != 0) = B := by
              rw [head_or x y (by omega) (by omega), Int.tmod_eq_emod_of_nonneg (by omega), HBB.out, Bool.eq_iff_iff, bne_iff_ne, decide_eq_true_eq]
              omega
            go_quiet (fail)
            go_wp2_with fail
            go_meet
            exact ⟨rfl, below_drewN (Below.refl _ _) _⟩
      · have u1 : ((r : Int) != 8) = true := by rw [bne_iff_ne, HR.out.1]; omega
        have HBB := Lib.hid (show B = true by rw [HB.out]; unfold headBad; simp [c1])
        clear c1
        go_quiet (fail)
        go_wp2_with fail
        go_meet
        exact ⟨by rw [HBB.out], below_drewN (Below.refl _ _) _⟩
    case rest =>
      obtain ⟨rfl, g0⟩ := hcut
      cases hBB : B with
      | true =>
        have hE := HE.out
        rw [if_pos hBB] at hE
        have HE2 := Lib.hid hE
        clear hE HE IK0 IC0 IK1 IC1
        subst hBB
        go_wp2_with fail
        go_ret3
        exact OpenEnds.err HE2.out rfl g0
      | false =>
        have hE := HE.out
        rw [if_neg (by rw [hBB]; decide)] at hE
        obtain ⟨a2, l2, cap2, hl2, hs2, hsl2⟩ := hs.from 2 2 rfl (by omega)
        rw [← hl2] at hE
        have hll : l2.length + 2 = d.length := by rw [hl2, List.length_drop]; omega
        obtain ⟨x2, n2, e2, hR⟩ : ∃ x2 n2 e2, rawOf l2 most = (x2, n2, e2) := ⟨_, _, _, rfl⟩
        have hn2 : n2 ≤ l2.length := by
          rcases rawOf_cases l2 most with ⟨q, y, h1, h2, h3, h4⟩ | ⟨e, h1, h2, h3, h4⟩
          · rw [hR] at h2; simp only [Prod.mk.injEq] at h2; omega
          · rw [hR] at h2; simp only [Prod.mk.injEq] at h2; omega
        have hx2 : x2.length ≤ 1000000 := by
          have := rawOf_len l2 most
          rw [hR] at this
          simp only at this
          omega
        rw [hR] at hE
        simp only at hE
        have HE2 := Lib.hid hE
        have HRW := Lib.hid hR
        have hs20 := hs2.below g0
        have hs0 := hs.below g0
        have hl2s : l2.length ≤ 1000000 := by omega
        have HLL := Lib.hid hll
        clear hE HE hR IK0 IC0 IK1 IC1 hs2 hs hl2 hll
        subst hBB
        go_wp2_with fail
        have hll := HLL.out
        refine (raw_sl HRW.out hs20 (by omega) hroom).mono ?_
        rintro e w1 ⟨a3, c3, rfl, h3, g1⟩
        have hs1 := hs0.below g1
        have G1 := g0.trans (g1.mono g0.size)
        clear hs0 hs20 hsl2
        by_cases he : e2 = 0
        · have u1 : ((e2 : Int) != 0) = false := by rw [bne_eq_false_iff_eq]; omega
          have hE := HE2.out
          rw [if_neg (by omega)] at hE
          obtain ⟨a4, l4, cap4, hl4, hs4, hsl4⟩ := hs1.from (2 + (n2 : Int)) (2 + n2) (by omega) (by omega)
          rw [← hl4] at hE
          clear he hl4 hll
          by_cases h4 : l4.length < 4
          · have u2 : decide (l4.length < 4) = true := decide_eq_true h4
            have u3 : decide ((l4.length : Int) < 4) = true := decide_eq_true (by omega)
            rw [if_pos h4] at hE
            have HE3 := Lib.hid hE
            clear hE HE2
            go_wp2_with fail
            go_ret3
            exact OpenEnds.err HE3.out rfl G1
          · have u2 : decide (l4.length < 4) = false := decide_eq_false h4
            have u3 : decide ((l4.length : Int) < 4) = false := decide_eq_false (by omega)
            rw [if_neg h4] at hE
            have HE3 := Lib.hid hE
            obtain ⟨bb, off, b0, b1, b2, b3, ht, har, k0, k1, k2, k3⟩ := four_at hs4 (by omega)
            have HT := Lib.hid ht
            have hz := adler_lt 1 x2 (by decide)
            have CA := Lib.hid (fun W (h : Sl W a3 c3 x2) => zadler_any h hx2)
            clear hE HE2 ht
            have HTT := Lib.hid (show tailOf x2 = fourOf (adler 1 x2) from rfl)
            generalize adler 1 x2 = nn at *
            go_upto_region 11 with (fail)
            have q0 : ∀ x : Later w1, x.1.cell? ⟨bb, off, none⟩ = some (.int .u8 (b0.toNat : Int)) := fun x => (x.2.cell (p := ⟨bb, off, none⟩) (lt_of_cell k0)).trans k0
            have q1 : ∀ x : Later w1, x.1.cell? ⟨bb, off + 1, none⟩ = some (.int .u8 (b1.toNat : Int)) := fun x => (x.2.cell (p := ⟨bb, off + 1, none⟩) (lt_of_cell k1)).trans k1
            have q2 : ∀ x : Later w1, x.1.cell? ⟨bb, off + 2, none⟩ = some (.int .u8 (b2.toNat : Int)) := fun x => (x.2.cell (p := ⟨bb, off + 2, none⟩) (lt_of_cell k2)).trans k2
            have q3 : ∀ x : Later w1, x.1.cell? ⟨bb, off + 3, none⟩ = some (.int .u8 (b3.toNat : Int)) := fun x => (x.2.cell (p := ⟨bb, off + 3, none⟩) (lt_of_cell k3)).trans k3
            clear k0 k1 k2 k3
            refine wp_region_mix [(0, 0), (3, 0), (4, 0), (5, 0), (1, 1), (2, 1), (6, 0)] (by kernel_rfl) (by kernel_rfl) ?_
            iterate 4 (refine mix_calm rfl (fun K hK => ?_); go_simp; (refine hK _ ?_; clear hK K))
            clear q0 q1 q2 q3
            refine mix_loud rfl rfl (fun w5 hw5 K hK => ?_)
            go_wp2_with fail
            refine Calls.mono (CA.out _ (h3.below hw5)) ?_
            rintro e w' ⟨rfl, rfl⟩
            go_wp2_with fail
            refine hK _ _ (Grow.refl _) ?_
            clear hK K
            refine mix_loud rfl rfl (fun w6 hw6 K hK => ?_)
            go_wp2_with fail
            refine (four_any nn _ rfl hz _).mono ?_
            rintro e w7 ⟨rfl, g7⟩
            go_wp2_with fail
            refine hK _ _ g7 ?_
            clear hK K
            have hg7 : Grow w1 w7 := (hw5.trans hw6).trans g7
            have hq := fun W : World => eql_arr arr4 Try.underlying5 (fourOf nn) [b0, b1, b2, b3] rfl rfl (fourC nn) #[.int .u8 (b0.toNat : Int), .int .u8 (b1.toNat : Int), .int .u8 (b2.toNat : Int), .int .u8 (b3.toNat : Int)] (fourC_cells nn hz) rfl W
            obtain ⟨D, hD⟩ : ∃ D, D = decide (fourOf nn = [b0, b1, b2, b3]) := ⟨_, rfl⟩
            rw [← hD] at hq
            have HD := Lib.hid hD
            clear hD
            refine mix_calm rfl (fun K hK => ?_); go_simp; (refine hK _ ?_; clear hK K)
            refine mix_nil fun w8 hw8 => ?_
            have h38 := h3.below (hg7.trans hw8)
            have G8 : Below w.heap.size w w8 := G1.trans ((hg7.trans hw8 : Below w1.heap.size w1 w8).mono G1.size)
            clear hq CA h3 hs4 hsl4 har hw5 hw6 g7 hg7 hw8 G1 hs1
            have hE := HE3.out
            rw [HT.out, HTT.out] at hE
            cases hDD : D with
            | true =>
              have heq : fourOf nn = [b0, b1, b2, b3] := by have := HD.out; rw [hDD] at this; exact of_decide_eq_true this.symm
              rw [if_neg (by rw [heq]; exact fun h => h rfl)] at hE
              have HE4 := Lib.hid hE
              clear hE HE3 heq HD
              subst hDD
              go_wp2_with fail
              go_ret3
              unfold OpenEnds
              rw [HE4.out]
              exact ⟨a3, c3, rfl, h38, G8⟩
            | false =>
              have hne : [b0, b1, b2, b3] ≠ fourOf nn := by
                have := HD.out
                rw [hDD] at this
                exact fun h => of_decide_eq_false this.symm h.symm
              rw [if_pos hne] at hE
              have HE4 := Lib.hid hE
              clear hE HE3 hne HD
              subst hDD
              go_wp2_with fail
              go_ret3
              exact OpenEnds.err HE4.out rfl G8
        · have u1 : ((e2 : Int) != 0) = true := by rw [bne_iff_ne]; omega
          have hE := HE2.out
          rw [if_pos he] at hE
          have HE3 := Lib.hid hE
          clear hE HE2 he hll
          go_wp2_with fail
          go_ret3
          exact OpenEnds.err HE3.out rfl G1

end Go.Proofs.Ytaapnjhkflpiiaa
