/-
  The walks of nums.FromLeb and of its reference: they tell what 'leb' tells.
-/
import Derived.Test.YtnppjhkhfjpkfaaRows1
import Derived.Test.YtnppjhkhfjpkfaaMix
import Derived.Test.YtnppjhkhfjpkfaaLebPure
import Derived.Test.YtnppjhkhfjpkfaaShelf
namespace Go.Proofs.Ytnppjhkhfjpkfaa
open Go.RowKit Go.Mix

theorem sizeOf_u8 (w : World) : (sizeOf 5).run Try.prog w = .ok 1 w := by kernel_rfl

theorem bitLen_small : ∀ s : Fin 128, s.val < 2 ^ Lib.bitLen s.val ∧ (s.val ≠ 0 → 2 ^ (Lib.bitLen s.val - 1) ≤ s.val ∧ 1 ≤ Lib.bitLen s.val) ∧ Lib.bitLen s.val ≤ 7 := by decide +kernel

theorem okSeven_len (s i : Nat) (hs : s < 128) (h0 : 0 < s) : okSeven s i = decide (Lib.bitLen s + 7 * i ≤ 62) := by
  obtain ⟨h1, h2, h3⟩ := bitLen_small ⟨s, hs⟩
  obtain ⟨h2, h4⟩ := h2 (by simp; omega)
  simp only at h1 h2 h3 h4
  rw [Bool.eq_iff_iff]
  simp only [okSeven, h0, decide_true, Bool.true_and, Bool.not_eq_true', decide_eq_false_iff_not, decide_eq_true_eq, Nat.not_le]
  constructor
  · intro h
    rcases Nat.lt_or_ge 62 (Lib.bitLen s + 7 * i) with h5 | h5
    · have h6 : 2 ^ 62 ≤ 2 ^ (Lib.bitLen s - 1 + 7 * i) := Nat.pow_le_pow_right (by decide) (by omega)
      rw [Nat.pow_add] at h6
      have h7 : 2 ^ (Lib.bitLen s - 1) * 2 ^ (7 * i) ≤ s * 2 ^ (7 * i) := Nat.mul_le_mul_right _ h2
      have h8 : (2 : Nat) ^ 62 = 4611686018427387904 := by decide
      omega
    · exact h5
  · intro h
    have h6 : 2 ^ (Lib.bitLen s + 7 * i) ≤ 2 ^ 62 := Nat.pow_le_pow_right (by decide) h
    rw [Nat.pow_add] at h6
    have h7 : s * 2 ^ (7 * i) < 2 ^ Lib.bitLen s * 2 ^ (7 * i) := Nat.mul_lt_mul_of_pos_right h1 (Nat.two_pow_pos _)
    have h8 : (2 : Nat) ^ 62 = 4611686018427387904 := by decide
    omega

theorem okSeven_zero (i : Nat) : okSeven 0 i = true := by simp [okSeven]
theorem okSeven_far (s i : Nat) (h0 : 0 < s) (hi : 62 ≤ 7 * i) : okSeven s i = false := by
  have h6 : 2 ^ 62 ≤ 2 ^ (7 * i) := Nat.pow_le_pow_right (by decide) hi
  have h7 : 1 * 2 ^ (7 * i) ≤ s * 2 ^ (7 * i) := Nat.mul_le_mul_right _ h0
  have h8 : (2 : Nat) ^ 62 = 4611686018427387904 := by decide
  simp [okSeven, h0]; omega

/-- A cell of its own: the captured number. -/
def Num (w : World) (b : Nat) (k : Nat) : Prop := w.heap[b]? = some (.cells #[.int .u64 (k : Int)] 35 (0, 0))

theorem Num.cell {w : World} {b k : Nat} (h : Num w b k) : w.cell? ⟨b, 0, none⟩ = some (.int .u64 (k : Int)) := by
  unfold Num at h; simp [World.cell?, h]
theorem Num.lt {w : World} {b k : Nat} (h : Num w b k) : b < w.heap.size := lt_of_cell (p := ⟨b, 0, none⟩) h.cell
theorem Num.frozen {w : World} {b k : Nat} (h : Num w b k) : w.frozen? ⟨b, 0, none⟩ = false := by
  unfold Num at h; simp [World.frozen?, h]
theorem Num.grow {w w' : World} {b k : Nat} (h : Num w b k) (hg : Grow w w') : Num w' b k := (hg.block b h.lt).trans h
theorem Num.set {w : World} {b k : Nat} (h : Num w b k) (k' : Nat) : Num (w.setCell ⟨b, 0, none⟩ (.int .u64 (k' : Int))) b k' := by
  unfold Num at h ⊢
  simp [World.setCell, Array.getElem?_modify, h]

theorem grownBy_grow {w w' : World} (h : Grow w w') (row : Option Nat) : w.grownBy w' row := ⟨h.os, h.tape, h.output, h.size, fun k hk _ => h.block k hk⟩
theorem grownBy_trans {a b c : World} {g : Nat} (h : a.grownBy b (some g)) (k : b.grownBy c (some g)) : a.grownBy c (some g) :=
  ⟨k.os.trans h.os, k.tape.trans h.tape, k.output.trans h.output, Nat.le_trans h.size k.size, fun i hi hne => (k.block i (Nat.lt_of_lt_of_le hi h.size) hne).trans (h.block i hi hne)⟩
theorem grownBy_set (w : World) (g o : Nat) (u : Value) : w.grownBy (w.setCell ⟨g, o, none⟩ u) (some g) :=
  ⟨rfl, rfl, rfl, by simp [World.setCell], fun k _ hne => Below.heap_setCell w _ u k (by simp only; intro e; exact hne (by rw [e]))⟩

theorem shl7 (s i : Nat) (h : s * 2 ^ (7 * i) < 4611686018427387904) (h2 : s = 0 ∨ 7 * i < 62) : IntKind.u64.wrap ((s : Int) * 2 ^ min (7 * (i : Int)).toNat 64) = ((s * 2 ^ (7 * i) : Nat) : Int) := by
  rw [IntKind.wrap_u64]
  rcases h2 with rfl | h2
  · simp
  · rw [show min (7 * (i : Int)).toNat 64 = 7 * i from by omega]
    have e : (s : Int) * 2 ^ (7 * i) = ((s * 2 ^ (7 * i) : Nat) : Int) := by
      rw [Int.natCast_mul, Int.natCast_pow]; rfl
    rw [e]; omega

theorem or7 (s i k : Nat) (hk : k < 2 ^ (7 * i)) (h1 : s * 2 ^ (7 * i) < 4611686018427387904) (h2 : k < 4611686018427387904) : bits .or .u64 (k : Int) ((s * 2 ^ (7 * i) : Nat) : Int) = ((k + s * 2 ^ (7 * i) : Nat) : Int) := by
  rw [bits_or_u64_nat k (s * 2 ^ (7 * i)) (by omega) (by omega), Nat.or_comm, show s * 2 ^ (7 * i) = s <<< (7 * i) from by rw [Nat.shiftLeft_eq], ← Nat.shiftLeft_add_eq_or_of_lt hk, Nat.add_comm]

set_option maxHeartbeats 400000 in
theorem seven_any (kb s i k : Nat) (w : World) (hs : s < 128) (hi : i ≤ 11) (hk : k < 2 ^ (7 * i)) (hk2 : k < 4611686018427387904) (hN : Num w kb k) :
    Calls Try.prog 24 #[.int .u64 s, .int .i64 i, .pointer (some ⟨kb, 0, none⟩)] w fun e w' => e = .returned (.bool (okSeven s i)) ∧ w.grownBy w' (some kb) ∧
      Num w' kb (if okSeven s i then k + s * 2 ^ (7 * i) else k) := by
  have hl : ∀ x : Later w, x.1.cell? ⟨kb, 0, none⟩ = some (.int .u64 (k : Int)) := fun x => (hN.grow x.2).cell
  have e7 : IntKind.i64.wrap (7 * (i : Int)) = 7 * (i : Int) := IntWalk.i64_in _ (by omega)
  have h7 : 0 ≤ 7 * (i : Int) := by omega
  by_cases hbad : okSeven s i = false
  · have h0 : 0 < s := by
      rcases Nat.eq_zero_or_pos s with h | h
      · rw [h, okSeven_zero] at hbad; cases hbad
      · exact h
    rw [hbad]
    have h0' : (0 : Int) < (s : Int) := by omega
    by_cases h1 : 62 ≤ 7 * i
    · have h1' : (62 : Int) ≤ 7 * (i : Int) := by omega
      clear hl e7
      go_enter Try.func24, Try.ntmps24
      go_wp2_with fail
      go_ret
      exact ⟨rfl, grownBy_grow (Grow.refl w) _, hN⟩
    · have h1' : 7 * (i : Int) < 62 := by omega
      have hb := okSeven_len s i hs h0
      rw [hbad] at hb
      have hb2 : 62 < Lib.bitLen s + 7 * i := by simpa using hb.symm
      have hb3 : Lib.bitLen s ≤ 7 := (bitLen_small ⟨s, hs⟩).2.2
      have hb4 : (62 : Int) < (Lib.bitLen s : Int) + 7 * (i : Int) := by omega
      clear hl e7 hb hb2
      go_enter Try.func24, Try.ntmps24
      go_wp2_with fail
      refine (Try.bits_Len64 _ _ (by omega) (by omega)).mono ?_
      rintro e w' ⟨rfl, rfl⟩
      rw [Int.toNat_natCast]
      go_wp2_with fail
      go_ret
      exact ⟨rfl, grownBy_grow (Grow.refl _) _, hN⟩
  · have hok : okSeven s i = true := by simpa using hbad
    clear hbad
    have hlt := seven_small s i hok
    have hz : s = 0 ∨ (0 < s ∧ 7 * i < 62) := by
      rcases Nat.eq_zero_or_pos s with h | h
      · exact .inl h
      · refine .inr ⟨h, ?_⟩
        rcases Nat.lt_or_ge (7 * i) 62 with h1 | h1
        · exact h1
        · rw [okSeven_far s i h h1] at hok; cases hok
    have SH := Lib.hid (shl7 s i hlt (hz.imp id (fun h => h.2)))
    have OR := Lib.hid (or7 s i k hk hlt hk2)
    rw [hok]
    simp only [if_true]
    rcases hz with h0 | ⟨h0, h1⟩
    · have h0' : ¬ (0 : Int) < (s : Int) := by omega
      have h0'' : (s : Int) ≤ 0 := by omega
      clear h0 hok
      go_enter Try.func24, Try.ntmps24
      go_wp2_with fail
      refine wp_region_mix [(0, 0), (1, 0), (2, 0), (3, 0), (4, 0), (5, 0), (6, 2)] (by kernel_rfl) (by kernel_rfl) ?_
      iterate 6 (refine mix_calm rfl (fun K hK => ?_); go_simp; (refine hK _ ?_; clear hK K))
      rw [SH.out, OR.out]
      refine mix_sync rfl rfl (fun w3 hw3 K hK => ?_)
      have hN3 := hN.grow hw3
      have hc3 := hN3.cell
      have hf3 := hN3.frozen
      go_wp2_with fail
      refine mix_nil fun w4 hw4 => ?_
      have hN4 := (hN3.set (k + s * 2 ^ (7 * i))).grow hw4
      have hg4 := grownBy_trans (grownBy_trans (grownBy_grow hw3 (some kb)) (grownBy_set w3 kb 0 (.int .u64 ((k + s * 2 ^ (7 * i) : Nat) : Int)))) (grownBy_grow hw4 (some kb))
      clear hc3 hf3
      go_wp2_with fail
      go_ret
      exact ⟨rfl, hg4, hN4⟩
    · have h0' : (0 : Int) < (s : Int) := by omega
      have h1' : 7 * (i : Int) < 62 := by omega
      have hb := okSeven_len s i hs h0
      rw [hok] at hb
      have hb2 : Lib.bitLen s + 7 * i ≤ 62 := by simpa using hb.symm
      have hb4 : (Lib.bitLen s : Int) + 7 * (i : Int) ≤ 62 := by omega
      clear hb hb2 hok
      go_enter Try.func24, Try.ntmps24
      go_wp2_with fail
      refine (Try.bits_Len64 _ _ (by omega) (by omega)).mono ?_
      rintro e w' ⟨rfl, rfl⟩
      rw [Int.toNat_natCast]
      go_wp2_with fail
      refine wp_region_mix [(0, 0), (1, 0), (2, 0), (3, 0), (4, 0), (5, 0), (6, 2)] (by kernel_rfl) (by kernel_rfl) ?_
      iterate 6 (refine mix_calm rfl (fun K hK => ?_); go_simp; (refine hK _ ?_; clear hK K))
      rw [show (2 : Int) ^ (7 * (i : Int)).toNat = 2 ^ min (7 * (i : Int)).toNat 64 from by rw [Nat.min_eq_left (by omega)], SH.out, OR.out]
      refine mix_sync rfl rfl (fun w3 hw3 K hK => ?_)
      have hN3 := hN.grow hw3
      have hc3 := hN3.cell
      have hf3 := hN3.frozen
      go_wp2_with fail
      refine mix_nil fun w4 hw4 => ?_
      have hN4 := (hN3.set (k + s * 2 ^ (7 * i))).grow hw4
      have hg4 := grownBy_trans (grownBy_trans (grownBy_grow hw3 (some kb)) (grownBy_set w3 kb 0 (.int .u64 ((k + s * 2 ^ (7 * i) : Nat) : Int)))) (grownBy_grow hw4 (some kb))
      clear hc3 hf3
      go_wp2_with fail
      go_ret
      exact ⟨rfl, hg4, hN4⟩

set_option maxRecDepth 100000 in
set_option maxHeartbeats 1000000 in
/-- nums.sevens, each seven met by FromLeb's own function. -/
theorem sevens_any (w0 w : World) (a : Option Addr) (cap : Nat) (l : List UInt8) (kb : Nat) (hb : Bs w0 a l) (hmax : l.length ≤ 9223372036854775807) (hkb : w0.heap.size ≤ kb) (hbel : Below w0.heap.size w0 w) (hN : Num w kb 0) :
    Calls Try.prog 23 #[.slice a l.length cap, .func (.func 24) #[] #[.pointer (some ⟨kb, 0, none⟩)]] w fun e w' =>
      e = .returned (.tuple #[.int .i64 ((leb l).2.1 : Nat), .int .i64 ((leb l).2.2 : Nat)]) ∧ Below w0.heap.size w0 w' ∧ ∃ v, Num w' kb v ∧ v < 4611686018427387904 ∧ ((leb l).2.2 = 0 → v = (leb l).1) := by
  have IX := Lib.hid (fun k (hk : k < l.length) => run_index_any (P := Try.prog) hb.cells 22 Try.underlying22 sizeOf_u8 cap (n := l.length) hk (by rw [bcells_length]; omega))
  go_enter Try.func23, Try.ntmps23
  go_wp2_with fail
  go_step3
  go_wp2_with fail
  go_step3
  go_wp2_with fail
  go_loopw [6, 11] (fun nn ii wr => nn = .int .i64 0 ∧ ∃ i k : Nat, i ≤ l.length ∧ i ≤ 12 ∧ ii = .int .i64 i ∧ k < 2 ^ (7 * i) ∧ k < 4611686018427387904 ∧ lebGo (l.drop i) i k = leb l ∧ Num wr kb k ∧ Below w0.heap.size w0 wr)
    (fun _ ii _ => l.length - (intOf ii).toNat)
  case atStart => exact ⟨rfl, 0, 0, by omega, by omega, rfl, by decide, by decide, rfl, hN, hbel⟩
  case round =>
    obtain ⟨rfl, i, k, hil, hi12, rfl, hk, hk2, hgo, hNr, hbr⟩ := hrel
    have HGO := Lib.hid hgo
    clear hgo hN hbel
    by_cases hlt : i < l.length
    · have hdrop : l.drop i = l[i] :: l.drop (i + 1) := List.drop_eq_getElem_cons hlt
      have hcell := (hb.below hbr).cell hlt
      have IK := IX.out i hlt
      have h8 := l[i].toNat_lt
      have HG := HGO.out
      rw [hdrop, lebGo_cons] at HG
      generalize l[i] = c at *
      have HG2 := Lib.hid HG
      clear HG hdrop
      have hm : c.toNat % 128 < 128 := Nat.mod_lt _ (by decide)
      have mask : bits .and .u8 (c.toNat : Int) 127 = ((c.toNat % 128 : Nat) : Int) := by
        have h := u8_and_nat c.toNat 127 h8 (by decide)
        rw [show (127 : Nat) = 2 ^ 7 - 1 from rfl, Nat.and_two_pow_sub_one_eq_mod] at h
        exact h
      by_cases h12 : i = 12
      · have h12' : ((i : Int) == 12) = true := by simp; omega
        have hres : leb l = (0, 0, 2) := by rw [← HG2.out, if_pos (.inl h12)]
        have HR := Lib.hid hres
        clear hres h12
        go_wp2_with fail
        rw [Exit.noGoto_ret]
        go_ret2
        exact ⟨by rw [HR.out]; rfl, hbr, k, hNr, hk2, by rw [HR.out]; intro h; cases h⟩
      · have h12' : ((i : Int) == 12) = false := by simp; omega
        have hi11 : i ≤ 11 := by omega
        cases hok : okSeven (c.toNat % 128) i with
        | false =>
          have hres : leb l = (0, 0, 2) := by rw [← HG2.out, if_pos (.inr hok)]
          have HR := Lib.hid hres
          have HOK := Lib.hid hok
          clear hres h12 hok
          go_wp2_with fail
          refine (seven_any kb (c.toNat % 128) i k wr hm hi11 hk hk2 hNr).mono ?_
          rintro e w' ⟨rfl, hgr, hN'⟩
          rw [HOK.out] at hN'
          rw [HOK.out]
          go_wp2_with fail
          rw [Exit.noGoto_ret]
          go_ret2
          exact ⟨by rw [HR.out]; rfl, hbr.grown hgr hbr.size (fun k hk => by simp at hk; omega), k, hN', hk2, by rw [HR.out]; intro h; cases h⟩
        | true =>
          have hne : ¬ (i = 12 ∨ okSeven (c.toNat % 128) i = false) := by rw [hok]; simp [h12]
          have hres := HG2.out
          rw [if_neg hne] at hres
          have hb2 := seven_bound (c.toNat % 128) i k hm hi11 hk hk2 hok
          have hb3 := seven_lt (c.toNat % 128) i k hm hk
          have HR := Lib.hid hres
          have HOK := Lib.hid hok
          clear hres h12 hok hne
          by_cases hc : c.toNat < 128
          · have hc' : (c.toNat : Int) < 128 := by omega
            have hz : ((i : Int) + 1 == 0) = false := by simp; omega
            go_wp2_with fail
            refine (seven_any kb (c.toNat % 128) i k wr hm hi11 hk hk2 hNr).mono ?_
            rintro e w' ⟨rfl, hgr, hN'⟩
            rw [HOK.out, if_pos rfl] at hN'
            rw [HOK.out]
            have hres := HR.out
            rw [if_pos hc] at hres
            have HRR := Lib.hid hres
            clear hres
            go_wp2_with fail
            try rw [Exit.noGoto_ret]
            go_ret2
            exact ⟨by rw [← HRR.out]; rfl, hbr.grown hgr hbr.size (fun k hk => by simp at hk; omega), _, hN', hb2, by rw [← HRR.out]; intro _; rfl⟩
          · have hc' : (128 : Int) ≤ (c.toNat : Int) := by omega
            go_wp2_with fail
            refine (seven_any kb (c.toNat % 128) i k wr hm hi11 hk hk2 hNr).mono ?_
            rintro e w' ⟨rfl, hgr, hN'⟩
            rw [HOK.out, if_pos rfl] at hN'
            rw [HOK.out]
            have hres := HR.out
            rw [if_neg hc] at hres
            have HRR := Lib.hid hres
            clear hres
            go_wp2_with fail
            go_roundw
            case rel => exact ⟨rfl, i + 1, _, by omega, by omega, by go_num, hb3, hb2, HRR.out, hN', hbr.grown hgr hbr.size (fun k hk => by simp at hk; omega)⟩
            case measure => simp [intOf]; omega
    · have hres : leb l = (0, 0, 3) := by rw [← HGO.out, List.drop_of_length_le (by omega), lebGo_nil]
      have HR := Lib.hid hres
      clear hres
      go_wp2_with fail
      try rw [Exit.noGoto_ret]
      go_ret2
      exact ⟨by rw [HR.out]; rfl, hbr, k, hNr, hk2, by rw [HR.out]; intro h; cases h⟩

/-- nums.FromLeb. -/
theorem fromLeb_any (a : Option Addr) (cap : Nat) (l : List UInt8) (w : World) (hb : Bs w a l) (hmax : l.length ≤ 9223372036854775807) :
    Calls Try.prog 21 #[.slice a l.length cap] w fun e w' =>
      e = .returned (.tuple #[.int .i64 ((leb l).1 : Nat), .int .i64 ((leb l).2.1 : Nat), .int .i64 ((leb l).2.2 : Nat)]) ∧ Below w.heap.size w w' := by
  have hbd := leb_bounds l
  have hbel0 : Below w.heap.size w (w.alloc (.cells #[.int .u64 0] 35)) := (Below.refl _ _).alloc (Nat.le_refl _) _
  have hN0 : Num (w.alloc (.cells #[.int .u64 0] 35)) w.heap.size 0 := heap_alloc_last _ _ _ rfl
  have hsv := sevens_any w _ a cap l w.heap.size hb hmax (Nat.le_refl _) hbel0 hN0
  generalize leb l = r at *
  obtain ⟨v, n, x⟩ := r
  simp only at hbd hsv
  obtain ⟨hb1, hb2, hb3, hb4⟩ := hbd
  have HSV := Lib.hid hsv
  clear hsv hN0
  simp only
  by_cases hx : x = 0
  · subst hx
    go_enter Try.func21, Try.ntmps21
    go_wp2_with fail
    refine HSV.out.mono ?_
    rintro e w' ⟨rfl, hbel, v', hNv, hv', hve⟩
    have e1 := hve trivial
    subst e1
    have hc := hNv.cell
    clear hve
    go_wp2_with fail
    go_ret3
    exact ⟨rfl, hbel⟩
  · obtain ⟨rfl, rfl⟩ := hb4 hx
    have hx' : ((x : Int) != 0) = true := by rw [bne_iff_ne]; omega
    have hx2 : ((x : Int) == 0) = false := by rw [beq_eq_false_iff_ne]; omega
    go_enter Try.func21, Try.ntmps21
    go_wp2_with fail
    refine HSV.out.mono ?_
    rintro e w' ⟨rfl, hbel, v', hNv, hv', hve⟩
    clear hve
    go_wp2_with fail
    go_ret3
    exact ⟨rfl, hbel⟩

end Go.Proofs.Ytnppjhkhfjpkfaa
