/-
  The document's Parse of a sum: the walk.
-/
import Derived.Test.YtifoledkmjlmoaaDoorShaParse
import Derived.Test.YtifoledkmjlmoaaDoorRefHex
namespace Go.Proofs.YtifoledkmjlmoaaDoor
open Go.RowKit Go.Mix Go.WideMaps Go.Proofs

theorem ArrB.later {w w' : World} {b : Nat} {t : TypeId} {l : List UInt8} (h : ArrB w b t l) (g : Below w.heap.size w w') : ArrB w' b t l := (g.block b (lt_of_block h)).trans h

def mtch (l : List UInt8) (i m : Nat) : Prop := l[2 * i]? = some (hexd (m / 16)) ∧ l[2 * i + 1]? = some (hexd (m % 16))
theorem hexL_take {l acc : List UInt8} {i m : Nat} (hm : m < 256) (h : l.take (2 * i) = hexL (acc.take i)) (hi : acc[i]? = some (UInt8.ofNat m)) (hc : mtch l i m) : l.take (2 * (i + 1)) = hexL (acc.take (i + 1)) := by
  obtain ⟨h1, h2⟩ := hc
  rw [show 2 * (i + 1) = 2 * i + 1 + 1 by omega, List.take_add_one, List.take_add_one, h, h1, h2, List.take_add_one, hi]
  unfold hexL
  rw [List.flatMap_append]
  have e : (UInt8.ofNat m).toNat = m := by rw [UInt8.toNat_ofNat']; omega
  simp [e]
theorem mtch_hex {x : Id20} {i : Nat} (hi : i < 20) : mtch (hexL x.1) i (x.1[i]'(by rw [x.2]; exact hi)).toNat := hexL_get (by rw [x.2]; exact hi)
theorem unhex_mtch {l : List UInt8} {i : Nat} (hi : i < 20) (h : ∀ m, m < 256 → ¬ mtch l i m) : unhex l = none := unhex_none fun x hx => by
  have := mtch_hex (x := x) hi
  rw [← hx] at this
  exact h _ (UInt8.toNat_lt _) this

set_option maxRecDepth 100000 in
set_option maxHeartbeats 4000000 in
theorem refParse_any (s : ByteArray) (w : World) : Calls Tryd.prog 29 #[.string s] w fun e w' => e = .returned (.tuple #[.agg (idA (shaX s.data.toList)), .bool (unhex s.data.toList).isSome]) ∧ Below w.heap.size w w' := by
  obtain ⟨l, hl⟩ : ∃ l, l = s.data.toList := ⟨_, rfl⟩
  have hsz : s.size = l.length := by rw [hl]; exact Array.length_toList.symm
  have SX : ∀ (i : Nat) (hi : i < l.length) (W : World), (Instr.index 9 (.string s) (.int .i64 (i : Int))).run Tryd.prog W = .ok (.int .u8 ((l[i]).toNat : Int)) W := fun i hi W => by subst hl; exact str_index Tryd.underlying9 s hi W
  have HSX := Lib.hid SX
  rw [← hl]
  obtain ⟨Z, hZ⟩ : ∃ Z, Z = idA id0 := ⟨_, rfl⟩
  have z : ∀ w, (zeroValue 43).run Tryd.prog w = .ok (.agg Z) w := fun w => by rw [hZ]; kernel_rfl
  have bz : ∀ w, (Instr.build 43 ([] : List (Nat × Value)).toArray).run Tryd.prog w = .ok (.agg Z) w := fun w => by rw [hZ]; kernel_rfl
  have HZ := Lib.hid hZ
  have zi : (Tryd.prog.info? 43).map (·.size) = some Z.size := by rw [hZ, show (idA id0).size = 20 by simp [idA, idc_len]]; kernel_rfl
  have z1 : Z.all (·.oneCell') = true := by rw [hZ]; exact all_oneCell_toArray (bcells_one _)
  have HZI := Lib.hid (And.intro zi z1)
  have HL := Lib.hid (And.intro hl hsz)
  have hk0 : ((w.alloc (.cells Z 43)).alloc (.cells Z 43)).heap[w.heap.size]? = some (.cells Z 43 (0, 0)) := by
    rw [Below.block ((Below.refl _ _).alloc (Nat.le_refl _) _) _ (by simp)]; exact heap_alloc_last _ _ _ rfl
  have hk1 : ArrB ((w.alloc (.cells Z 43)).alloc (.cells Z 43)) (w.heap.size + 1) 43 (List.replicate 20 0) := by
    unfold ArrB
    have := heap_alloc_last (w.alloc (.cells Z 43)) (.cells Z 43) (w.heap.size + 1) (by simp)
    rw [this, HZ.out]; rfl
  have hb0 : Below w.heap.size w ((w.alloc (.cells Z 43)).alloc (.cells Z 43)) := ((Below.refl _ _).alloc (Nat.le_refl _) _).alloc (by simp) _
  have HK := Lib.hid (And.intro hk0 (And.intro hk1 hb0))
  clear SX hZ zi z1 hl hsz hk0 hk1 hb0
  go_enter Tryd.func29, Tryd.ntmps29
  by_cases h40 : l.length = 40
  · have hs40 : s.size = 40 := by rw [HL.out.2, h40]
    go_wp2_with fail
    go_loopw [5] (fun s5 wr => ∃ (i : Nat) (acc : List UInt8), s5 = .int .i64 (i : Int) ∧ i ≤ 20 ∧ acc.length = 20 ∧ l.take (2 * i) = hexL (acc.take i) ∧ ArrB wr (w.heap.size + 1) 43 acc ∧ wr.heap[w.heap.size]? = some (.cells Z 43 (0, 0)) ∧ Below w.heap.size w wr) (fun s5 _ => 20 - (intOf s5).toNat)
    case atStart => exact ⟨0, _, rfl, by omega, by simp, by simp [hexL], HK.out.2.1, HK.out.1, HK.out.2.2⟩
    case round =>
      obtain ⟨i, acc0, rfl, hi, hal, htk, harr, hres, hb⟩ := hrel
      have HT := Lib.hid (And.intro hal htk)
      have HR0 := Lib.hid hres
      by_cases hi20 : i < 20
      · have t1 : decide ((i : Int) < 20) = true := decide_eq_true (by omega)
        have t1' : decide (i < 20) = true := decide_eq_true (by omega)
        have start : ∃ (n : Nat) (f : Bool) (acc : List UInt8), (Value.int .i64 0) = .int .i64 (n : Int) ∧ (Value.bool false) = .bool f ∧ n ≤ 256 ∧ acc.length = 20 ∧ acc.take i = acc0.take i ∧ ArrB wr (w.heap.size + 1) 43 acc ∧ wr.heap[w.heap.size]? = some (.cells Z 43 (0, 0)) ∧ Below w.heap.size w wr ∧ (f = true → ∃ m, m < 256 ∧ mtch l i m ∧ acc[i]? = some (UInt8.ofNat m)) ∧ (f = false → ∀ m, m < n → ¬ mtch l i m) :=
          ⟨0, false, acc0, rfl, rfl, by omega, hal, rfl, harr, hres, hb, (fun h => by cases h), fun _ m hm => absurd hm (Nat.not_lt_zero _)⟩
        have HST := Lib.hid start
        clear start hal htk harr hres hb
        go_wp2_with fail
        go_loopw [6, 7] (fun s6 s7 wr => ∃ (n : Nat) (f : Bool) (acc : List UInt8), s7 = .int .i64 (n : Int) ∧ s6 = .bool f ∧ n ≤ 256 ∧ acc.length = 20 ∧ acc.take i = acc0.take i ∧ ArrB wr (w.heap.size + 1) 43 acc ∧ wr.heap[w.heap.size]? = some (.cells Z 43 (0, 0)) ∧ Below w.heap.size w wr ∧ (f = true → ∃ m, m < 256 ∧ mtch l i m ∧ acc[i]? = some (UInt8.ofNat m)) ∧ (f = false → ∀ m, m < n → ¬ mtch l i m)) (fun _ s7 _ => 256 - (intOf s7).toNat)
        case atStart => exact HST.out
        case round =>
          obtain ⟨n, f, acc, rfl, rfl, hn, hal, hac, harr, hres, hb, hft, hff⟩ := hrel
          have HA := Lib.hid (And.intro hal (And.intro hac harr))
          have HR := Lib.hid hres
          have HB := Lib.hid hb
          have HF := Lib.hid (And.intro hft hff)
          clear hal hac harr hres hb hft hff
          by_cases hn256 : n < 256
          · have u1 : decide ((n : Int) < 256) = true := decide_eq_true (by omega)
            have u1' : decide (n < 256) = true := decide_eq_true (by omega)
            have hi1 : 2 * i < l.length := by omega
            have hi2 : 2 * i + 1 < l.length := by omega
            have I1 := fun W => HSX.out (2 * i) hi1 W
            have I2 := fun W => HSX.out (2 * i + 1) hi2 W
            have D1 := fun W : World => digit_any (n := n / 16) (by omega) W
            have D2 := fun W : World => digit_any (n := n % 16) (by omega) W
            have W1 : IntKind.i64.wrap (2 * (i : Int)) = ((2 * i : Nat) : Int) := by rw [IntWalk.i64_in _ (by omega)]; omega
            have W2 : IntKind.i64.wrap (((2 * i : Nat) : Int) + 1) = ((2 * i + 1 : Nat) : Int) := by rw [IntWalk.i64_in _ (by omega)]; omega
            have W3 : IntKind.i64.wrap ((n : Int) / 16) = ((n / 16 : Nat) : Int) := by rw [IntWalk.i64_in _ (by omega)]; omega
            have W4 : (n : Int).tmod 16 = ((n % 16 : Nat) : Int) := by rw [Int.tmod_eq_emod_of_nonneg (by omega)]; omega
            obtain ⟨m1, hm1⟩ : ∃ b : Bool, b = decide (l[2 * i] = hexd (n / 16)) := ⟨_, rfl⟩
            obtain ⟨m2, hm2⟩ : ∃ b : Bool, b = decide (l[2 * i + 1] = hexd (n % 16)) := ⟨_, rfl⟩
            have E1 : (((l[2 * i]).toNat : Int) == ((hexd (n / 16)).toNat : Int)) = m1 := by
              rw [hm1, Bool.eq_iff_iff, beq_iff_eq, decide_eq_true_eq, ← UInt8.toNat_inj]; omega
            have E2 : (((l[2 * i + 1]).toNat : Int) == ((hexd (n % 16)).toNat : Int)) = m2 := by
              rw [hm2, Bool.eq_iff_iff, beq_iff_eq, decide_eq_true_eq, ← UInt8.toNat_inj]; omega
            have E1' : ((l[2 * i]).toNat == (hexd (n / 16)).toNat) = m1 := by
              rw [hm1, Bool.eq_iff_iff, beq_iff_eq, decide_eq_true_eq, ← UInt8.toNat_inj]
            have E2' : ((l[2 * i + 1]).toNat == (hexd (n % 16)).toNat) = m2 := by
              rw [hm2, Bool.eq_iff_iff, beq_iff_eq, decide_eq_true_eq, ← UInt8.toNat_inj]
            have HM : Hid ((m1 && m2) = true ↔ mtch l i n) := Lib.hid (by
              rw [hm1, hm2]; unfold mtch
              rw [List.getElem?_eq_getElem hi1, List.getElem?_eq_getElem hi2]
              simp)
            clear hm1 hm2
            generalize (l[2 * i]).toNat = c1 at *
            generalize (l[2 * i + 1]).toNat = c2 at *
            generalize (hexd (n / 16)).toNat = x1 at *
            generalize (hexd (n % 16)).toNat = x2 at *
            generalize n / 16 = q at *
            generalize n % 16 = r at *
            generalize hk1 : 2 * i + 1 = k1 at *
            generalize hk2 : 2 * i = k2 at *
            clear hi1 hi2 hk1 hk2
            cases m1
            · go_upto_region 11 with (fail)
              refine wp_region_mg [(0, 0), (1, 0), (2, 0), (3, 0), (4, 0), (5, 0), (6, 0), (7, 0), (8, 0), (9, 0), (10, 0), (11, 0), (12, 0), (13, 0), (14, 0), (15, 0), (16, 0), (17, 0), (18, 0)] (by kernel_rfl) (by kernel_rfl) ?_
              iterate 3 (refine mg_calm rfl (fun K hK => ?_); go_simp; (refine hK _ ?_; clear hK K))
              refine mg_index rfl rfl _ _ _ rfl _ _ _ rfl rfl I1 ?_
              iterate 2 (refine mg_calm rfl (fun K hK => ?_); go_simp; (refine hK _ ?_; clear hK K))
              (refine mg_calm rfl (fun K hK => ?_); go_simp; apply Exists.intro; refine ⟨fun y => calls_calm (D1 y.1), hK _ ?_⟩; clear hK K)
              iterate 12 (refine mg_calm rfl (fun K hK => ?_); go_simp; (refine hK _ ?_; clear hK K))
              refine mg_nil fun w7 hw7 => ?_
              have HW7 : Hid (Below wr.heap.size wr w7) := Lib.hid hw7
              clear hw7 W1 W2 W3 W4 I1 I2 D1 D2 E1 E2 E1' E2'
              go_wp2_with fail
              go_roundw
              case rel => exact ⟨n + 1, f, acc, by go_num, rfl, by omega, HA.out.1, HA.out.2.1, HA.out.2.2.later HW7.out, blockR_below HR.out HW7.out, HB.out.trans (HW7.out.mono HB.out.size), HF.out.1, fun hf m hm => by
                rcases Nat.lt_or_ge m n with h | h
                · exact HF.out.2 hf m h
                · obtain rfl : m = n := by omega
                  exact fun hc => by have := HM.out.2 hc; simp at this⟩
              case measure => simp [intOf]; omega
            · go_upto_region 11 with (fail)
              refine wp_region_mg [(0, 0), (1, 0), (2, 0), (3, 0), (4, 0), (5, 0), (6, 0), (7, 0), (8, 0), (9, 0), (10, 0), (11, 0), (12, 0), (13, 0), (14, 0), (15, 0), (16, 0), (17, 0), (18, 0)] (by kernel_rfl) (by kernel_rfl) ?_
              iterate 3 (refine mg_calm rfl (fun K hK => ?_); go_simp; (refine hK _ ?_; clear hK K))
              refine mg_index rfl rfl _ _ _ rfl _ _ _ rfl rfl I1 ?_
              iterate 2 (refine mg_calm rfl (fun K hK => ?_); go_simp; (refine hK _ ?_; clear hK K))
              (refine mg_calm rfl (fun K hK => ?_); go_simp; apply Exists.intro; refine ⟨fun y => calls_calm (D1 y.1), hK _ ?_⟩; clear hK K)
              iterate 6 (refine mg_calm rfl (fun K hK => ?_); go_simp; (refine hK _ ?_; clear hK K))
              refine mg_index rfl rfl _ _ _ rfl _ _ _ rfl rfl I2 ?_
              iterate 2 (refine mg_calm rfl (fun K hK => ?_); go_simp; (refine hK _ ?_; clear hK K))
              (refine mg_calm rfl (fun K hK => ?_); go_simp; apply Exists.intro; refine ⟨fun y => calls_calm (D2 y.1), hK _ ?_⟩; clear hK K)
              iterate 2 (refine mg_calm rfl (fun K hK => ?_); go_simp; (refine hK _ ?_; clear hK K))
              refine mg_nil fun w7 hw7 => ?_
              have HW7 : Hid (Below wr.heap.size wr w7) := Lib.hid hw7
              clear hw7 W1 W2 W3 W4 I1 I2 D1 D2 E1 E2 E1' E2'
              cases m2
              · go_wp2_with fail
                go_roundw
                case rel => exact ⟨n + 1, f, acc, by go_num, rfl, by omega, HA.out.1, HA.out.2.1, HA.out.2.2.later HW7.out, blockR_below HR.out HW7.out, HB.out.trans (HW7.out.mono HB.out.size), HF.out.1, fun hf m hm => by
                  rcases Nat.lt_or_ge m n with h | h
                  · exact HF.out.2 hf m h
                  · obtain rfl : m = n := by omega
                    exact fun hc => by have := HM.out.2 hc; simp at this⟩
                case measure => simp [intOf]; omega
              · have ti : (i : Int) < 20 := by omega
                have harr := HA.out.2.2.later HW7.out
                have cell := harr.cell (k := i) (by have := HA.out.1; omega)
                have fr := harr.free (k := i)
                have W5 : IntKind.u8.wrap (n : Int) = ((UInt8.ofNat n).toNat : Int) := by
                  rw [UInt8.toNat_ofNat', Nat.mod_eq_of_lt (by omega), IntWalk.u8_in _ (by omega)]
                have hset := harr.set i (UInt8.ofNat n)
                have HSET := Lib.hid hset
                have HRES := Lib.hid (blockR_below HR.out HW7.out)
                generalize hcv : (UInt8.ofNat n).toNat = cv at *
                have HCV := Lib.hid hcv
                clear hset harr hcv
                go_wp2_with fail
                go_roundw
                case rel =>
                  refine ⟨n + 1, true, acc.set i (UInt8.ofNat n), by go_num, rfl, by omega, by rw [List.length_set]; exact HA.out.1, by rw [List.take_set_of_le (Nat.le_refl _)]; exact HA.out.2.1, HSET.out, ?_, (HB.out.trans (HW7.out.mono HB.out.size)).setCell (by simp) _, fun _ => ⟨n, hn256, HM.out.1 rfl, ?_⟩, fun h => by cases h⟩
                  · rw [Below.heap_setCell _ _ _ _ (by simp)]; exact HRES.out
                  · rw [List.getElem?_set_self (by have := HA.out.1; omega)]
                case measure => simp [intOf]; omega
          · obtain rfl : n = 256 := by omega
            have u1 : decide (((256 : Nat) : Int) < 256) = false := rfl
            cases f
            · have hno := unhex_mtch hi20 (HF.out.2 rfl)
              have hX : shaX l = id0 ∧ (unhex l).isSome = false := by unfold shaX; rw [hno]; exact ⟨rfl, rfl⟩
              have HX := Lib.hid hX
              have hres := HR.out
              have zi := HZI.out.1
              have z1 := HZI.out.2
              clear hno hX
              go_wp2_with (first | (refine wpList_build_at rfl _ _ rfl [] _ rfl (bz _) ?_) | (refine wpList_store_row rfl 43 _ _ rfl w.heap.size Z rfl rfl 43 Z hres zi rfl z1 ?_))
              refine bodyPost_ret (results_cell_tmp rfl _ _ w.heap.size 43 Z (0, 0) _ rfl (setRow_heap _ _ _ _ _ _ hres) Tryd.underlying43 rfl zi) rfl ?_
              rw [HX.out.1, HX.out.2, ← HZ.out]
              exact ⟨rfl, below_setRow HB.out (Nat.le_refl _) _⟩
            · go_wp2_with fail
              go_roundw
              case rel =>
                obtain ⟨m, hm, hc, hk⟩ := HF.out.1 rfl
                refine ⟨i + 1, acc, by go_num, by omega, HA.out.1, hexL_take hm ?_ hk hc, HA.out.2.2, HR.out, HB.out⟩
                rw [HT.out.2, HA.out.2.1]
              case measure => simp [intOf]; omega
      · obtain rfl : i = 20 := by omega
        have t1 : decide (((20 : Nat) : Int) < 20) = false := rfl
        have hlx : l = hexL acc0 := by
          have := HT.out.2
          rw [List.take_of_length_le (by omega), List.take_of_length_le (by have := HT.out.1; omega)] at this; exact this
        have hX := unhex_some (x := ⟨acc0, HT.out.1⟩) hlx
        have hX2 : shaX l = ⟨acc0, HT.out.1⟩ ∧ (unhex l).isSome = true := by unfold shaX; rw [hX]; exact ⟨rfl, rfl⟩
        have HX := Lib.hid hX2
        obtain ⟨V, hV⟩ : ∃ V, V = idA ⟨acc0, HT.out.1⟩ := ⟨_, rfl⟩
        have harr2 : wr.heap[w.heap.size + 1]? = some (.cells V 43 (0, 0)) := by rw [hV]; exact harr
        have vi : (Tryd.prog.info? 43).map (·.size) = some V.size := by rw [hV, show (idA ⟨acc0, HT.out.1⟩).size = 20 by simp [idA, idc_len]]; kernel_rfl
        have v1 : V.all (·.oneCell') = true := by rw [hV]; exact all_oneCell_toArray (bcells_one _)
        have zs : Z.size = V.size := by rw [hV, HZ.out]; simp [idA, idc_len]
        have L : (Instr.loadAt 43 (.pointer (some ⟨w.heap.size + 1, 0, none⟩))).run Tryd.prog wr = .ok (.agg V) wr := by
          simp only [Instr.loadAt, Instr.sureAddr, Sem.run_bind, Sem.run_pure, Result.andThen_ok]
          exact run_loadVar_row _ _ 43 _ _ (0, 0) _ harr2 Tryd.underlying43 rfl vi
        have HVV := Lib.hid hV
        have HB := Lib.hid hb
        clear hX hX2 hV hlx harr hal htk hb
        go_wp2_with (first | (refine wpList_load_at rfl _ _ rfl _ _ rfl L ?_) | (refine wpList_store_row rfl 43 _ _ rfl w.heap.size V rfl rfl 43 Z hres vi zs v1 ?_))
        refine bodyPost_ret (results_cell_tmp rfl _ _ w.heap.size 43 V (0, 0) _ rfl (setRow_heap _ _ _ _ _ _ hres) Tryd.underlying43 rfl vi) rfl ?_
        rw [HX.out.1, HX.out.2, ← HVV.out]
        exact ⟨rfl, below_setRow HB.out (Nat.le_refl _) _⟩
  · have tt : ((s.size : Int) != 40) = true := by rw [bne_iff_ne]; have := HL.out.2; omega
    have tt' : (s.size != 40) = true := by rw [bne_iff_ne]; have := HL.out.2; omega
    have hno2 := unhex_len h40
    have hX : shaX l = id0 ∧ (unhex l).isSome = false := by unfold shaX; rw [hno2]; exact ⟨rfl, rfl⟩
    have HX := Lib.hid hX
    have hk0 := HK.out.1
    have hk1 := HK.out.2.1
    have zi := HZI.out.1
    have z1 := HZI.out.2
    have L : (Instr.loadAt 43 (.pointer (some ⟨w.heap.size + 1, 0, none⟩))).run Tryd.prog ((w.alloc (.cells Z 43)).alloc (.cells Z 43)) = .ok (.agg Z) ((w.alloc (.cells Z 43)).alloc (.cells Z 43)) := by
      simp only [Instr.loadAt, Instr.sureAddr, Sem.run_bind, Sem.run_pure, Result.andThen_ok]
      exact run_loadVar_row _ _ 43 _ _ (0, 0) _ (heap_alloc_last (w.alloc (.cells Z 43)) (.cells Z 43) (w.heap.size + 1) (by simp)) Tryd.underlying43 rfl zi
    clear hno2 hX hk1
    go_wp2_with (first | (refine wpList_load_at rfl _ _ rfl _ _ rfl L ?_) | (refine wpList_store_row rfl 43 _ _ rfl w.heap.size Z rfl rfl 43 Z hk0 zi rfl z1 ?_))
    refine bodyPost_ret (results_cell_tmp rfl _ _ w.heap.size 43 Z (0, 0) _ rfl (setRow_heap _ _ _ _ _ _ hk0) Tryd.underlying43 rfl zi) rfl ?_
    rw [HX.out.1, HX.out.2, ← HZ.out]
    exact ⟨rfl, below_setRow HK.out.2.2 (Nat.le_refl _) _⟩
end Go.Proofs.YtifoledkmjlmoaaDoor
