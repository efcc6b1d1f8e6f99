/-
  The law ManifestSome, walked.
-/
import Derived.Test.YtifoledkmjlmoaaDoorBy18
import Derived.Test.YtifoledkmjlmoaaDoorKnown18
import Derived.Test.YtifoledkmjlmoaaDoorManifestBackWalk
namespace Go.Proofs.YtifoledkmjlmoaaDoor
open Go.RowKit Go.Mix Go.WideMaps

theorem u64_modM (n : Int) (K : Nat) (h0 : 0 < K) (h1 : K ≤ 9223372036854775807) : ∃ m : Nat, m < K ∧ wrap64 ((IntKind.u64.wrap n).tmod K) = (m : Int) := by
  have hw : IntKind.u64.wrap n = n % 18446744073709551616 := IntKind.wrap_u64 n
  have h2 : 0 ≤ n % 18446744073709551616 := Int.emod_nonneg _ (by decide)
  obtain ⟨u, hu⟩ := Int.eq_ofNat_of_zero_le h2
  refine ⟨u % K, Nat.mod_lt _ h0, ?_⟩
  rw [hw, hu, Int.tmod_eq_emod_of_nonneg (by omega), show ((u : Int) % (K : Int)) = ((u % K : Nat) : Int) from rfl, IntWalk.wrap64_in _ ⟨by omega, by have := Nat.mod_lt u h0; omega⟩]

set_option maxRecDepth 100000 in
set_option maxHeartbeats 4000000 in
theorem manifestSome_walk (a0 : Option Addr) (len0 cap0 : Nat) (l : List MFile) (a1 : Option Addr) (len1 cap1 : Nat) (m : List MFile) (a2 : Option Addr) (len2 cap2 : Nat) (B : Nat → Bool) (cut : Int) (w : World)
    (hl0 : l.length = len0) (h0 : RsAt encM 22 w a0 cap0 l) (hx0 : ∀ p ∈ l, p.path.length ≤ 9223372036854775807 ∧ p.flag.length ≤ 9223372036854775807)
    (hl1 : m.length = len1) (h1 : RsAt encM 22 w a1 cap1 m) (hx1 : ∀ p ∈ m, p.path.length ≤ 9223372036854775807 ∧ p.flag.length ≤ 9223372036854775807)
    (h2 : len2 ≤ 9223372036854775807 ∧ (len2 = 0 ∨ ∃ y, a2 = some y ∧ ∀ i, i < len2 → w.cell? (y.add i) = some (.bool (B i)))) (_hc : (Lit.int .i64 cut).wf = true) :
    Calls Tryd.prog 6 #[.slice a0 len0 cap0, .slice a1 len1 cap1, .slice a2 len2 cap2, .int .i64 cut] w fun e w' => e = .returned (.bool true) ∧ Below w.heap.size w w' := by
  have C1 := few_any h0 hx0
  rw [hl0] at C1
  have HF := Lib.hid (And.intro (few_ok l) (few_wf l))
  have HG := Lib.hid (And.intro (few_ok m) (few_wf m))
  have H0 := Lib.hid (And.intro hl1 (And.intro h1 (And.intro hx1 h2)))
  clear hl0 h0 hx0 hl1 h1 hx1 h2
  generalize fewL l = X at *
  go_enter Tryd.func6, Tryd.ntmps6
  go_wp2_with fail
  refine C1.mono ?_
  clear C1
  rintro e w1 ⟨v, rfl, hown⟩
  obtain ⟨v1, c1, rfl, hrs, -⟩ := hown.rs tyM
  have C2 := few_any (H0.out.2.1.below hown.frame) H0.out.2.2.1
  rw [H0.out.1] at C2
  have H1 := Lib.hid (And.intro hown.frame hrs)
  clear hown hrs
  generalize fewL m = Y at *
  obtain ⟨nx, hnx⟩ : ∃ n, n = X.length := ⟨_, rfl⟩
  have HNX := Lib.hid hnx
  rw [← hnx]
  clear hnx
  go_wp2_with fail
  refine C2.mono ?_
  clear C2
  rintro e w2 ⟨v, rfl, hown⟩
  obtain ⟨v2, c2, rfl, hrs, -⟩ := hown.rs tyM
  obtain ⟨ny, hny⟩ : ∃ n, n = Y.length := ⟨_, rfl⟩
  have hx2 := H1.out.2.below hown.frame
  have C3 := diff_any hx2 hrs (by have := HF.out.1.1; omega) (by have := HG.out.1.1; omega) HF.out.2 HG.out.2
  rw [← HNX.out, ← hny] at C3
  have H2 := Lib.hid (And.intro (H1.out.1.trans (hown.frame.mono H1.out.1.size)) (And.intro hx2 (And.intro hrs hny)))
  rw [← hny]
  clear hown hrs hx2 hny
  go_wp2_with fail
  refine C3.mono ?_
  clear C3
  rintro e w3 ⟨v, rfl, hd3⟩
  obtain ⟨v3, c3, rfl, hr3, -⟩ := hd3.rs1 tyS
  have C4 := diff_any (H2.out.2.2.1.below hd3.frame) (H2.out.2.1.below hd3.frame) (by have := HG.out.1.1; omega) (by have := HF.out.1.1; omega) HG.out.2 HF.out.2
  rw [diffL_symm Y X, ← HNX.out, ← H2.out.2.2.2] at C4
  obtain ⟨DL, hDL⟩ : ∃ DL, DL = diffL X Y := ⟨_, rfl⟩
  rw [← hDL] at C4 hr3 ⊢
  obtain ⟨nd, hnd⟩ : ∃ n, n = DL.length := ⟨_, rfl⟩
  have H3 := Lib.hid (And.intro (H2.out.1.trans (hd3.frame.mono H2.out.1.size)) (And.intro (H2.out.2.1.below hd3.frame) (And.intro hr3 hnd)))
  have hnd6 : nd ≤ 80 := by have := diffL_len X Y; have := HF.out.1.1; have := HG.out.1.1; rw [hnd, hDL]; omega
  rw [← hnd]
  clear hd3 hr3 hnd hDL
  go_wp2_with fail
  refine C4.mono ?_
  clear C4
  rintro e w4 ⟨v, rfl, hd4⟩
  obtain ⟨v4, c4, rfl, hr4, -⟩ := hd4.rs1 tyS
  rw [← H3.out.2.2.2]
  have H4 := Lib.hid (And.intro (H3.out.1.trans (hd4.frame.mono H3.out.1.size)) (And.intro (H3.out.2.1.below hd4.frame) (And.intro (H3.out.2.2.1.below hd4.frame) hr4)))
  clear hd4 hr4
  have HDL := Lib.hid H3.out.2.2.2
  go_wp2_with fail
  go_loopw [13] (fun s13 wr => ∃ i : Nat, s13 = .int .i64 (i : Int) ∧ i ≤ nd ∧ Below w4.heap.size w4 wr) (fun s13 _ => nd - (intOf s13).toNat)
  case atStart => exact ⟨0, rfl, Nat.zero_le _, Below.refl _ _⟩
  case round =>
    obtain ⟨i, rfl, hi, hbr⟩ := hrel
    have HBR := Lib.hid hbr
    by_cases hin : i < nd
    · have t1 : decide ((i : Int) < (nd : Int)) = true := decide_eq_true (by omega)
      have t1' : decide (i < nd) = true := decide_eq_true hin
      have hil : i < DL.length := by rw [← HDL.out]; exact hin
      obtain ⟨b1, q1, I1, R1, -⟩ := (H4.out.2.2.1.below hbr).at1 tyS (i : Int) i rfl hil
      obtain ⟨b2, q2, I2, R2, -⟩ := (H4.out.2.2.2.below hbr).at1 tyS (i : Int) i rfl hil
      rw [← HDL.out] at I1 I2
      have k1 : wr.cell? ⟨b1, q1, none⟩ = some (.string (strOf DL[i]!)) := R1 0 _ rfl
      have k2 : wr.cell? ⟨b2, q2, none⟩ = some (.string (strOf DL[i]!)) := R2 0 _ rfl
      generalize strOf DL[i]! = T at *
      have L1 : ∀ y : Later wr, y.1.cell? ⟨b1, q1, none⟩ = some (.string T) := fun y => load_later k1 y
      have L2 : ∀ y : Later wr, y.1.cell? ⟨b2, q2, none⟩ = some (.string T) := fun y => load_later k2 y
      have ET : (T.toList != T.toList) = false := by simp
      clear R1 R2 k1 k2 hil hbr
      go_upto_region 8 with (fail)
      refine wp_region_mg [(0, 0), (1, 0), (2, 0), (3, 0), (4, 0), (5, 0), (6, 0), (7, 0), (8, 0)] (by kernel_rfl) (by kernel_rfl) ?_
      iterate 9 (refine mg_calm rfl (fun K hK => ?_); go_simp; (refine hK _ ?_; clear hK K))
      refine mg_nil fun w7 hw7 => ?_
      have H7 := Lib.hid (HBR.out.trans (hw7.mono HBR.out.size))
      clear hw7 L1 L2 I1 I2
      go_wp2_with fail
      go_roundw
      case rel => exact ⟨i + 1, by go_num, by omega, H7.out⟩
      case measure => simp [intOf]; omega
    · obtain rfl : i = nd := by omega
      have t1 : decide ((i : Int) < (i : Int)) = false := decide_eq_false (by omega)
      have t1' : decide (i < i) = false := decide_eq_false (by omega)
      have CP := print_any (H4.out.2.1.below hbr) (by have := HF.out.1.1; omega) (fun p hp => by have := HF.out.1.2 p hp; omega)
      rw [← HNX.out] at CP
      clear hbr
      go_wp2_with fail
      refine CP.mono ?_
      clear CP
      rintro e w5 ⟨hyes, hno, hw5⟩
      have H5 := Lib.hid (And.intro (H4.out.1.trans ((HBR.out.trans (hw5.mono HBR.out.size)).mono H4.out.1.size)) ((H4.out.2.1.below HBR.out).below hw5))
      clear hw5
      by_cases hR : RightM X
      · obtain ⟨bp, cp, rfl, hsp⟩ := hyes hR
        clear hyes hno
        obtain ⟨nt, hnt⟩ : ∃ n, n = (textM X).length := ⟨_, rfl⟩
        have H6 := Lib.hid (And.intro hsp hnt)
        rw [← hnt]
        clear hsp hnt
        go_wp2_with fail
        refine (known_any _).mono ?_
        rintro e w7 ⟨rfl, hw7⟩
        have H7 := Lib.hid (And.intro (H5.out.1.trans (hw7.mono H5.out.1.size)) (And.intro (H5.out.2.below hw7) (H6.out.1.below hw7)))
        clear hw7
        go_wp2_with fail
        go_loopw [16, 17] (fun s16 s17 wr => ∃ (j : Nat) (v : Value) (Z : List MFile), v = s16 ∧ s17 = .int .i64 (j : Int) ∧ j ≤ nx ∧ OwnR encM 22 46 w7 wr v Z ∧ Z.Sublist (X.take j)) (fun _ s17 _ => nx - (intOf s17).toNat)
        case atStart => exact ⟨0, _, [], rfl, rfl, Nat.zero_le _, OwnR.nil (Below.refl _ _), List.nil_sublist _⟩
        case round =>
          obtain ⟨j, v, Z, rfl, rfl, hj, hrow, hsub⟩ := hrel
          have hnx6 : nx ≤ 40 := by rw [HNX.out]; exact HF.out.1.1
          by_cases hjn : j < nx
          · have t1 : decide ((j : Int) < (nx : Int)) = true := decide_eq_true (by omega)
            have t1' : decide (j < nx) = true := decide_eq_true hjn
            have hil : j < X.length := by rw [← HNX.out]; exact hjn
            have hsub2 : (X.take j).Sublist (X.take (j + 1)) := by rw [take_succM hil]; exact List.sublist_append_left _ _
            have hsub3 : (Z ++ [X[j]!]).Sublist (X.take (j + 1)) := by rw [take_succM hil]; exact hsub.append (List.Sublist.refl _)
            have HSUB := Lib.hid (And.intro (hsub.trans hsub2) hsub3)
            have hml : Z.length + 1 ≤ 1000000000 := by
              have := hsub.length_le
              have := HF.out.1.1
              rw [List.length_take] at *
              omega
            have HML := Lib.hid hml
            clear hsub hsub2 hsub3 hml
            by_cases hi1 : j < len2
            · have t2 : decide ((j : Int) < (len2 : Int)) = true := decide_eq_true (by omega)
              have t2' : decide (j < len2) = true := decide_eq_true hi1
              obtain ⟨y, rfl, hcell⟩ : ∃ y, a2 = some y ∧ ∀ i, i < len2 → w.cell? (y.add i) = some (.bool (B i)) := by
                rcases H0.out.2.2.2.2 with h | h
                · omega
                · exact h
              have IXB : ∀ W : World, (Instr.indexAt 40 (.slice (some y) len2 cap2) (.int .i64 (j : Int))).run Tryd.prog W = .ok (.pointer (some (y.add j))) W := fun W => by
                have he : Tryd.prog.elem 40 = 4 := by simp [Program.elem, Tryd.underlying40]
                have hs : (sizeOf 4).run Tryd.prog W = .ok 1 W := by kernel_rfl
                rw [run_indexAt_slice W 40 y len2 cap2 .i64 (j : Int) (by rw [he]; exact Tryd.underlying40), if_pos ⟨by omega, by omega⟩, he, hs]
                simp [Result.andThen]
              have hc := hcell j hi1
              have hcr : wr.cell? (y.add j) = some (.bool (B j)) := ((H7.out.1.trans (hrow.frame.mono H7.out.1.size)).cell (lt_of_cell hc)).trans hc
              clear hc hcell
              have LB : (Instr.loadAt 4 (.pointer (some (y.add j)))).run Tryd.prog wr = .ok (.bool (B j)) wr := by
                generalize y.add j = ya at *
                clear IXB t1 t1' t2 t2'
                go_simp
              generalize y.add j = ya at *
              generalize B j = d at *
              clear hcr
              cases d
              · have HROW := Lib.hid hrow
                clear hrow
                go_wp2_with (first | (refine wpList_load_at rfl _ _ rfl _ _ rfl LB ?_) | (refine wpList_load_g rfl _ _ rfl _ _ rfl LB ?_))
                go_roundw
                case rel => exact ⟨j + 1, v, Z, rfl, by go_num, by omega, HROW.out, HSUB.out.1⟩
                case measure => simp [intOf]; omega
              · obtain ⟨b2, q2, IX, -, LW⟩ := (H7.out.2.1.below hrow.frame).at tyM (j : Int) j rfl hil
                rw [← HNX.out] at IX
                have L6 := LW wr (Below.refl _ _)
                obtain ⟨p, hp⟩ : ∃ p, p = X[j]! := ⟨_, rfl⟩
                rw [← hp] at L6
                have HP := Lib.hid hp
                have S1 := tyM.slice1 p wr
                have hp9 := RsAt.one (enc := encM) (L := 22) wr 46 p
                have hrow9 := hrow.later ((Below.refl _ _).alloc (Nat.le_refl _) (.cells (recA encM p) 46))
                have H9 := Lib.hid (And.intro hp9 hrow9)
                clear hp9 hrow9 hrow LW hp hil
                go_wp2_with (first | (refine wpList_load_at rfl _ _ rfl _ _ rfl LB ?_) | (refine wpList_load_g rfl _ _ rfl _ _ rfl LB ?_) | (refine wpList_load_at rfl _ _ rfl _ _ rfl L6 ?_) | (refine wpList_buildSlice_at rfl _ _ _ rfl [(0, .agg (recA encM p))] _ rfl S1 ?_) | (refine wpList_append_r tyM rfl (.tmp 83) (.tmp 88) rfl _ Z rfl H9.out.2 (some ⟨wr.heap.size, 0, none⟩) 1 1 [p] rfl rfl H9.out.1 HML.out ?_; intro v8 w8 hb8 hg8 hn8; have H8 := Lib.hid hb8; clear hb8 hg8 hn8 L6 S1))
                go_roundw
                case rel => exact ⟨j + 1, _, Z ++ [p], rfl, by go_num, by omega, H8.out, by rw [HP.out]; exact HSUB.out.2⟩
                case measure => simp [intOf]; omega
            · have t2 : decide ((j : Int) < (len2 : Int)) = false := decide_eq_false (by omega)
              have t2' : decide (j < len2) = false := decide_eq_false hi1
              have HROW := Lib.hid hrow
              clear hrow
              go_wp2_with fail
              go_roundw
              case rel => exact ⟨j + 1, v, Z, rfl, by go_num, by omega, HROW.out, HSUB.out.1⟩
              case measure => simp [intOf]; omega
          · have hjn2 : j = nx := by omega
            subst hjn2
            have t1 : decide ((j : Int) < (j : Int)) = false := decide_eq_false (by omega)
            have t1' : decide (j < j) = false := decide_eq_false (by omega)
            have hsA : Z.Sublist X := by rw [HNX.out, List.take_of_length_le (Nat.le_refl _)] at hsub; exact hsub
            obtain ⟨v8, c8, rfl, hrs8, -⟩ := hrow.rs tyM
            have HM := Lib.hid (And.intro (hR.sub hsA) (And.intro (Nat.le_trans hsA.length_le HF.out.1.1) (fun p (hp : p ∈ Z) => HF.out.1.2 p (hsA.subset hp))))
            have HMR0 := Lib.hid hrs8
            obtain ⟨ml, hml⟩ : ∃ ml, ml = Z.length := ⟨_, rfl⟩
            have HML := Lib.hid hml
            rw [← hml]
            have hA8 := H7.out.2.1.below hrow.frame
            have HS8 := Lib.hid (H7.out.2.2.below hrow.frame)
            have HOUT := Lib.hid (H7.out.1.trans (hrow.frame.mono H7.out.1.size))
            clear hsA hsub hrow hrs8 hml
            obtain ⟨k, hk, ek⟩ := u64_modM cut (j + 1) (by omega) (by omega)
            obtain ⟨K, hK⟩ : ∃ K, K = j + 1 := ⟨_, rfl⟩
            rw [← hK] at hk ek
            have en : IntKind.u64.wrap (K : Int) = (K : Int) := by rw [IntKind.wrap_u64]; omega
            have en2 : IntKind.i64.wrap ((j : Int) + 1) = (K : Int) := by rw [IntKind.wrap_i64]; omega
            have en3 : wrap64 ((j : Int) + 1) = (K : Int) := by rw [IntWalk.wrap64_in _ ⟨by omega, by omega⟩]; omega
            have en0 : ¬ (K : Int) = 0 := by omega
            have hki : k ≤ j := by omega
            have hkA : k ≤ X.length := by rw [← HNX.out]; exact hki
            have SLT := hA8.to tyM hkA (k : Int) rfl
            obtain ⟨a2, c2, SLF, hd8⟩ := hA8.from tyM hkA (k : Int) rfl
            rw [← HNX.out] at SLT SLF
            have hT : RightM (X.take k) := hR.sub (List.take_sublist _ _)
            have hD : RightM (X.drop k) := hR.sub (List.drop_sublist _ _)
            have CP1 := print_any (hA8.take k) (by rw [List.length_take]; have := HF.out.1.1; omega) (fun p hp => by have := HF.out.1.2 p (List.mem_of_mem_take hp); omega)
            have htl : (X.take k).length = k := by rw [List.length_take]; omega
            have hdl : (X.drop k).length = j - k := by rw [List.length_drop, ← HNX.out]
            rw [htl] at CP1
            have hbb : textM (X.take k) ++ textM (X.drop k) = textM X := by unfold textM; rw [← List.flatMap_append, List.take_append_drop]
            have HD8 := Lib.hid (And.intro hd8 (And.intro hD (And.intro hdl (And.intro hT hbb))))
            clear hK hk hA8 hd8 hT hD htl hdl hkA hbb
            go_wp2_with fail
            refine CP1.mono ?_
            clear CP1
            rintro e w9 ⟨hyes, -, hw9⟩
            obtain ⟨b9, c9, rfl, hs9⟩ := hyes HD8.out.2.2.2.1
            have CP2 := print_any (HD8.out.1.below hw9) (by rw [HD8.out.2.2.1]; omega) (fun p hp => by have := HF.out.1.2 p (List.mem_of_mem_drop hp); omega)
            rw [HD8.out.2.2.1] at CP2
            have H9 := Lib.hid (And.intro hs9 (And.intro (HOUT.out.trans (hw9.mono HOUT.out.size)) (And.intro (HS8.out.below hw9) (HMR0.out.below hw9))))
            obtain ⟨n9, hn9⟩ : ∃ n, n = (textM (X.take k)).length := ⟨_, rfl⟩
            have HN9 := Lib.hid hn9
            rw [← hn9]
            clear hyes hs9 hw9 hn9
            go_wp2_with fail
            refine CP2.mono ?_
            clear CP2
            rintro e w10 ⟨hyes, -, hw10⟩
            obtain ⟨b10, c10, rfl, hs10⟩ := hyes HD8.out.2.1
            have CP3 := print_any (H9.out.2.2.2.below hw10) (by have := HM.out.2.1; omega) (fun p hp => by have := HM.out.2.2 p hp; omega)
            rw [← HML.out] at CP3
            have H10 := Lib.hid (And.intro hs10 (And.intro (H9.out.1.below hw10) (And.intro (H9.out.2.1.trans (hw10.mono H9.out.2.1.size)) (H9.out.2.2.1.below hw10))))
            obtain ⟨n10, hn10⟩ : ∃ n, n = (textM (X.drop k)).length := ⟨_, rfl⟩
            have HN10 := Lib.hid hn10
            rw [← hn10]
            clear hyes hs10 hw10 hn10
            go_wp2_with fail
            refine CP3.mono ?_
            clear CP3
            rintro e w11 ⟨hyes, -, hw11⟩
            obtain ⟨b11, c11, rfl, hs11⟩ := hyes HM.out.1
            clear hyes hs11
            have STd := (H10.out.1.below hw11).str
            have STa := (H10.out.2.1.below hw11).str
            have STp := (H10.out.2.2.2.below hw11).str
            have H11 := Lib.hid (H10.out.2.2.1.trans (hw11.mono H10.out.2.2.1.size))
            clear hw11
            rw [← HN10.out] at STd
            rw [← HN9.out] at STa
            rw [← H6.out.2] at STp
            have A : ∀ W, (Op.stringOp .add (strOf (textM (X.take k))) (strOf (textM (X.drop k)))).run Tryd.prog W = .ok (.string (strOf (textM X))) W := fun W => by
              have l1 := textM_len 300 X (fun p hp => by have := HF.out.1.2 p hp; omega)
              have l2 := Nat.mul_le_mul_left (2 * 300 + 42) HF.out.1.1
              have l3 := congrArg List.length HD8.out.2.2.2.2
              rw [List.length_append] at l3
              have := Go.run_string_add_lists (P := Tryd.prog) W (textM (X.take k)) (textM (X.drop k)) (by omega) (by omega)
              rw [HD8.out.2.2.2.2] at this
              exact this
            have EJ : ((strOf (textM X)).toList == (strOf (textM X)).toList) = true := beq_self_eq_true _
            change (convert _ _ _).run _ _ = .ok (.string (strOf (textM X))) _ at STp
            change (convert _ _ _).run _ _ = .ok (.string (strOf (textM (X.take k)))) _ at STa
            change (convert _ _ _).run _ _ = .ok (.string (strOf (textM (X.drop k)))) _ at STd
            generalize strOf (textM X) = T0 at *
            generalize strOf (textM (X.take k)) = T1 at *
            generalize strOf (textM (X.drop k)) = T2 at *
            obtain ⟨n11, hn11⟩ : ∃ n, n = (textM Z).length := ⟨_, rfl⟩
            rw [← hn11]
            clear hn11 SLT SLF ek en en2 en3 en0
            go_wp2_with fail
            go_ret
            exact ⟨rfl, H11.out⟩
      · obtain rfl := hno hR
        clear hyes hno
        go_wp2_with fail
        refine (known_any _).mono ?_
        rintro e w6 ⟨rfl, hw6⟩
        have H6 := Lib.hid (H5.out.1.trans (hw6.mono H5.out.1.size))
        clear hw6
        go_wp2_with fail
        refine (known_any _).mono ?_
        rintro e w7 ⟨rfl, hw7⟩
        have H7 := Lib.hid (H6.out.trans (hw7.mono H6.out.size))
        clear hw7
        go_wp2_with fail
        go_ret
        exact ⟨rfl, H7.out⟩
end Go.Proofs.YtifoledkmjlmoaaDoor
