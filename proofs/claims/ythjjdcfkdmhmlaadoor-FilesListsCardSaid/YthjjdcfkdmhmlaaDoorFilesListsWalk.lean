/-
  The law FilesLists, walked.
-/
import Derived.Test.YthjjdcfkdmhmlaaDoorFlPure
import Derived.Test.YthjjdcfkdmhmlaaDoorStrOps
namespace Go.Proofs.YthjjdcfkdmhmlaaDoor
open Go.RowKit Go.Mix Go.WideMaps Go.Maps

theorem text_cell {w : World} {b q : Nat} {x : Bytes} (h : w.rangeAt b q (encS x)) : w.cell? ⟨b, q, none⟩ = some (.string (strOf x)) := h 0 _ rfl
theorem one_b (w : World) : Sl (w.alloc (.cells #[.int .u8 120] 5 (1, 2))) (some ⟨w.heap.size, 0, none⟩) 1 [120] := const_bytes w [120] (by decide) (1, 2)

set_option maxRecDepth 100000 in
set_option maxHeartbeats 4000000 in
theorem filesLists_walk (a : Option Addr) (len cap : Nat) (l : List Bytes) (a1 : ByteArray) (w : World)
    (hl : l.length = len) (h : RsAt encS 1 w a cap l) (hx : ∀ p ∈ l, p.length ≤ 9223372036854775807) (h1 : a1.size ≤ maxLen) :
    Calls Tryd.prog 4 #[.slice a len cap, .string a1] w fun e w' => e = .returned (.bool true) ∧ Below w.heap.size w w' := by
  have kc := run_convert_const (P := Tryd.prog) 28 5 Tryd.underlying28 Tryd.underlying5
  obtain ⟨U0, rfl⟩ : ∃ U, a1 = strOf U := ⟨a1.data.toList, by unfold strOf; rw [Array.toArray_toList]⟩
  rw [strOf_size] at h1
  obtain ⟨q, hq⟩ : ∃ q, q = min U0.length 300 := ⟨_, rfl⟩
  obtain ⟨nu, hnu⟩ : ∃ nu, nu = U0.length := ⟨_, rfl⟩
  have MR := min_run (nu : Int) 300 q (by split <;> omega)
  have SU := str_to Tryd.underlying9 U0 (i := q) (by omega)
  obtain ⟨U, hU⟩ : ∃ U, U = U0.take q := ⟨_, rfl⟩
  have hUl : U.length = q := by rw [hU, List.length_take]; omega
  have hsz0 : (strOf U0).size = nu := by rw [strOf_size, hnu]
  have hsz : (strOf U).size = q := by rw [strOf_size, hUl]
  rw [← hU] at SU
  have HU := Lib.hid (And.intro hUl (show U.length ≤ 300 by omega))
  obtain ⟨XU, hXU⟩ : ∃ XU, XU = strOf U := ⟨_, rfl⟩
  have HXU := Lib.hid hXU
  have HL := Lib.hid (And.intro hl (And.intro h hx))
  rw [← hXU] at SU hsz
  clear hl h hx hU hUl hq hnu hXU h1
  generalize strOf U0 = XU0 at *
  have CN := new_live 1048576 w
  go_enter Tryd.func4, Tryd.ntmps4
  go_wp2_with fail
  refine CN.mono ?_
  clear CN
  rintro e w2 ⟨p, own2, rfl, l2⟩
  have L2 := Lib.hid l2
  clear l2
  go_wp2_with fail
  clear SU MR hsz0
  go_loopw [6, 7] (fun s6 s7 wr => ∃ (i n : Nat) (own' : Owns) (S : StP), s6 = .int .i64 (n : Int) ∧ s7 = .int .i64 (i : Int) ∧ i ≤ 60 ∧ n ≤ i ∧ Live w.heap.size w own' wr p S ∧ OnesP S n ∧ OkS (2 * i) S) (fun _ s7 _ => 60 - (intOf s7).toNat)
  case atStart => exact ⟨0, 0, own2, _, rfl, rfl, by omega, Nat.le_refl _, L2.out, OnesP.new, OkS.new 1048576 ⟨by decide, by decide⟩⟩
  case round =>
    obtain ⟨i, n, own3, S3, rfl, rfl, hi, hn, l3, o3, ok3⟩ := hrel
    have H3 := Lib.hid (And.intro l3 (And.intro o3 ok3))
    clear l3 o3 ok3
    obtain ⟨B, hB⟩ : ∃ B, B = (decide (i < len) && decide (i < 60)) := ⟨_, rfl⟩
    have HB := Lib.hid hB
    clear hB
    go_upto_region 5 with (fail)
    go_cut [29] from 22 to 29 (fun s29 wx => s29 = .bool B ∧ wr = wx)
    case first =>
      have hB := HB.out
      by_cases c1 : i < len
      · have t1 : decide ((i : Int) < (len : Int)) = true := decide_eq_true (by omega)
        have t1' : decide (i < len) = true := decide_eq_true c1
        by_cases c2 : i < 60
        · have t2 : decide ((i : Int) < 60) = true := decide_eq_true (by omega)
          have t2' : decide (i < 60) = true := decide_eq_true c2
          rw [t1', t2'] at hB
          subst hB
          go_wp2_with fail
          go_meet
          exact ⟨rfl, rfl⟩
        · have t2 : decide ((i : Int) < 60) = false := decide_eq_false (by omega)
          have t2' : decide (i < 60) = false := decide_eq_false c2
          rw [t1', t2'] at hB
          subst hB
          go_wp2_with fail
          go_meet
          exact ⟨rfl, rfl⟩
      · have t1 : decide ((i : Int) < (len : Int)) = false := decide_eq_false (by omega)
        have t1' : decide (i < len) = false := decide_eq_false c1
        rw [t1'] at hB
        obtain rfl : B = false := hB
        go_wp2_with fail
        go_meet
        exact ⟨rfl, rfl⟩
    case rest =>
      obtain ⟨rfl, rfl⟩ := hcut
      cases B
      case true =>
        have hB := HB.out
        have c1 : i < len := Classical.byContradiction fun c => by rw [decide_eq_false c] at hB; cases hB
        have hi6 : i < 60 := Classical.byContradiction fun c => by rw [decide_eq_false c, Bool.and_false] at hB; cases hB
        have hil : i < l.length := by rw [HL.out.1]; exact c1
        obtain ⟨b, o, IX, R, -⟩ := (HL.out.2.1.below H3.out.1.frame).at1 tyS (i : Int) i rfl hil
        have hxl := HL.out.2.2 l[i]! (by rw [getElem!_pos l i hil]; exact List.getElem_mem hil)
        rw [HL.out.1] at IX
        generalize l[i]! = x at R hxl
        have LC : ∀ y : Later wr, y.1.cell? ⟨b, o, none⟩ = some (.string (strOf x)) := fun y => load_later (text_cell R) y
        obtain ⟨nx, hnx⟩ : ∃ nx, nx = x.length := ⟨_, rfl⟩
        obtain ⟨j, hj⟩ : ∃ j, j = min nx 300 := ⟨_, rfl⟩
        have MX := min_run (nx : Int) 300 j (by split <;> omega)
        have SX := str_to Tryd.underlying9 x (i := j) (by omega)
        have hszx : (strOf x).size = nx := by rw [strOf_size, hnx]
        obtain ⟨y, hy⟩ : ∃ y, y = x.take j := ⟨_, rfl⟩
        have hyl : y.length ≤ 300 := by rw [hy, List.length_take]; omega
        rw [← hy] at SX
        generalize strOf x = X at *
        have HY := Lib.hid hyl
        clear hB hil c1 R hxl hnx hj hy hyl HB
        go_upto_region 7 with (fail)
        refine wp_region_mg [(0, 0), (1, 0), (2, 0), (3, 0), (4, 0), (5, 0), (6, 0), (7, 0), (8, 0), (9, 0), (10, 0), (11, 0)] (by kernel_rfl) (by kernel_rfl) ?_
        iterate 10 (refine mg_calm rfl (fun K hK => ?_); go_simp; (refine hK _ ?_; clear hK K))
        refine mg_slice rfl rfl _ _ _ _ _ rfl _ _ _ _ _ rfl rfl rfl rfl SX ?_
        iterate 1 (refine mg_calm rfl (fun K hK => ?_); go_simp; (refine hK _ ?_; clear hK K))
        refine mg_nil fun w4 hw4 => ?_
        have l4 := H3.out.1.below hw4
        have C4 := read_at l4.at_ H3.out.2.2 (by omega) y (by have := HY.out; omega)
        have H4 := Lib.hid l4
        clear l4 hw4 IX LC MX SX hszx
        go_wp2_with fail
        refine C4.mono ?_
        clear C4
        rintro e w5 ⟨hsome, hnone, hb5⟩
        obtain ⟨v, x5, e5, hv⟩ : ∃ v x, e = .returned (.tuple #[v, .int .i64 x]) ∧ ((x = 0 ∧ getF S3.files y ≠ none) ∨ (x = 6 ∧ getF S3.files y = none)) := by
          cases hg : getF S3.files y with
          | none => exact ⟨_, _, hnone hg, .inr ⟨rfl, rfl⟩⟩
          | some f =>
            obtain ⟨v, e1, -⟩ := hsome f hg
            exact ⟨v, 0, e1, .inl ⟨rfl, by simp⟩⟩
        subst e5
        have b5 := one_b w5
        have l5 := H4.out.below hb5
        have l5b := l5.below ((Below.refl _ _).alloc (Nat.le_refl _) (.cells #[.int .u8 120] 5 (1, 2)))
        have C5 := write_at l5b.at_ H3.out.2.2 (by omega) y (by have := HY.out; omega) 0 ⟨by decide, by decide⟩ (nb := 1) b5 rfl (by decide) (fun x hx => by injection hx with hx; rw [← hx]; exact l5.not_new (Nat.le_refl _))
        have H5 := Lib.hid l5b
        have HV := Lib.hid hv
        obtain ⟨r, hr⟩ : ∃ r, r = writeS S3 y 0 [120] := ⟨_, rfl⟩
        have HW := Lib.hid (H3.out.2.1.write (by omega) y)
        have HO := Lib.hid (H3.out.2.2.write y 0 [120])
        rw [← hr] at C5 HW HO
        clear l5 l5b b5 hsome hnone hb5 hv hr
        go_wp2_with fail
        refine C5.mono ?_
        clear C5
        rintro e w6 hleft
        obtain ⟨rfl, own6, l6⟩ := H5.out.left hleft
        have H6 := Lib.hid l6
        clear l6 hleft
        obtain ⟨S6, m⟩ := r
        have t6 : IntKind.i64.wrap ((n : Int) + 1) = (n : Int) + 1 := IntWalk.i64_in _ (by omega)
        rcases HW.out with ⟨hm, ho⟩ | ⟨hm, hs⟩
        · obtain rfl : m = 0 := hm
          change OnesP S6 _ at ho
          rcases HV.out with ⟨rfl, hg⟩ | ⟨rfl, hg⟩
          · rw [if_neg hg] at ho
            have HO6 := Lib.hid ho
            clear ho hg
            go_wp2_with fail
            go_roundw
            case rel => exact ⟨i + 1, n, own6, S6, rfl, by go_num, by omega, by omega, H6.out, HO6.out, HO.out.mono (by simp; omega)⟩
            case measure => simp [intOf]; omega
          · rw [if_pos hg] at ho
            have HO6 := Lib.hid ho
            clear ho hg
            go_wp2_with fail
            go_roundw
            case rel => exact ⟨i + 1, n + 1, own6, S6, by go_num, by go_num, by omega, by omega, H6.out, HO6.out, HO.out.mono (by simp; omega)⟩
            case measure => simp [intOf]; omega
        · change S6 = S3 at hs
          change m ≠ 0 at hm
          subst hs
          have t7 : (m == 0) = false := beq_false_of_ne hm
          clear hm
          go_wp2_with fail
          go_roundw
          case rel => exact ⟨i + 1, n, own6, S6, rfl, by go_num, by omega, by omega, H6.out, H3.out.2.1, H3.out.2.2.mono (by omega)⟩
          case measure => simp [intOf]; omega
      case false =>
        obtain ⟨KS, hKS⟩ : ∃ KS, KS = keysF S3.files := ⟨_, rfl⟩
        have hKn : KS.length = n := by rw [hKS, keys_len, H3.out.2.1.len]
        have C4 := list_at H3.out.1.at_ H3.out.2.2 []
        rw [listS_all, ← hKS, hKn] at C4
        have HK := Lib.hid (And.intro hKS hKn)
        clear hKS hKn HB
        go_wp2_with fail
        refine C4.mono ?_
        clear C4
        rintro e w4 ⟨a4, c4, rfl, hr4, hb4⟩
        have l4 := H3.out.1.below hb4
        have C5 := list_at l4.at_ H3.out.2.2 U
        obtain ⟨FS, hFS⟩ : ∃ FS, FS = KS.filter fun p => U.isPrefixOf p := ⟨_, rfl⟩
        change Calls _ _ _ _ (fun e w' => ∃ a c, e = .returned (.slice a ((keysF S3.files).filter fun p => U.isPrefixOf p).length c) ∧ RsAt encS 1 w' a c ((keysF S3.files).filter fun p => U.isPrefixOf p) ∧ Below w4.heap.size w4 w') at C5
        obtain ⟨m, hm⟩ : ∃ m, m = FS.length := ⟨_, rfl⟩
        rw [← HK.out.1, ← hFS, ← hm, ← HXU.out] at C5
        have H4 := Lib.hid (And.intro l4 hr4)
        have HF := Lib.hid (And.intro hFS hm)
        clear l4 hr4 hb4 hFS hm
        go_wp2_with fail
        refine C5.mono ?_
        clear C5
        rintro e w5 ⟨a5, c5, rfl, hr5, hb5⟩
        have H5 := Lib.hid (And.intro (H4.out.1.below hb5) (And.intro (H4.out.2.below hb5) hr5))
        clear hr5 hb5
        go_wp2_with fail
        go_loopw [14, 15] (fun s14 s15 wx => ∃ i k : Nat, s14 = .int .i64 (k : Int) ∧ s15 = .int .i64 (i : Int) ∧ i ≤ n ∧ k = ((KS.take i).filter fun p => U.isPrefixOf p).length ∧ Below w5.heap.size w5 wx) (fun _ s15 _ => n - (intOf s15).toNat)
        case atStart => exact ⟨0, 0, rfl, rfl, Nat.zero_le _, by simp, Below.refl _ _⟩
        case round =>
          obtain ⟨i2, k, rfl, rfl, hi2, hk, hbx⟩ := hrel
          have HX := Lib.hid (And.intro hk hbx)
          clear hk hbx
          by_cases hin : i2 < n
          · have t1 : decide ((i2 : Int) < (n : Int)) = true := decide_eq_true (by omega)
            have t1' : decide (i2 < n) = true := decide_eq_true hin
            have hil : i2 < KS.length := by rw [HK.out.2]; exact hin
            have HA := (H5.out.2.1.below HX.out.2)
            obtain ⟨b, o, IX, R, -⟩ := HA.at1 tyS (i2 : Int) i2 rfl hil
            rw [HK.out.2] at IX
            have c1 := text_cell R
            obtain ⟨x, hx⟩ : ∃ x, x = KS[i2]! := ⟨_, rfl⟩
            obtain ⟨X, hX⟩ : ∃ X, X = strOf x := ⟨_, rfl⟩
            rw [← hx, ← hX] at c1
            have LC : ∀ y : Later wr, y.1.cell? ⟨b, o, none⟩ = some (.string X) := fun y => load_later c1 y
            have HN := Lib.hid (And.intro hx hX)
            have HAH := Lib.hid HA
            have hw1 : IntKind.i64.wrap ((i2 : Int) - 1) = (i2 : Int) - 1 := IntWalk.i64_in _ (by omega)
            have hn6 : n ≤ 60 := by omega
            clear HA R hx hX hil
            go_upto_region 17 with (fail)
            clear c1
            go_cut [86] from 73 to 86 (fun s86 wy => s86 = .bool false ∧ Below wr.heap.size wr wy)
            case first =>
              by_cases h0 : 0 < i2
              · have t2 : decide ((0 : Int) < (i2 : Int)) = true := decide_eq_true (by omega)
                have t2' : decide (0 < i2) = true := decide_eq_true h0
                have hil : i2 < KS.length := by rw [HK.out.2]; exact hin
                obtain ⟨b0, o0, IX0, R0, -⟩ := HAH.out.at1 tyS ((i2 : Int) - 1) (i2 - 1) (by omega) (by omega)
                rw [HK.out.2] at IX0
                have hle := keys_less H3.out.2.1.sorted h0 (by rw [← HK.out.1]; exact hil)
                rw [← HK.out.1, ← HN.out.1] at hle
                have hbl : Op.bytesLess (strOf KS[i2 - 1]!).toList X.toList = true := by rw [HN.out.2, strOf_list, strOf_list, bytesLess_eq]; exact decide_eq_true hle
                have LC0 : ∀ y : Later wr, y.1.cell? ⟨b0, o0, none⟩ = some (.string (strOf KS[i2 - 1]!)) := fun y => load_later (text_cell R0) y
                generalize strOf KS[i2 - 1]! = Y at *
                clear hle hil R0
                refine wp_region_mg [(0, 0), (1, 0), (2, 0), (3, 0), (4, 0), (5, 0), (6, 0), (7, 0), (8, 0), (9, 0), (10, 0), (11, 0), (12, 0), (13, 0)] (by kernel_rfl) (by kernel_rfl) ?_
                iterate 14 (refine mg_calm rfl (fun K hK => ?_); go_simp; (refine hK _ ?_; clear hK K))
                refine mg_nil fun w7 hw7 => ?_
                go_wp2_with fail
                go_meet
                exact ⟨rfl, hw7⟩
              · have t2 : decide ((0 : Int) < (i2 : Int)) = false := decide_eq_false (by omega)
                have t2' : decide (0 < i2) = false := decide_eq_false h0
                refine wp_region_mg [(0, 0), (1, 0), (2, 0), (3, 0), (4, 0), (5, 0), (6, 0), (7, 0), (8, 0), (9, 0), (10, 0), (11, 0), (12, 0), (13, 0)] (by kernel_rfl) (by kernel_rfl) ?_
                iterate 14 (refine mg_calm rfl (fun K hK => ?_); go_simp; (refine hK _ ?_; clear hK K))
                refine mg_nil fun w7 hw7 => ?_
                go_wp2_with fail
                go_meet
                exact ⟨rfl, hw7⟩
            case rest =>
              obtain ⟨rfl, hwy⟩ := hcut
              have HY := Lib.hid (HX.out.2.trans (hwy.mono HX.out.2.size))
              have c2 : wc.cell? ⟨b, o, none⟩ = some (.string X) := LC ⟨wc, hwy⟩
              obtain ⟨nx, hnx⟩ : ∃ nx, nx = x.length := ⟨_, rfl⟩
              have hsx : X.size = nx := by rw [HN.out.2, strOf_size, hnx]
              obtain ⟨P, hP⟩ : ∃ P, P = U.isPrefixOf x := ⟨_, rfl⟩
              have hPe := pre_eq x U
              rw [← hP, HU.out.1, ← hnx] at hPe
              have HP := Lib.hid (And.intro hP (And.intro hPe hnx))
              clear hP hPe hnx LC hwy
              go_upto_region 19 with (fail)
              go_cut [105] from 87 to 105 (fun s105 wz => s105 = .bool P ∧ wc = wz)
              case first =>
                have hPe := HP.out.2.1
                by_cases d1 : q ≤ nx
                · have t2 : decide ((q : Int) ≤ (nx : Int)) = true := decide_eq_true (by omega)
                  have t2' : decide (q ≤ nx) = true := decide_eq_true d1
                  have SX := str_to Tryd.underlying9 x (i := q) (by rw [← HP.out.2.2]; exact d1)
                  have EQ : ((strOf (x.take q)).toList == XU.toList) = P := by
                    rw [HXU.out, strOf_list, strOf_list, hPe, t2', Bool.true_and, Bool.eq_iff_iff, beq_iff_eq, decide_eq_true_eq]
                  rw [← HN.out.2] at SX
                  generalize strOf (x.take q) = T at *
                  clear hPe
                  go_wp2_with fail
                  go_meet
                  exact ⟨rfl, rfl⟩
                · have t2 : decide ((q : Int) ≤ (nx : Int)) = false := decide_eq_false (by omega)
                  have t2' : decide (q ≤ nx) = false := decide_eq_false d1
                  rw [t2', Bool.false_and] at hPe
                  subst hPe
                  go_wp2_with fail
                  go_meet
                  exact ⟨rfl, rfl⟩
              case rest =>
                obtain ⟨rfl, rfl⟩ := hcut
                have hfn := filter_next (fun p => U.isPrefixOf p) KS (i := i2) (by rw [HK.out.2]; exact hin)
                rw [← HX.out.1, ← HN.out.1] at hfn
                cases P
                case false =>
                  have hPf := HP.out.1
                  simp only [← hPf, Bool.false_eq_true, if_false, Nat.add_zero] at hfn
                  have HFN := Lib.hid hfn
                  clear hfn hPf
                  go_wp2_with fail
                  go_roundw
                  case rel => exact ⟨i2 + 1, k, rfl, by go_num, by omega, HFN.out.symm, HY.out⟩
                  case measure => simp [intOf]; omega
                case true =>
                  have hPf := HP.out.1
                  simp only [← hPf, if_true] at hfn
                  have hfa := filter_at (fun p => U.isPrefixOf p) KS (i := i2) (by rw [HK.out.2]; exact hin) (by rw [← HN.out.1]; exact hPf.symm)
                  rw [← HX.out.1, ← HF.out.1, ← HN.out.1, ← HF.out.2] at hfa
                  have HFN := Lib.hid hfn
                  obtain ⟨hkm, hfk⟩ := hfa
                  obtain ⟨b3, o3, IX3, R3, -⟩ := (H5.out.2.2.below HY.out).at1 tyS (k : Int) k rfl (by rw [← HF.out.2]; exact hkm)
                  have e9 : (List.filter (fun p => U.isPrefixOf p) KS) = FS := HF.out.1.symm
                  rw [← HF.out.2] at IX3
                  have c3 := text_cell R3
                  rw [hfk, ← HN.out.2] at c3
                  have LC3 : ∀ y : Later wc, y.1.cell? ⟨b3, o3, none⟩ = some (.string X) := fun y => load_later c3 y
                  have LC2 : ∀ y : Later wc, y.1.cell? ⟨b, o, none⟩ = some (.string X) := fun y => load_later c2 y
                  have t3 : decide ((m : Int) ≤ (k : Int)) = false := decide_eq_false (by omega)
                  have t3' : decide (m ≤ k) = false := decide_eq_false (by omega)
                  have E3 : (X.toList != X.toList) = false := by simp
                  have hk6 : k ≤ 60 := by
                    have h2 : FS.length ≤ KS.length := by rw [HF.out.1]; exact List.length_filter_le _ _
                    rw [HK.out.2, ← HF.out.2] at h2
                    omega
                  have hw3 : IntKind.i64.wrap ((k : Int) + 1) = (k : Int) + 1 := IntWalk.i64_in _ (by omega)
                  clear hPf hfn hfk R3 c3 e9 c2
                  go_upto_region 20 with (fail)
                  refine wp_region_mg [(0, 0), (1, 0), (2, 0), (3, 0), (4, 0), (5, 0), (6, 0), (7, 0), (8, 0), (9, 0), (10, 0), (11, 0), (12, 0), (13, 0), (14, 0)] (by kernel_rfl) (by kernel_rfl) ?_
                  iterate 15 (refine mg_calm rfl (fun K hK => ?_); go_simp; (refine hK _ ?_; clear hK K))
                  refine mg_nil fun w7 hw7 => ?_
                  have H7 := Lib.hid hw7
                  clear hw7 LC3 LC2
                  go_wp2_with fail
                  go_roundw
                  case rel => exact ⟨i2 + 1, k + 1, by go_num, by go_num, by omega, HFN.out.symm, HY.out.trans (H7.out.mono HY.out.size)⟩
                  case measure => simp [intOf]; omega
          · obtain rfl : i2 = n := by omega
            have t1 : decide ((i2 : Int) < (i2 : Int)) = false := decide_eq_false (by omega)
            have t1' : decide (i2 < i2) = false := decide_eq_false (by omega)
            have hkm : k = m := by rw [HX.out.1, HF.out.2, HF.out.1, List.take_of_length_le (by rw [HK.out.2]; exact Nat.le_refl _)]
            have HKM := Lib.hid hkm
            clear hin hkm
            go_wp2_with fail
            refine (known_any _).mono ?_
            rintro e w8 ⟨rfl, hw8⟩
            have l8 := (H5.out.1.below HX.out.2).below hw8
            have C8 := used_at l8.at_
            rw [H3.out.2.1.used] at C8
            have H8 := Lib.hid l8
            rw [HKM.out]
            clear l8 hw8
            go_wp2_with fail
            refine C8.mono ?_
            clear C8
            rintro e w9 ⟨rfl, rfl⟩
            go_wp2_with fail
            go_ret
            exact ⟨rfl, H8.out.frame⟩
end Go.Proofs.YthjjdcfkdmhmlaaDoor
