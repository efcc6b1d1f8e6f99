/-
  The law TreeSome, walked. (Printed by gen/gen_treesome.py.)
-/
import Derived.Test.YtbllpjphlanchaaTreeBackWalk
import Derived.Test.YtbllpjphlanchaaAppR
import Derived.Test.YtbllpjphlanchaaMixF
import Derived.Deep.CutRange
namespace Go.Proofs.Ytbllpjphlanchaa
open Go.RowKit Go.Mix Go.WideMaps

theorem right_yes {w : World} {l : List Ent} {a : Option Addr} {cap : Nat} (hR : RightE l) (hlen : l.length ≤ 1000000) (hnm : ∀ p ∈ l, p.name.length ≤ 1000000) (hg : RsAt encE 22 w a cap l) :
    Calls Try.prog 13 #[.slice a l.length cap] w fun e w' => e = .returned (.bool true) ∧ Below w.heap.size w w' :=
  (right_any hg hlen hnm).mono fun e w' ⟨r, h1, h2, h3⟩ => ⟨by rw [h1, h2.2 hR], h3⟩
theorem right_not {w : World} {l : List Ent} {a : Option Addr} {cap : Nat} (hR : ¬ RightE l) (hlen : l.length ≤ 1000000) (hnm : ∀ p ∈ l, p.name.length ≤ 1000000) (hg : RsAt encE 22 w a cap l) :
    Calls Try.prog 13 #[.slice a l.length cap] w fun e w' => e = .returned (.bool false) ∧ Below w.heap.size w w' :=
  (right_any hg hlen hnm).mono fun e w' ⟨r, h1, h2, h3⟩ => ⟨by cases r with
    | false => exact h1
    | true => exact absurd (h2.1 rfl) hR, h3⟩
theorem print_yes {w : World} {l : List Ent} {a : Option Addr} {cap : Nat} (hR : RightE l) (hg : RsAt encE 22 w a cap l) (hlen : l.length ≤ 60) (hnm : ∀ p ∈ l, p.name.length ≤ 300) :
    Calls Try.prog 10 #[.slice a l.length cap] w fun e w' => ∃ a2 c2, e = .returned (.tuple #[.slice a2 (bodyL l).length c2, .int .i64 0]) ∧ Bs w' a2 (bodyL l) ∧ (a2 = none → c2 = 0) ∧ (bodyL l).length ≤ 19680 ∧ Below w.heap.size w w' :=
  (print_any hg (by omega) (fun p hp => Nat.le_trans (hnm p hp) (by decide))).mono fun e w' h => by
    rcases h with ⟨h, -⟩ | ⟨-, v, rfl, hb⟩
    · exact absurd hR h
    · obtain ⟨a2, c2, rfl, h1, h2, -, h3⟩ := hb.1.bs
      have h4 := bodyL_len 300 l hnm
      have h5 := Nat.mul_le_mul_right (300 + 28) hlen
      exact ⟨a2, c2, rfl, h1, fun h => (h3 h).2, by omega, hb.2.1⟩

set_option maxRecDepth 100000 in
set_option maxHeartbeats 20000000 in
theorem treeSome_walk (a : Option Addr) (len cap : Nat) (l : List Ent) (a1 : Option Addr) (len1 cap1 : Nat) (B : Nat → Bool) (cut : Int) (w : World)
    (hl1 : l.length = len) (h1 : RsAt encE 22 w a cap l) (hx1 : ∀ p ∈ l, (Lit.int .i64 p.mode).wf = true ∧ p.name.length ≤ 9223372036854775807)
    (hB : len1 ≤ 9223372036854775807 ∧ (len1 = 0 ∨ ∃ y, a1 = some y ∧ ∀ i, i < len1 → w.cell? (y.add i) = some (.bool (B i)))) (_hw : (Lit.int .i64 cut).wf = true) :
    Calls Try.prog 7 #[.slice a len cap, .slice a1 len1 cap1, .int .i64 cut] w fun e w' => e = .returned (.bool true) ∧ Below w.heap.size w w' := by
  have CK := fun W => known_any W
  have CF := few_any h1 (fun p hp => (hx1 p hp).2)
  rw [hl1] at CF
  have hA := few_ok hx1
  clear hl1 h1 hx1
  generalize fewL l = A at *
  have HA := Lib.hid hA
  have HBB := Lib.hid hB
  clear hA hB
  obtain ⟨n, hn⟩ : ∃ n, n = A.length := ⟨_, rfl⟩
  have HL := Lib.hid hn
  clear hn
  have hn6 : n ≤ 60 := by rw [HL.out]; exact HA.out.1
  go_enter Try.func7, Try.ntmps7
  go_wp2_with fail
  refine CF.mono ?_
  clear CF
  rintro e w11 ⟨v11, rfl, hown⟩
  obtain ⟨a11, c11, rfl, hrs11, -⟩ := hown.rs tyE
  have H11 := Lib.hid (And.intro hown.frame hrs11)
  clear hown hrs11
  rw [← HL.out]
  go_wp2_with fail
  refine (CK _).mono ?_
  rintro e w12 ⟨rfl, hw12⟩
  have H12 := Lib.hid (And.intro (H11.out.1.trans (hw12.mono H11.out.1.size)) (H11.out.2.below hw12))
  clear hw12
  have CR := right_any H12.out.2 (by have := HA.out.1; omega) (fun p hp => Nat.le_trans (HA.out.2 p hp).1 (by decide))
  rw [← HL.out] at CR
  go_wp2_with fail
  refine CR.mono ?_
  clear CR
  rintro e w13 ⟨r, rfl, hr, hw13⟩
  have HRR := Lib.hid hr
  clear hr
  have H13 := Lib.hid (And.intro (H12.out.1.trans (hw13.mono H12.out.1.size)) (H12.out.2.below hw13))
  clear hw13
  cases r
  · go_wp2_with fail
    refine (CK _).mono ?_
    rintro e w14 ⟨rfl, hw14⟩
    have H14 := Lib.hid (H13.out.1.trans (hw14.mono H13.out.1.size))
    clear hw14 CK
    go_wp2_with fail
    go_ret
    exact ⟨rfl, H14.out⟩
  have HR := Lib.hid (HRR.out.1 rfl)
  clear CK
  have hF0 := Below.refl w13.heap.size w13
  go_wp2_with fail
  go_loopw [8, 9] (fun s8 s9 wr => ∃ (i : Nat) (m : List Ent), s9 = .int .i64 (i : Int) ∧ i ≤ n ∧ m.Sublist (A.take i) ∧ OwnR encE 22 40 w13 wr s8 m) (fun _ s9 _ => n - (intOf s9).toNat)
  case atStart => exact ⟨0, [], rfl, Nat.zero_le _, List.nil_sublist _, OwnR.nil hF0⟩
  case round =>
    obtain ⟨i, m, rfl, hi, hsub, hrow⟩ := hrel
    clear hF0
    by_cases him : i < n
    · have t1 : decide ((i : Int) < (n : Int)) = true := decide_eq_true (by omega)
      have t1' : decide (i < n) = true := decide_eq_true (by omega)
      have hil : i < A.length := by rw [← HL.out]; exact him
      have hsub2 : (A.take i).Sublist (A.take (i + 1)) := List.take_sublist_take_left (Nat.le_succ _)
      have hsub3 : (m ++ [A[i]!]).Sublist (A.take (i + 1)) := by rw [take_succE hil]; exact hsub.append (List.Sublist.refl _)
      have HSUB := Lib.hid (And.intro (hsub.trans hsub2) hsub3)
      have hml : m.length + 1 ≤ 1000000000 := by
        have := hsub.length_le
        rw [List.length_take] at this
        omega
      have HML := Lib.hid hml
      clear hsub hsub2 hsub3 hml
      by_cases hi1 : i < len1
      · have t2 : decide ((i : Int) < (len1 : Int)) = true := decide_eq_true (by omega)
        have t2' : decide (i < len1) = true := decide_eq_true hi1
        obtain ⟨y, rfl, hcell⟩ : ∃ y, a1 = some y ∧ ∀ i, i < len1 → w.cell? (y.add i) = some (.bool (B i)) := by
          rcases HBB.out.2 with h | h
          · omega
          · exact h
        have IXB : ∀ W : World, (Instr.indexAt 52 (.slice (some y) len1 cap1) (.int .i64 (i : Int))).run Try.prog W = .ok (.pointer (some (y.add i))) W := fun W => by
          have he : Try.prog.elem 52 = 4 := by simp [Program.elem, Try.underlying52]
          have hs : (sizeOf 4).run Try.prog W = .ok 1 W := by kernel_rfl
          rw [run_indexAt_slice W 52 y len1 cap1 .i64 (i : Int) (by rw [he]; exact Try.underlying52), if_pos ⟨by omega, by omega⟩, he, hs]
          simp [Result.andThen]
        have hc := hcell i hi1
        have gr := H13.out.1.trans (hrow.frame.mono H13.out.1.size)
        have hcr : wr.cell? (y.add i) = some (.bool (B i)) := (gr.cell (lt_of_cell hc)).trans hc
        clear hc hcell gr
        have LB : (Instr.loadAt 4 (.pointer (some (y.add i)))).run Try.prog wr = .ok (.bool (B i)) wr := by
          generalize y.add i = ya at *
          clear IXB t1 t1' t2 t2'
          go_simp
        generalize y.add i = ya at *
        generalize B i = d at *
        clear hcr
        cases d
        · have HROW := Lib.hid hrow
          clear hrow
          go_wp2_with (first | (refine wpList_load_at rfl _ _ rfl _ _ rfl LB ?_) | (refine wpList_load_g rfl _ _ rfl _ _ rfl LB ?_))
          go_roundw
          case rel => exact ⟨i + 1, m, by go_num, by omega, HSUB.out.1, HROW.out⟩
          case measure => simp [intOf]; omega
        · obtain ⟨b2, q2, IX, -, LW⟩ := (H13.out.2.below hrow.frame).at tyE (i : Int) i rfl hil
          rw [← HL.out] at IX
          have L6 := LW wr (Below.refl _ _)
          obtain ⟨p, hp⟩ : ∃ p, p = A[i]! := ⟨_, rfl⟩
          rw [← hp] at L6
          have HP := Lib.hid hp
          have S1 := tyE.slice1 p wr
          have hp9 := RsAt.one (enc := encE) (L := 22) wr 40 p
          have hrow9 := hrow.later ((Below.refl _ _).alloc (Nat.le_refl _) (.cells (recA encE p) 40))
          have H9 := Lib.hid (And.intro hp9 hrow9)
          clear hp9 hrow9 hrow LW hp hil
          go_wp2_with (first | (refine wpList_load_at rfl _ _ rfl _ _ rfl LB ?_) | (refine wpList_load_g rfl _ _ rfl _ _ rfl LB ?_) | (refine wpList_load_at rfl _ _ rfl _ _ rfl L6 ?_) | (refine wpList_buildSlice_at rfl _ _ _ rfl [(0, .agg (recA encE p))] _ rfl S1 ?_) | (refine wpList_append_r tyE rfl (.tmp 44) (.tmp 49) rfl _ m rfl H9.out.2 (some ⟨wr.heap.size, 0, none⟩) 1 1 [p] rfl rfl H9.out.1 HML.out ?_; intro v8 w8 hb8 hg8 hn8; have H8 := Lib.hid hb8; clear hb8 hg8 hn8 L6 S1))
          go_roundw
          case rel => exact ⟨i + 1, m ++ [p], by go_num, by omega, by rw [HP.out]; exact HSUB.out.2, H8.out⟩
          case measure => simp [intOf]; omega
      · have t2 : decide ((i : Int) < (len1 : Int)) = false := decide_eq_false (by omega)
        have t2' : decide (i < len1) = false := decide_eq_false hi1
        have HROW := Lib.hid hrow
        clear hrow
        go_wp2_with fail
        go_roundw
        case rel => exact ⟨i + 1, m, by go_num, by omega, HSUB.out.1, HROW.out⟩
        case measure => simp [intOf]; omega
    · obtain rfl : i = n := by omega
      have t1 : decide ((i : Int) < (i : Int)) = false := decide_eq_false (by omega)
      have t1' : decide (i < i) = false := decide_eq_false (by omega)
      have hsA : m.Sublist A := by rw [HL.out, List.take_of_length_le (Nat.le_refl _)] at hsub; exact hsub
      obtain ⟨v8, c8, rfl, hrs8, -⟩ := hrow.rs tyE
      have HM := Lib.hid (And.intro (HR.out.sub hsA) (And.intro (Nat.le_trans hsA.length_le HA.out.1) (fun p (hp : p ∈ m) => (HA.out.2 p (hsA.subset hp)).1)))
      have HMR0 := Lib.hid hrs8
      obtain ⟨ml, hml⟩ : ∃ ml, ml = m.length := ⟨_, rfl⟩
      have HML := Lib.hid hml
      rw [← hml]
      have hA8 := H13.out.2.below hrow.frame
      have HOUT := Lib.hid (H13.out.1.trans (hrow.frame.mono H13.out.1.size))
      clear hsA hsub hrow hrs8 hml
      obtain ⟨k, hk, ek⟩ := u64_mod cut (i + 1) (by omega) (by omega)
      obtain ⟨K, hK⟩ : ∃ K, K = i + 1 := ⟨_, rfl⟩
      rw [← hK] at hk ek
      have en : IntKind.u64.wrap (K : Int) = (K : Int) := by rw [IntKind.wrap_u64]; omega
      have en2 : IntKind.i64.wrap ((i : Int) + 1) = (K : Int) := by rw [IntKind.wrap_i64]; omega
      have en3 : wrap64 ((i : Int) + 1) = (K : Int) := by rw [IntWalk.wrap64_in _ ⟨by omega, by omega⟩]; omega
      have en0 : ¬ (K : Int) = 0 := by omega
      have hki : k ≤ i := by omega
      have hkA : k ≤ A.length := by rw [← HL.out]; exact hki
      have SLT := hA8.to tyE hkA (k : Int) rfl
      obtain ⟨a2, c2, SLF, hd8⟩ := hA8.from tyE hkA (k : Int) rfl
      rw [← HL.out] at SLT SLF
      have hT : RightE (A.take k) := HR.out.sub (List.take_sublist _ _)
      have hD : RightE (A.drop k) := HR.out.sub (List.drop_sublist _ _)
      have CP1 := print_yes hT (hA8.take k) (by rw [List.length_take]; have := HA.out.1; omega) (fun p hp => (HA.out.2 p (List.mem_of_mem_take hp)).1)
      have htl : (A.take k).length = k := by rw [List.length_take]; omega
      have hdl : (A.drop k).length = i - k := by rw [List.length_drop, ← HL.out]
      rw [htl] at CP1
      have HD8 := Lib.hid (And.intro hd8 (And.intro hD hdl))
      have HA8 := Lib.hid hA8
      have hbb : bodyL (A.take k) ++ bodyL (A.drop k) = bodyL A := by rw [← bodyL_app, List.take_append_drop]
      clear hK hk hA8 hd8 hT hD htl hdl hkA
      obtain ⟨P1, hP1⟩ : ∃ P1, P1 = bodyL (A.take k) := ⟨_, rfl⟩
      obtain ⟨P2, hP2⟩ : ∃ P2, P2 = bodyL (A.drop k) := ⟨_, rfl⟩
      rw [← hP1, ← hP2] at hbb
      rw [← hP1] at CP1
      have HBODY := Lib.hid (And.intro hbb hP2)
      clear hbb hP1 hP2
      go_wp2_with fail
      refine CP1.mono ?_
      clear CP1
      rintro e w21 ⟨a21, c21, rfl, hs21, hz21, hn21, g21⟩
      have CP2 := print_yes HD8.out.2.1 (HD8.out.1.below g21) (by rw [HD8.out.2.2]; omega) (fun p hp => (HA.out.2 p (List.mem_of_mem_drop hp)).1)
      rw [HD8.out.2.2, ← HBODY.out.2] at CP2
      have H21 := Lib.hid (And.intro hs21 (And.intro hz21 (And.intro hn21 g21)))
      clear hs21 hz21 hn21 g21
      go_wp2_with fail
      refine CP2.mono ?_
      clear CP2
      rintro e w22 ⟨a22, c22, rfl, hs22, hz22, hn22, g22⟩
      have H22 := Lib.hid (And.intro hs22 (And.intro hz22 (And.intro hn22 (And.intro (H21.out.1.below g22) (H21.out.2.2.2.trans (g22.mono H21.out.2.2.2.size))))))
      clear hs22 hz22 hn22 g22
      have HBM := Lib.hid (Buf.made (B := w22.heap.size) (w0 := w22) (w := w22) (Below.refl _ _) (Nat.le_refl _))
      have HN21 := Lib.hid (And.intro H21.out.2.1 H21.out.2.2.1)
      clear SLT SLF ek en en2 en3 en0
      go_wp2_with (first
        | (refine wpList_append_buf rfl (.tmp 74) (.tmp 75) rfl _ [] rfl HBM.out a21 c21 P1 rfl (H22.out.2.2.2.1.below HBM.out.2.1) HN21.out.1 (by have := HN21.out.2; simp; omega) ?_; intro v23 w23 hb23 hg23; have HB23 := Lib.hid hb23; clear hb23 hg23)
        | (refine wpList_append_buf rfl (.tmp 76) (.tmp 77) rfl _ P1 rfl HB23.out a22 c22 P2 rfl (H22.out.1.below HB23.out.2.1) H22.out.2.1 (by have := HN21.out.2; have := H22.out.2.2.1; omega) ?_; intro v24 w24 hb24 hg24; have HB24 := Lib.hid hb24; clear hb24 hg24; obtain ⟨a24, c24, rfl, hs24, hc24, -, hn24⟩ := HB24.out.1.bs; rw [HBODY.out.1] at hs24 hc24 hn24 ⊢; have HS24 := Lib.hid (And.intro hs24 (And.intro hc24 hn24)); clear hs24 hc24 hn24))
      refine (parse_any HS24.out.1 (by have := HN21.out.2; have := H22.out.2.2.1; rw [← HBODY.out.1, List.length_append]; omega) HS24.out.2.1 (fun h => (HS24.out.2.2 h).2)).mono ?_
      rintro e w25 (⟨x, hx, -, v25, rfl, hown⟩ | ⟨hbad, rfl, hw25⟩)
      case inr =>
        rw [HR.out.back] at hbad
        rcases hbad with h | ⟨l3, h3, h4⟩
        · cases h
        · injection h3 with h3; exact absurd (h3 ▸ HR.out) h4
      have hxA : A = x := by rw [HR.out.back] at hx; injection hx with hx
      subst hxA
      obtain ⟨v25, c25, rfl, hrs25, -⟩ := hown.rs tyE
      rw [← HL.out]
      have HG25 := Lib.hid (Grow.trans (Grow.trans H22.out.2.2.2.2 HB24.out.2.1) hown.frame)
      have HZ25 := Lib.hid hrs25
      clear hown hrs25 hx
      go_upto_region 14 with (fail)
      go_cut [17] from 82 (fun t wx => t = .bool true ∧ Below w25.heap.size w25 wx)
      case first =>
        by_cases h0 : i = 0
        · have t0 : ((i : Int) == 0) = true := by rw [beq_iff_eq]; omega
          have t0' : (i == 0) = true := by rw [beq_iff_eq]; omega
          clear h0
          refine wp_region_mg [(0, 0), (1, 0), (2, 0), (3, 0), (4, 0), (5, 0), (6, 0), (7, 0), (8, 0), (9, 0), (10, 0), (11, 0), (12, 0), (13, 0), (14, 0), (15, 0), (16, 0), (17, 0), (18, 0)] (by kernel_rfl) (by kernel_rfl) ?_
          iterate 19 (refine mg_calm rfl (fun K hK => ?_); go_simp; (refine hK _ ?_; clear hK K))
          refine mg_nil fun w30 hw30 => ?_
          have HW30 := Lib.hid hw30
          clear hw30
          go_wp2_with fail
          go_meet
          exact ⟨rfl, HW30.out⟩
        · have t0 : ((i : Int) == 0) = false := by rw [beq_eq_false_iff_ne]; omega
          have t0' : (i == 0) = false := by rw [beq_eq_false_iff_ne]; omega
          obtain ⟨b2, q2, IX2, -, LW2⟩ := HA8.out.at tyE ((i : Int) - 1) (i - 1) (by omega) (by rw [← HL.out]; omega)
          rw [← HL.out] at IX2
          have hpm : A[i - 1]! ∈ A := by rw [getElem!_pos A (i - 1) (by rw [← HL.out]; omega)]; exact List.getElem_mem _
          obtain ⟨p, hp⟩ : ∃ p, p = A[i - 1]! := ⟨_, rfl⟩
          rw [← hp] at LW2 hpm
          have HPM := Lib.hid hpm
          have hwp : IntKind.i64.wrap ((i : Int) - 1) = (i : Int) - 1 := by rw [IntKind.wrap_i64]; omega
          have LP : ∀ y : Later w25, (Instr.loadAt 40 (.pointer (some ⟨b2, q2, none⟩))).run Try.prog y.1 = .ok (.agg (recA encE p)) y.1 := fun y => LW2 y.1 (Grow.trans HG25.out y.2)
          clear hp hpm LW2 h0
          refine wp_region_ft (FT.run [(0, 0), (1, 0), (2, 0), (3, 0), (5, 0), (7, 0), (8, 0), (9, 0), (10, 0), (11, 0), (12, 0)] (.two 4 13 (.two 6 13 (FT.run [(13, 1)] (FT.run [(14, 2), (15, 0), (16, 0), (17, 0), (18, 0)] .nil)) (FT.run [(6, 1)] (FT.run [(14, 2), (15, 0), (16, 0), (17, 0), (18, 0)] .nil))) (FT.run [(4, 1), (6, 1)] (FT.run [(14, 2), (15, 0), (16, 0), (17, 0), (18, 0)] .nil)))) [14] (by kernel_rfl) (by kernel_rfl) ?_
          iterate 10 (refine fg_calm rfl (fun K hK => ?_); go_simp; (refine hK _ ?_; clear hK K))
          refine fg_load rfl rfl _ _ rfl _ _ rfl LP ?_
          clear LP hwp IX2
          refine fg_two rfl rfl ?_ ?_
          · refine fg_buildSlice rfl rfl _ _ _ rfl [] #[] 40 0 0 rfl (fun y => tyE.slice0 y) (fun g1 wx1 hwwx1 hg1 hb1 => ?_)
            have HO := Lib.hid (OwnR.empty 22 encE hg1 hb1 hwwx1)
            have GRwx1 := Lib.hid (Grow.trans (Grow.refl w25) hwwx1)
            clear hwwx1 hg1 hb1
            refine fg_two rfl rfl ?_ ?_
            · refine fg_loud rfl rfl (fun wx2 hwwx2 K hK => ?_)
              refine wpList_append_empty_r tyE rfl (.tmp 86) (.tmp 87) rfl g1 rfl (HO.out.later hwwx2) a11 i c11 A rfl HL.out (HA8.out.below (Grow.trans (Grow.trans HG25.out GRwx1.out) hwwx2)) (by have := HA.out.1; omega) (fun v29 wx2b hv29 hwwx2b => ?_)
              have HV := Lib.hid hv29
              have GRwx2b := Lib.hid (Grow.trans (Grow.trans GRwx1.out hwwx2) hwwx2b)
              refine hK _ _ hwwx2b ?_
              clear hv29 hwwx2 hwwx2b hK K
              refine fg_buildSlice rfl rfl _ _ _ rfl [(0, .agg (recA encE p))] (recA encE p) 40 1 1 rfl (fun y => tyE.slice1 p y) (fun g2 wx3 hwwx3 hg2 hb2 => ?_)
              have HP := Lib.hid (RsAt.block (enc := encE) (L := 22) hb2)
              have GRwx3 := Lib.hid (Grow.trans GRwx2b.out hwwx3)
              have HV := Lib.hid (HV.out.later hwwx3)
              clear hwwx3 hg2 hb2
              refine fg_sync rfl rfl (fun w10 hw10 K hK => ?_)
              refine wpList_unguard rfl ?_
              refine wpList_append_r tyE rfl (.tmp 88) (.tmp 95) rfl _ A rfl (HV.out.later hw10) (some ⟨g2, 0, none⟩) 1 1 [p] rfl rfl (HP.out.below hw10) (by have := HA.out.1; simp; omega) ?_
              intro v5 w5 hb5 hgr5 hgr0
              obtain ⟨v5, c5, rfl, hrs5, -⟩ := hb5.rs tyE
              have HB5 := Lib.hid hb5.frame
              have CN0 : ∀ z : Later w5, Calls Try.prog 13 #[.slice v5 (A ++ [p]).length c5] z.1 fun e w' => e = .returned (.bool false) ∧ Below z.1.heap.size z.1 w' := fun z =>
                right_not (RightE.twice HPM.out) (by have := HA.out.1; simp; omega) (fun q hq => by
                  rcases List.mem_append.1 hq with h | h
                  · exact Nat.le_trans (HA.out.2 q h).1 (by decide)
                  · simp at h; rw [h]; exact Nat.le_trans (HA.out.2 p HPM.out).1 (by decide)) (hrs5.below z.2)
              obtain ⟨nn, hnn⟩ : ∃ nn, nn = (A ++ [p]).length := ⟨_, rfl⟩
              rw [← hnn] at CN0 ⊢
              clear hgr5 hgr0 hb5 hrs5 hnn hw10
              go_wp2_with fail
              (refine fg_calm rfl (fun K hK => ?_); go_simp; apply Exists.intro; refine ⟨fun z => CN0 z, hK _ ?_⟩; clear hK K)
              iterate 3 (refine fg_calm rfl (fun K hK => ?_); go_simp; (refine hK _ ?_; clear hK K))
              refine fg_nil fun w30 hw30 => ?_
              have HW30 := Lib.hid (Grow.trans HB5.out hw30)
              clear hw30 CN0
              go_wp2_with fail
              go_meet
              first | exact ⟨rfl, HW30.out⟩ | exact ⟨rfl, Grow.trans GRwx1.out HW30.out⟩
            · refine fg_buildSlice rfl rfl _ _ _ rfl [(0, .agg (recA encE p))] (recA encE p) 40 1 1 rfl (fun y => tyE.slice1 p y) (fun g2 wx2 hwwx2 hg2 hb2 => ?_)
              have HP := Lib.hid (RsAt.block (enc := encE) (L := 22) hb2)
              have GRwx2 := Lib.hid (Grow.trans GRwx1.out hwwx2)
              have HO := Lib.hid (HO.out.later hwwx2)
              clear hwwx2 hg2 hb2
              refine fg_loud rfl rfl (fun wx3 hwwx3 K hK => ?_)
              refine wpList_append_empty_r tyE rfl (.tmp 86) (.tmp 87) rfl g1 rfl (HO.out.later hwwx3) a11 i c11 A rfl HL.out (HA8.out.below (Grow.trans (Grow.trans HG25.out GRwx2.out) hwwx3)) (by have := HA.out.1; omega) (fun v29 wx3b hv29 hwwx3b => ?_)
              have HV := Lib.hid hv29
              have HP := Lib.hid (HP.out.below (Grow.trans hwwx3 hwwx3b))
              have GRwx3b := Lib.hid (Grow.trans (Grow.trans GRwx2.out hwwx3) hwwx3b)
              refine hK _ _ hwwx3b ?_
              clear hv29 hwwx3 hwwx3b hK K
              refine fg_sync rfl rfl (fun w10 hw10 K hK => ?_)
              refine wpList_unguard rfl ?_
              refine wpList_append_r tyE rfl (.tmp 88) (.tmp 95) rfl _ A rfl (HV.out.later hw10) (some ⟨g2, 0, none⟩) 1 1 [p] rfl rfl (HP.out.below hw10) (by have := HA.out.1; simp; omega) ?_
              intro v5 w5 hb5 hgr5 hgr0
              obtain ⟨v5, c5, rfl, hrs5, -⟩ := hb5.rs tyE
              have HB5 := Lib.hid hb5.frame
              have CN0 : ∀ z : Later w5, Calls Try.prog 13 #[.slice v5 (A ++ [p]).length c5] z.1 fun e w' => e = .returned (.bool false) ∧ Below z.1.heap.size z.1 w' := fun z =>
                right_not (RightE.twice HPM.out) (by have := HA.out.1; simp; omega) (fun q hq => by
                  rcases List.mem_append.1 hq with h | h
                  · exact Nat.le_trans (HA.out.2 q h).1 (by decide)
                  · simp at h; rw [h]; exact Nat.le_trans (HA.out.2 p HPM.out).1 (by decide)) (hrs5.below z.2)
              obtain ⟨nn, hnn⟩ : ∃ nn, nn = (A ++ [p]).length := ⟨_, rfl⟩
              rw [← hnn] at CN0 ⊢
              clear hgr5 hgr0 hb5 hrs5 hnn hw10
              go_wp2_with fail
              (refine fg_calm rfl (fun K hK => ?_); go_simp; apply Exists.intro; refine ⟨fun z => CN0 z, hK _ ?_⟩; clear hK K)
              iterate 3 (refine fg_calm rfl (fun K hK => ?_); go_simp; (refine hK _ ?_; clear hK K))
              refine fg_nil fun w30 hw30 => ?_
              have HW30 := Lib.hid (Grow.trans HB5.out hw30)
              clear hw30 CN0
              go_wp2_with fail
              go_meet
              first | exact ⟨rfl, HW30.out⟩ | exact ⟨rfl, Grow.trans GRwx1.out HW30.out⟩
          · refine fg_buildSlice rfl rfl _ _ _ rfl [(0, .agg (recA encE p))] (recA encE p) 40 1 1 rfl (fun y => tyE.slice1 p y) (fun g2 wx1 hwwx1 hg2 hb2 => ?_)
            have HP := Lib.hid (RsAt.block (enc := encE) (L := 22) hb2)
            have GRwx1 := Lib.hid (Grow.trans (Grow.refl w25) hwwx1)
            clear hwwx1 hg2 hb2
            refine fg_buildSlice rfl rfl _ _ _ rfl [] #[] 40 0 0 rfl (fun y => tyE.slice0 y) (fun g1 wx2 hwwx2 hg1 hb1 => ?_)
            have HO := Lib.hid (OwnR.empty 22 encE hg1 hb1 hwwx2)
            have GRwx2 := Lib.hid (Grow.trans GRwx1.out hwwx2)
            have HP := Lib.hid (HP.out.below hwwx2)
            clear hwwx2 hg1 hb1
            refine fg_loud rfl rfl (fun wx3 hwwx3 K hK => ?_)
            refine wpList_append_empty_r tyE rfl (.tmp 86) (.tmp 87) rfl g1 rfl (HO.out.later hwwx3) a11 i c11 A rfl HL.out (HA8.out.below (Grow.trans (Grow.trans HG25.out GRwx2.out) hwwx3)) (by have := HA.out.1; omega) (fun v29 wx3b hv29 hwwx3b => ?_)
            have HV := Lib.hid hv29
            have HP := Lib.hid (HP.out.below (Grow.trans hwwx3 hwwx3b))
            have GRwx3b := Lib.hid (Grow.trans (Grow.trans GRwx2.out hwwx3) hwwx3b)
            refine hK _ _ hwwx3b ?_
            clear hv29 hwwx3 hwwx3b hK K
            refine fg_sync rfl rfl (fun w10 hw10 K hK => ?_)
            refine wpList_unguard rfl ?_
            refine wpList_append_r tyE rfl (.tmp 88) (.tmp 95) rfl _ A rfl (HV.out.later hw10) (some ⟨g2, 0, none⟩) 1 1 [p] rfl rfl (HP.out.below hw10) (by have := HA.out.1; simp; omega) ?_
            intro v5 w5 hb5 hgr5 hgr0
            obtain ⟨v5, c5, rfl, hrs5, -⟩ := hb5.rs tyE
            have HB5 := Lib.hid hb5.frame
            have CN0 : ∀ z : Later w5, Calls Try.prog 13 #[.slice v5 (A ++ [p]).length c5] z.1 fun e w' => e = .returned (.bool false) ∧ Below z.1.heap.size z.1 w' := fun z =>
              right_not (RightE.twice HPM.out) (by have := HA.out.1; simp; omega) (fun q hq => by
                rcases List.mem_append.1 hq with h | h
                · exact Nat.le_trans (HA.out.2 q h).1 (by decide)
                · simp at h; rw [h]; exact Nat.le_trans (HA.out.2 p HPM.out).1 (by decide)) (hrs5.below z.2)
            obtain ⟨nn, hnn⟩ : ∃ nn, nn = (A ++ [p]).length := ⟨_, rfl⟩
            rw [← hnn] at CN0 ⊢
            clear hgr5 hgr0 hb5 hrs5 hnn hw10
            go_wp2_with fail
            (refine fg_calm rfl (fun K hK => ?_); go_simp; apply Exists.intro; refine ⟨fun z => CN0 z, hK _ ?_⟩; clear hK K)
            iterate 3 (refine fg_calm rfl (fun K hK => ?_); go_simp; (refine hK _ ?_; clear hK K))
            refine fg_nil fun w30 hw30 => ?_
            have HW30 := Lib.hid (Grow.trans HB5.out hw30)
            clear hw30 CN0
            go_wp2_with fail
            go_meet
            first | exact ⟨rfl, HW30.out⟩ | exact ⟨rfl, Grow.trans GRwx1.out HW30.out⟩
      case rest =>
      obtain ⟨rfl, hw30⟩ := hcut
      have HG14 := Lib.hid (Grow.trans HG25.out hw30)
      have HZ := Lib.hid (HZ25.out.below hw30)
      clear hw30
      have CM := right_yes HM.out.1 (by have := HM.out.2.1; omega) (fun p hp => Nat.le_trans (HM.out.2.2 p hp) (by decide)) (HMR0.out.below HG14.out)
      rw [← HML.out] at CM
      go_wp2_with fail
      ((with_reducible refine CM.mono ?_))
      clear CM
      rintro e w31 ⟨rfl, hw31⟩
      have CA := as_any (HZ.out.below hw31) (by have := HA.out.1; omega)
      rw [← HL.out] at CA
      have H31 := Lib.hid (Grow.trans HG14.out hw31)
      clear hw31
      go_wp2_with fail
      ((with_reducible refine CA.mono ?_))
      clear CA
      rintro e w32 ⟨v32, rfl, hown⟩
      obtain ⟨v32, c32, rfl, hrs32, -⟩ := hown.rs tyF
      have H32 := Lib.hid (Grow.trans H31.out hown.frame)
      have HS32 := Lib.hid hrs32
      clear hown hrs32
      have CA := as_any (HA8.out.below H32.out) (by have := HA.out.1; omega)
      rw [← HL.out] at CA ⊢
      go_wp2_with fail
      ((with_reducible refine CA.mono ?_))
      clear CA
      rintro e w33 ⟨v33, rfl, hown⟩
      obtain ⟨v33, c33, rfl, hrs33, -⟩ := hown.rs tyF
      have H33 := Lib.hid (Grow.trans H32.out hown.frame)
      have CM := same_any (HS32.out.below hown.frame) hrs33 (fun p hp => (HA.out.2 p hp).2) (fun p hp => (HA.out.2 p hp).2)
      rw [decide_eq_true rfl, ← HL.out] at CM
      rw [← HL.out]
      clear hown hrs33
      go_wp2_with fail
      ((with_reducible refine CM.mono ?_))
      clear CM
      rintro e w34 ⟨rfl, hw34⟩
      have H34 := Lib.hid (Below.trans HOUT.out (Below.mono (Grow.trans H33.out hw34) HOUT.out.size))
      clear hw34
      go_wp2_with fail
      go_ret
      exact ⟨rfl, H34.out⟩
end Go.Proofs.Ytbllpjphlanchaa
