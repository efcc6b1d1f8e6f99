/-
  The document's Sort: the walk. (Printed by gen/gen_refsort10.py.)
-/
import Derived.Test.YtbllpjphlanchaaSortWalks
import Derived.Test.YtbllpjphlanchaaRight10
import Derived.Test.YtbllpjphlanchaaBuildE
namespace Go.Proofs.Ytbllpjphlanchaa
open Go.RowKit Go.Mix Go.WideMaps

def RSortRow (w0 : World) (l : List Ent) (i : Nat) (v : Value) (wr : World) : Prop := ∃ Y, SortedB lessE Y ∧ StEq lessE (l.take i) Y ∧ OwnR encE 22 43 w0 wr v Y
def RSortedOut (w0 : World) (l : List Ent) (e : Ending) (w' : World) : Prop := ∃ v Y, e = .returned v ∧ SortedB lessE Y ∧ StEq lessE l Y ∧ OwnR encE 22 43 w0 w' v Y
/-- x is ahead of all from j on. -/
def AheadOf (x : Ent) (Y : List Ent) (j : Nat) : Prop := j ≤ Y.length ∧ ∀ y ∈ Y.drop j, lessE x y = true
theorem AheadOf.step {x : Ent} {Y : List Ent} {j o : Nat} (h : AheadOf x Y j) (ho : o + 1 = j) (hx : lessE x Y[o]! = true) : AheadOf x Y o := by
  obtain ⟨h1, h2⟩ := h
  refine ⟨by omega, fun y hy => ?_⟩
  rw [List.drop_eq_getElem_cons (by omega)] at hy
  rcases List.mem_cons.1 hy with rfl | hy
  · rw [getElem!_pos Y o (by omega)] at hx; exact hx
  · rw [ho] at hy; exact h2 y hy
theorem AheadOf.done {x : Ent} {Y l : List Ent} {i j : Nat} (h : AheadOf x Y j) (hi : i < l.length) (hx : x = l[i]!) (hY : SortedB lessE Y) (hst : StEq lessE (l.take i) Y) (hstop : j = 0 ∨ lessE x Y[j - 1]! = false) :
    SortedB lessE (Y.take j ++ [x] ++ Y.drop j) ∧ StEq lessE (l.take (i + 1)) (Y.take j ++ [x] ++ Y.drop j) := by
  obtain ⟨h1, h2⟩ := h
  have hd : ∀ y ∈ Y.take j, lessE x y = false := by
    rcases hstop with rfl | hs
    · simp
    · intro y hy
      rcases Nat.eq_zero_or_pos j with h0 | h0
      · subst h0; simp at hy
      · have := srt_take lessE_weak hY (h := j - 1) (by omega) y (by rw [show j - 1 + 1 = j by omega]; exact hy)
        exact lessE_weak.neg x _ y hs this
  have h3 := ins_done lessE_weak (Y1 := Y.take j) (Y2 := Y.drop j) (z := x) (by rw [List.take_append_drop]; exact hY) h2 hd
  rw [List.take_append_drop] at h3
  rw [List.append_assoc, List.singleton_append]
  refine ⟨h3.1, StEq.trans ?_ h3.2⟩
  rw [take_succE hi, ← hx]
  exact hst.append (StEq.refl _)

set_option maxRecDepth 100000 in
set_option maxHeartbeats 8000000 in
theorem refSort_any {w : World} {a : Option Addr} {n cap : Nat} {l : List Ent} (hg : RsAt encE 22 w a cap l) (hn : n = l.length) (hlen : n ≤ 900) (hnm : NamesL l) :
    Calls Try.prog 16 #[.slice a n cap] w (RSortedOut w l) := by
  have HG := Lib.hid (And.intro hg (And.intro hn hnm))
  have H0 : Hid (RSortRow w l 0 (.slice none 0 0) w) := Lib.hid ⟨[], List.Pairwise.nil, by rw [List.take_zero]; exact StEq.refl _, OwnR.nil (Below.refl _ _)⟩
  clear hg hn hnm
  go_enter Try.func16, Try.ntmps16
  go_wp2_with fail
  go_loopw [3, 4] (fun s3 s4 wr => ∃ i : Nat, s4 = .int .i64 (i : Int) ∧ i ≤ n ∧ RSortRow w l i s3 wr) (fun _ s4 _ => n - (intOf s4).toNat)
  case atStart => exact ⟨0, rfl, Nat.zero_le _, H0.out⟩
  case round =>
    clear H0
    obtain ⟨wo, rfl⟩ : ∃ wo, wo = wr := ⟨_, rfl⟩
    obtain ⟨i, rfl, hi, Y, hY, hst, hrow⟩ := hrel
    by_cases hin : i < n
    · have t1 : decide ((i : Int) < (n : Int)) = true := decide_eq_true (by omega)
      have t1' : decide (i < n) = true := decide_eq_true hin
      have hil : i < l.length := by rw [← HG.out.2.1]; exact hin
      obtain ⟨x, hx⟩ : ∃ x, x = l[i]! := ⟨_, rfl⟩
      have hxn : x.name.length ≤ 1000000 := by rw [hx]; exact names_at HG.out.2.2 hil
      have hyl : Y.length = i := by rw [← steq_len hst, List.length_take]; omega
      have hyn : NamesL Y := names_of (fun p hp => HG.out.2.2 p (List.mem_of_mem_take hp)) hst
      obtain ⟨b1, q1, IX1, -, L1⟩ := (HG.out.1.below hrow.frame).at tyF (i : Int) i rfl hil
      rw [← HG.out.2.1] at IX1
      rw [← hx] at L1
      have HX := Lib.hid (And.intro hil (And.intro hx (And.intro hxn (And.intro hyl (And.intro hyn (And.intro hY hst))))))
      obtain ⟨v3, c3, rfl, hrs3, -⟩ := hrow.rs tyF
      rw [hyl]
      have hrow' := hrow
      rw [hyl] at hrow'
      have HR := Lib.hid (And.intro hrow' hrs3)
      have HL1 := Lib.hid L1
      clear hil hx hxn hyl hyn hY hst hrow hrow' hrs3 L1
      have hBB := Below.refl wo.heap.size wo
      go_wp2_with fail
      go_loopw [5] (fun s5 wx => ∃ j : Nat, s5 = .int .i64 (j : Int) ∧ j ≤ i ∧ AheadOf x Y j ∧ Below wo.heap.size wo wx) (fun s5 _ => (intOf s5).toNat)
      case atStart => exact ⟨i, rfl, Nat.le_refl _, ⟨by rw [HX.out.2.2.2.1]; exact Nat.le_refl _, by rw [List.drop_of_length_le (by rw [HX.out.2.2.2.1]; exact Nat.le_refl _)]; simp⟩, hBB⟩
      case round =>
        clear hBB
        obtain ⟨j, rfl, hj, hah, hbb⟩ := hrel
        have HA := Lib.hid (And.intro hah hbb)
        clear hah
        by_cases hj0 : 0 < j
        · have t2 : decide ((0 : Int) < (j : Int)) = true := decide_eq_true (by omega)
          have t2' : decide (0 < j) = true := decide_eq_true hj0
          obtain ⟨o, hoj⟩ : ∃ o, o = j - 1 := ⟨_, rfl⟩
          have ho1 : o + 1 ≤ j := by omega
          have ho2 : j ≤ o + 1 := by omega
          have w1 : IntKind.i64.wrap ((j : Int) - 1) = (o : Int) := by rw [IntKind.wrap_i64]; omega
          obtain ⟨b2, q2, IX2, -, L2⟩ := (HR.out.2.below hbb).at tyF (o : Int) o rfl (by rw [HX.out.2.2.2.1]; omega)
          rw [HX.out.2.2.2.1] at IX2
          have hon : Y[o]!.name.length ≤ 1000000 := names_at HX.out.2.2.2.2.1 (by rw [HX.out.2.2.2.1]; omega)
          have CO := fun W : World => refLess_any x Y[o]! HX.out.2.2.1 hon W
          obtain ⟨B, hB⟩ : ∃ B, B = lessE x Y[o]! := ⟨_, rfl⟩
          obtain ⟨y, hy⟩ : ∃ y, y = Y[o]! := ⟨_, rfl⟩
          rw [← hB] at CO
          rw [← hy] at L2 CO
          have L1' : ∀ z : Later wr, (Instr.loadAt 43 (.pointer (some ⟨b1, q1, none⟩))).run Try.prog z.1 = .ok (.agg (recA encE x)) z.1 := fun z => HL1.out z.1 (Below.trans hbb (Below.mono z.2 hbb.size))
          have L2' : ∀ z : Later wr, (Instr.loadAt 43 (.pointer (some ⟨b2, q2, none⟩))).run Try.prog z.1 = .ok (.agg (recA encE y)) z.1 := fun z => L2 z.1 z.2
          have HB := Lib.hid (And.intro hB hoj)
          clear hB hoj hy hon L2 hbb
          go_upto_region 6 with (fail)
          refine wp_region_mg [(0, 0), (1, 0), (2, 0), (3, 0), (4, 0), (5, 0), (6, 0), (7, 0), (8, 0), (9, 0), (10, 0), (11, 0), (12, 0), (13, 0)] (by kernel_rfl) (by kernel_rfl) ?_
          iterate 6 (refine mg_calm rfl (fun K hK => ?_); go_simp; (refine hK _ ?_; clear hK K))
          refine mg_load rfl rfl _ _ rfl _ _ rfl L1' ?_
          iterate 4 (refine mg_calm rfl (fun K hK => ?_); go_simp; (refine hK _ ?_; clear hK K))
          refine mg_load rfl rfl _ _ rfl _ _ rfl L2' ?_
          (refine mg_calm rfl (fun K hK => ?_); go_simp; apply Exists.intro; refine ⟨fun z => CO z.1, hK _ ?_⟩; clear hK K)
          iterate 1 (refine mg_calm rfl (fun K hK => ?_); go_simp; (refine hK _ ?_; clear hK K))
          refine mg_nil fun w5 hw5 => ?_
          have hb5 : Below wo.heap.size wo w5 := Below.trans HA.out.2 (Below.mono hw5 HA.out.2.size)
          have HB5 := Lib.hid hb5
          clear L1' L2' CO hw5 IX2 w1 hb5
          cases B
          · have hdone := HA.out.1.done HX.out.1 HX.out.2.1 HX.out.2.2.2.2.2.1 HX.out.2.2.2.2.2.2 (.inr (by rw [← HB.out.2]; exact HB.out.1.symm))
            have HD := Lib.hid hdone
            clear hdone
            have hle : j ≤ Y.length := HA.out.1.1
            have SLT := HR.out.2.to tyF hle (j : Int) rfl
            obtain ⟨a6, c6, SLF, hd6⟩ := HR.out.2.from tyF hle (j : Int) rfl
            obtain ⟨k, hk⟩ : ∃ k, k = Y.length - j := ⟨_, rfl⟩
            rw [← hk] at SLF
            rw [HX.out.2.2.2.1] at SLT SLF
            have HD6 := Lib.hid (And.intro hd6 (And.intro hk hle))
            have HM := Lib.hid (OwnR.made 22 encE w5 43)
            have hi9 : i ≤ 900 := by omega
            clear hd6 hk hle
            go_upto_region 9 with (refine wpList_append_empty_r tyF rfl (.tmp 31) (.tmp 34) rfl w5.heap.size rfl HM.out v3 j c3 (Y.take j) rfl (by have := HD6.out.2.2; rw [List.length_take]; omega) ((HR.out.2.take j).below (HB5.out.trans (HM.out.frame.mono HB5.out.size))) (by rw [List.length_take]; omega) (fun v7 w7 hv7 hw7 => ?_); have HV7 := Lib.hid hv7; clear hv7 hw7)
            have HB7 := Lib.hid (HB5.out.trans (HV7.out.frame.mono HB5.out.size))
            have L6 := HL1.out w7 HB7.out
            have S1 := tyF.slice1 x w7
            have HP8 := Lib.hid (RsAt.one (enc := encE) (L := 22) w7 43 x)
            have HV8 := Lib.hid (HV7.out.later ((Below.refl _ _).alloc (Nat.le_refl _) (.cells (recA encE x) 43)))
            clear SLT
            go_upto_region 10 with (first | (refine wpList_load_at rfl _ _ rfl _ _ rfl L6 ?_) | (refine wpList_buildSlice_at rfl _ _ _ rfl [(0, .agg (recA encE x))] _ rfl S1 ?_) | (refine wpList_append_r tyF rfl (.tmp 36) (.tmp 41) rfl _ (Y.take j) rfl HV8.out (some ⟨w7.heap.size, 0, none⟩) 1 1 [x] rfl rfl HP8.out (by simp; omega) ?_; intro v9 w9 hv9 hg9 hn9; have HV9 := Lib.hid hv9; clear hv9 hg9 hn9 L6 S1))
            have HB9 := Lib.hid (HB5.out.trans (HV9.out.frame.mono HB5.out.size))
            go_wp2_with (refine wpList_append_r tyF rfl (.tmp 43) (.tmp 46) rfl _ (Y.take j ++ [x]) rfl HV9.out a6 k c6 (Y.drop j) rfl (by rw [List.length_drop]; exact HD6.out.2.1) (HD6.out.1.below HB9.out) (by have := HX.out.2.2.2.1; simp; omega) ?_; intro v10 w10 hv10 hg10 hn10; have HV10 := Lib.hid hv10; clear hv10 hg10 hn10)
            have HFIN : Hid (RSortRow w l (i + 1) v10 w10) := Lib.hid ⟨_, HD.out.1, HD.out.2, HV10.out.rebase (HR.out.1.frame.trans (HB5.out.mono HR.out.1.frame.size))⟩
            go_roundw
            case rel => exact ⟨i + 1, by go_num, by omega, HFIN.out⟩
            case measure => simp [intOf]; omega
          · have HD := Lib.hid (HA.out.1.step (o := o) (by omega) HB.out.1.symm)
            go_wp2_with fail
            go_roundw
            case rel => exact ⟨o, by first | rfl | (have := HB.out.2; subst this; go_num), by omega, HD.out, HB5.out⟩
            case measure => simp [intOf]; omega
        · have t2 : decide ((0 : Int) < (j : Int)) = false := decide_eq_false (by omega)
          have t2' : decide (0 < j) = false := decide_eq_false hj0
          have hdone := HA.out.1.done HX.out.1 HX.out.2.1 HX.out.2.2.2.2.2.1 HX.out.2.2.2.2.2.2 (.inl (by omega))
          have HD := Lib.hid hdone
          clear hdone hbb
          go_upto_region 6 with (fail)
          refine wp_region_mg [(0, 0), (1, 0), (2, 0), (3, 0), (4, 0), (5, 0), (6, 0), (7, 0), (8, 0), (9, 0), (10, 0), (11, 0), (12, 0), (13, 0)] (by kernel_rfl) (by kernel_rfl) ?_
          iterate 14 (refine mg_calm rfl (fun K hK => ?_); go_simp; (refine hK _ ?_; clear hK K))
          refine mg_nil fun w5 hw5 => ?_
          have hb5 : Below wo.heap.size wo w5 := Below.trans HA.out.2 (Below.mono hw5 HA.out.2.size)
          have HB5 := Lib.hid hb5
          clear hw5 hb5
          have hle : j ≤ Y.length := HA.out.1.1
          have SLT := HR.out.2.to tyF hle (j : Int) rfl
          obtain ⟨a6, c6, SLF, hd6⟩ := HR.out.2.from tyF hle (j : Int) rfl
          obtain ⟨k, hk⟩ : ∃ k, k = Y.length - j := ⟨_, rfl⟩
          rw [← hk] at SLF
          rw [HX.out.2.2.2.1] at SLT SLF
          have HD6 := Lib.hid (And.intro hd6 (And.intro hk hle))
          have HM := Lib.hid (OwnR.made 22 encE w5 43)
          have hi9 : i ≤ 900 := by omega
          clear hd6 hk hle
          go_upto_region 9 with (refine wpList_append_empty_r tyF rfl (.tmp 31) (.tmp 34) rfl w5.heap.size rfl HM.out v3 j c3 (Y.take j) rfl (by have := HD6.out.2.2; rw [List.length_take]; omega) ((HR.out.2.take j).below (HB5.out.trans (HM.out.frame.mono HB5.out.size))) (by rw [List.length_take]; omega) (fun v7 w7 hv7 hw7 => ?_); have HV7 := Lib.hid hv7; clear hv7 hw7)
          have HB7 := Lib.hid (HB5.out.trans (HV7.out.frame.mono HB5.out.size))
          have L6 := HL1.out w7 HB7.out
          have S1 := tyF.slice1 x w7
          have HP8 := Lib.hid (RsAt.one (enc := encE) (L := 22) w7 43 x)
          have HV8 := Lib.hid (HV7.out.later ((Below.refl _ _).alloc (Nat.le_refl _) (.cells (recA encE x) 43)))
          clear SLT
          go_upto_region 10 with (first | (refine wpList_load_at rfl _ _ rfl _ _ rfl L6 ?_) | (refine wpList_buildSlice_at rfl _ _ _ rfl [(0, .agg (recA encE x))] _ rfl S1 ?_) | (refine wpList_append_r tyF rfl (.tmp 36) (.tmp 41) rfl _ (Y.take j) rfl HV8.out (some ⟨w7.heap.size, 0, none⟩) 1 1 [x] rfl rfl HP8.out (by simp; omega) ?_; intro v9 w9 hv9 hg9 hn9; have HV9 := Lib.hid hv9; clear hv9 hg9 hn9 L6 S1))
          have HB9 := Lib.hid (HB5.out.trans (HV9.out.frame.mono HB5.out.size))
          go_wp2_with (refine wpList_append_r tyF rfl (.tmp 43) (.tmp 46) rfl _ (Y.take j ++ [x]) rfl HV9.out a6 k c6 (Y.drop j) rfl (by rw [List.length_drop]; exact HD6.out.2.1) (HD6.out.1.below HB9.out) (by have := HX.out.2.2.2.1; simp; omega) ?_; intro v10 w10 hv10 hg10 hn10; have HV10 := Lib.hid hv10; clear hv10 hg10 hn10)
          have HFIN : Hid (RSortRow w l (i + 1) v10 w10) := Lib.hid ⟨_, HD.out.1, HD.out.2, HV10.out.rebase (HR.out.1.frame.trans (HB5.out.mono HR.out.1.frame.size))⟩
          go_roundw
          case rel => exact ⟨i + 1, by go_num, by omega, HFIN.out⟩
          case measure => simp [intOf]; omega
    · obtain rfl : i = n := by omega
      have t1 : decide ((i : Int) < (i : Int)) = false := decide_eq_false (by omega)
      have t1' : decide (i < i) = false := decide_eq_false (by omega)
      have HRES := Lib.hid (show RSortedOut w l (.returned _) wo from ⟨_, Y, rfl, hY, by rw [HG.out.2.1, List.take_of_length_le (Nat.le_refl _)] at hst; exact hst, hrow⟩)
      clear hY hst hrow
      go_wp2_with fail
      go_ret
      exact HRES.out
end Go.Proofs.Ytbllpjphlanchaa
