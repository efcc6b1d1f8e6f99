/-
  marks.Print and the document's Print: the walks.
-/
import Derived.Test.YtnlkanhakmkejaaSl24
import Derived.Test.YtnlkanhakmkejaaRightP
import Derived.Test.YtnlkanhakmkejaaRefHex
import Derived.Laws.Concat
namespace Go.Proofs.Ytnlkanhakmkejaa
open Go.RowKit Go.Mix Go.WideMaps Go.Proofs

def lineL (p : Pr) : List UInt8 := hexL p.1.1 ++ [32] ++ hexL p.2.1 ++ [10]
def textL (l : List Pr) : List UInt8 := l.flatMap lineL
theorem lineL_len (p : Pr) : (lineL p).length = 82 := by
  have h1 := p.1.2
  have h2 := p.2.2
  simp only [lineL, List.length_append, hexL_len, h1, h2, List.length_singleton]
theorem textL_len : ∀ l : List Pr, (textL l).length = 82 * l.length
  | [] => rfl
  | p :: l => by
    have := textL_len l
    simp only [textL, List.flatMap_cons, List.length_append, lineL_len, List.length_cons] at this ⊢
    omega
theorem textL_succ {l : List Pr} {i : Nat} (h : i < l.length) : textL (l.take (i + 1)) = textL (l.take i) ++ lineL l[i]! := by
  rw [take_succ h]; unfold textL; rw [List.flatMap_append]; simp
def strOf (l : List UInt8) : ByteArray := ⟨l.toArray⟩
theorem strOf_size (l : List UInt8) : (strOf l).size = l.length := by simp [strOf, ByteArray.size]

set_option maxRecDepth 100000 in
set_option maxHeartbeats 4000000 in
theorem print_any {w : World} {l : List Pr} {a : Option Addr} {cap : Nat} (hg : PsAt w a cap l) (hlen : l.length ≤ 1000000) :
    Calls Try.prog 15 #[.slice a l.length cap] w fun e w' => (Rt l → ∃ b c, e = .returned (.tuple #[.slice b (82 * l.length) c, .int .i64 0]) ∧ Sl w' b c (textL l)) ∧ (¬ Rt l → e = .returned (.tuple #[.slice none 0 0, .int .i64 9])) ∧ Below w.heap.size w w' := by
  have C1 := right_any hg hlen
  obtain ⟨n, hn⟩ : ∃ n, n = l.length := ⟨_, rfl⟩
  have HN := Lib.hid hn
  have HG := Lib.hid hg
  rw [← hn] at C1 hlen ⊢
  clear hn hg
  obtain ⟨Z, hZ⟩ : ∃ Z, Z = encA (id0, id0) := ⟨_, rfl⟩
  have z : ∀ w, (zeroValue 32).run Try.prog w = .ok (.agg Z) w := fun w => by rw [hZ]; kernel_rfl
  have HZ := Lib.hid hZ
  clear hZ
  go_enter Try.func15, Try.ntmps15
  go_wp2_with fail
  refine C1.mono ?_
  rintro e w2 ⟨r, rfl, hr, hb2⟩
  have HR := Lib.hid hr
  have HB2 := Lib.hid hb2
  clear C1 hr hb2
  cases r
  · have hno : ¬ Rt l := fun h => by have := HR.out.2 h; cases this
    go_wp2_with fail
    go_ret2
    exact ⟨fun h => absurd h hno, fun _ => rfl, HB2.out⟩
  · have hyes := HR.out.1 rfl
    have hbl := bld_new w2
    have hb3 : Below w.heap.size w (w2.alloc (.cells #[.pointer none, .slice none 0 0] 60)) := HB2.out.alloc HB2.out.size _
    obtain ⟨B, hB⟩ : ∃ B, B = w2.heap.size := ⟨_, rfl⟩
    have hBw : w.heap.size ≤ B := by rw [hB]; exact HB2.out.size
    rw [← hB] at hbl
    have HBL := Lib.hid (And.intro hbl hb3)
    have HY := Lib.hid hyes
    clear hbl hb3 hyes
    go_wp2_with fail
    rw [← hB]
    clear hB
    go_loopw [12] (fun s12 wr => ∃ i : Nat, s12 = .int .i64 (i : Int) ∧ i ≤ n ∧ Bld B B (textL (l.take i)) wr ∧ Below w.heap.size w wr) (fun s12 _ => n - (intOf s12).toNat)
    case atStart => exact ⟨0, rfl, Nat.zero_le _, HBL.out.1, HBL.out.2⟩
    case round =>
      obtain ⟨i, rfl, hi, hbl, hb⟩ := hrel
      by_cases hin : i < n
      · have t1 : decide ((i : Int) < (n : Int)) = true := decide_eq_true (by omega)
        have t1' : decide (i < n) = true := decide_eq_true (by omega)
        have hil : i < l.length := by rw [← HN.out]; omega
        obtain ⟨b, q, IX, L, -, -⟩ := (HG.out.below hb).at tyG (i : Int) i rfl hil
        rw [← HN.out] at IX
        have L' := L _ (Below.refl _ _)
        have HS := Lib.hid (textL_succ hil)
        have hacc : (textL (l.take i)).length ≤ 82000000 := by rw [textL_len, List.length_take]; omega
        have HACC := Lib.hid hacc
        obtain ⟨p, hp⟩ : ∃ p, p = l[i]! := ⟨_, rfl⟩
        rw [← hp] at L'
        have HPP := Lib.hid hp
        have hzb : (wr.alloc (.cells Z 32)).heap[wr.heap.size]? = some (.cells Z 32 (0, 0)) := heap_alloc_last _ _ _ rfl
        have zs : Z.size = (encA p).size := by rw [HZ.out]; simp [encA, enc_len]
        have zi : (Try.prog.info? 32).map (·.size) = some (encA p).size := by rw [show (encA p).size = 40 by simp [encA, enc_len]]; exact tyG.ie
        have z1 : (encA p).all (·.oneCell') = true := all_oneCell_toArray (enc_one _)
        have gA : Below wr.heap.size wr ((wr.alloc (.cells Z 32)).setRow wr.heap.size (encA p)) := below_setRow ((Below.refl _ _).alloc (Nat.le_refl _) _) (Nat.le_refl _) _
        have hbox : ((wr.alloc (.cells Z 32)).setRow wr.heap.size (encA p)).heap[wr.heap.size]? = some (.cells (encA p) 32 (0, 0)) := setRow_heap _ _ _ _ _ _ hzb
        have HA := Lib.hid (And.intro gA hbox)
        have HW := Lib.hid (And.intro hbl hb)
        generalize textL (l.take i) = acc at *
        clear L hp hb hbl hil gA hbox hacc
        go_upto_region 7 with (first | (refine wpList_load_at rfl _ _ rfl _ _ rfl L' ?_) | (refine wpList_store_row rfl 32 _ _ rfl wr.heap.size (encA p) rfl rfl 32 Z hzb zi zs z1 ?_))
        have gA := HA.out.1
        have hbox := HA.out.2
        obtain ⟨X, hX⟩ : ∃ X, X = wr.heap.size := ⟨_, rfl⟩
        clear HA L' IX zs zi z1 hzb
        generalize (wr.alloc (.cells Z 32)).setRow wr.heap.size (encA p) = w5 at *
        rw [← hX] at hbox ⊢
        have bl5 := HW.out.1.later gA
        have hb5 := HW.out.2.trans (gA.mono HW.out.2.size)
        have LA : ∀ y : Later w5, (Instr.loadAt 30 (.pointer (some ⟨X, 0, none⟩))).run Try.prog y.1 = .ok (.agg (idA p.1)) y.1 := fun y => tyG.loadId p.1 _ _ _ (rangeAt_enc.1 (pairBox (block_below hbox y.2))).1
        have LB : ∀ y : Later w5, (Instr.loadAt 30 (.pointer (some ⟨X, 20, none⟩))).run Try.prog y.1 = .ok (.agg (idA p.2)) y.1 := fun y => by
          have := tyG.loadId p.2 _ _ _ (rangeAt_enc.1 (pairBox (block_below hbox y.2))).2
          simp only [Nat.zero_add] at this
          exact this
        have A1 : ∀ W, (Op.stringOp .add (hexS p.1) ⟨#[32]⟩).run Try.prog W = .ok (.string (strOf (hexL p.1.1 ++ [32]))) W := fun W => Go.run_string_add_lists (P := Try.prog) W (hexL p.1.1) [32] (by rw [hexL_len, p.1.2]; omega) (by decide)
        have A2 : ∀ W, (Op.stringOp .add (strOf (hexL p.1.1 ++ [32])) (hexS p.2)).run Try.prog W = .ok (.string (strOf (hexL p.1.1 ++ [32] ++ hexL p.2.1))) W := fun W => Go.run_string_add_lists (P := Try.prog) W (hexL p.1.1 ++ [32]) (hexL p.2.1) (by rw [List.length_append, hexL_len, p.1.2]; decide) (by rw [hexL_len, p.2.2]; omega)
        have A3 : ∀ W, (Op.stringOp .add (strOf (hexL p.1.1 ++ [32] ++ hexL p.2.1)) ⟨#[10]⟩).run Try.prog W = .ok (.string (strOf (lineL p))) W := fun W => Go.run_string_add_lists (P := Try.prog) W (hexL p.1.1 ++ [32] ++ hexL p.2.1) [10] (by rw [List.length_append, List.length_append, hexL_len, hexL_len, p.1.2, p.2.2]; decide) (by decide)
        have CX := fun W => hex_any p.1 W
        have CY := fun W => hex_any p.2 W
        have HLN := Lib.hid (show (strOf (lineL p)).size = 82 ∧ (strOf (lineL p)).data.toList = lineL p by rw [strOf_size, lineL_len]; exact ⟨rfl, rfl⟩)
        have H5 := Lib.hid (And.intro bl5 hb5)
        obtain ⟨T4, hT4⟩ : ∃ T, T = strOf (lineL p) := ⟨_, rfl⟩
        have HT4 := Lib.hid hT4
        rw [← hT4] at A3
        generalize strOf (hexL p.1.1 ++ [32] ++ hexL p.2.1) = T3 at *
        generalize strOf (hexL p.1.1 ++ [32]) = T2 at *
        generalize hexS p.1 = T1 at *
        generalize hexS p.2 = T5 at *
        generalize idA p.1 = V1 at *
        generalize idA p.2 = V2 at *
        clear bl5 hb5 hbox gA hX hT4
        refine wp_region_mix [(0, 0), (1, 0), (2, 0), (3, 0), (4, 0), (5, 0), (6, 0), (7, 0), (8, 0), (9, 2)] (by kernel_rfl) (by kernel_rfl) ?_
        (refine mix_calm rfl (fun K hK => ?_); go_simp; (refine hK _ ?_; clear hK K))
        refine mix_load rfl rfl _ _ rfl _ _ rfl LA ?_
        refine mix_calm rfl (fun K hK => ?_)
        go_simp
        apply Exists.intro
        refine ⟨fun y => CX y.1, hK _ ?_⟩
        clear hK K
        iterate 2 (refine mix_calm rfl (fun K hK => ?_); go_simp; (refine hK _ ?_; clear hK K))
        refine mix_load rfl rfl _ _ rfl _ _ rfl LB ?_
        refine mix_calm rfl (fun K hK => ?_)
        go_simp
        apply Exists.intro
        refine ⟨fun y => CY y.1, hK _ ?_⟩
        clear hK K
        iterate 2 (refine mix_calm rfl (fun K hK => ?_); go_simp; (refine hK _ ?_; clear hK K))
        refine mix_sync rfl rfl (fun w8 hw8 K hK => ?_)
        have bl8 := H5.out.1.later hw8
        have hb8 := H5.out.2.trans (Below.mono hw8 H5.out.2.size)
        have C9 := bld_str B B acc T4 w8 bl8 (by rw [HT4.out, HLN.out.1]; have := HACC.out; omega) (Nat.le_of_lt (bl8.elim (·.lt) (·.lt)))
        rw [HT4.out, HLN.out.1, ← HT4.out] at C9
        have HB8 := Lib.hid hb8
        clear bl8 hb8 hw8 LA LB A1 A2 A3 CX CY
        go_wp2_with fail
        refine C9.mono ?_
        rintro e w9 ⟨rfl, bl9, hb9⟩
        rw [HT4.out, HLN.out.2, HPP.out, ← HS.out] at bl9
        have HB9 := Lib.hid (HB8.out.trans (hb9.mono hBw))
        clear C9 hb9
        go_wp2_with fail
        refine mix_nil fun w10 hw10 => ?_
        have bl10 := bl9.later hw10
        have HB10 := Lib.hid (HB9.out.trans (Below.mono hw10 HB9.out.size))
        clear bl9 hw10
        go_wp2_with fail
        go_roundw
        case rel => exact ⟨i + 1, by go_num, by omega, bl10, HB10.out⟩
        case measure => simp [intOf]; omega
      · obtain rfl : i = n := by omega
        have t1 : decide ((i : Int) < (i : Int)) = false := decide_eq_false (by omega)
        have t1' : decide (i < i) = false := decide_eq_false (by omega)
        have et : l.take i = l := by rw [HN.out]; exact List.take_of_length_le (Nat.le_refl _)
        rw [et] at hbl
        have C := Try.Builder_String_any B B (textL l) wr hbl (Nat.le_of_lt (hbl.elim (·.lt) (·.lt)))
        have HB := Lib.hid hb
        change Calls _ _ _ _ (fun e w' => e = .returned (.string (strOf (textL l))) ∧ Below B wr w') at C
        have hs : (strOf (textL l)).size = 82 * i := by rw [strOf_size, textL_len, HN.out]
        have hd : (strOf (textL l)).data.toList = textL l := rfl
        have HSD := Lib.hid (And.intro hs hd)
        obtain ⟨T, hT⟩ : ∃ T, T = strOf (textL l) := ⟨_, rfl⟩
        have HT := Lib.hid hT
        rw [← hT] at C
        clear hb hbl et hs hd hT
        go_wp2_with fail
        refine C.mono ?_
        rintro e w11 ⟨rfl, hb11⟩
        obtain ⟨c12, w12, hrun, hsl, hb12⟩ := bytes_made w11 T (by rw [HT.out, HSD.out.1]; omega)
        rw [HT.out, HSD.out.1, ← HT.out] at hrun
        rw [HT.out, HSD.out.2] at hsl
        have HB11 := Lib.hid (HB.out.trans (hb11.mono hBw))
        have HSL := Lib.hid (And.intro hsl hb12)
        clear C hb11 hsl hb12
        go_wp2_with fail
        go_ret2
        refine ⟨fun _ => ⟨_, _, rfl, HSL.out.1⟩, fun h => absurd HY.out h, HB11.out.trans (HSL.out.2.mono HB11.out.size)⟩
end Go.Proofs.Ytnlkanhakmkejaa
