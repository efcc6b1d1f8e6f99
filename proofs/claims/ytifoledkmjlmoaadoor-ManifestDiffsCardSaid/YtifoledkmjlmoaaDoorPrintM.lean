/-
  manifest.Print, the document's Print: the walks. (Printed by gen/gen_printm.py.)
-/
import Derived.Test.YtifoledkmjlmoaaDoorRightM
import Derived.Test.YtifoledkmjlmoaaDoorSha18
import Derived.Test.YtifoledkmjlmoaaDoorCmp18
import Derived.Test.YtifoledkmjlmoaaDoorCat
namespace Go.Proofs.YtifoledkmjlmoaaDoor
open Go.RowKit Go.Mix Go.WideMaps

def lineM (p : MFile) : List UInt8 := p.path ++ [0] ++ hexL p.node.1 ++ p.flag ++ [10]
def textM (l : List MFile) : List UInt8 := l.flatMap lineM
theorem lineM_len (p : MFile) : (lineM p).length = p.path.length + p.flag.length + 42 := by
  have h1 := p.node.2
  simp only [lineM, List.length_append, hexL_len, h1, List.length_singleton]
  omega
theorem textM_len (K : Nat) : ∀ l : List MFile, (∀ p ∈ l, p.path.length ≤ K ∧ p.flag.length ≤ K) → (textM l).length ≤ (2 * K + 42) * l.length
  | [], _ => by simp [textM]
  | p :: l, h => by
    have h1 := textM_len K l (fun q hq => h q (by simp [hq]))
    have h2 := h p (by simp)
    unfold textM at h1 ⊢
    rw [List.flatMap_cons, List.length_append, lineM_len, List.length_cons, Nat.mul_succ]
    omega
theorem textM_succ {l : List MFile} {i : Nat} (h : i < l.length) : textM (l.take (i + 1)) = textM (l.take i) ++ lineM l[i]! := by
  rw [take_succM h]; unfold textM; rw [List.flatMap_append]; simp

set_option maxRecDepth 100000 in
set_option maxHeartbeats 4000000 in
theorem print_any {w : World} {l : List MFile} {a : Option Addr} {cap : Nat} (hg : RsAt encM 22 w a cap l) (hlen : l.length ≤ 3000) (hnm : ∀ p ∈ l, p.path.length ≤ 10000 ∧ p.flag.length ≤ 10000) :
    Calls Tryd.prog 10 #[.slice a l.length cap] w fun e w' => (RightM l → ∃ b c, e = .returned (.tuple #[.slice b (textM l).length c, .int .i64 0]) ∧ Sl w' b c (textM l)) ∧ (¬ RightM l → e = .returned (.tuple #[.slice none 0 0, .int .i64 4])) ∧ Below w.heap.size w w' := by
  have C1 := right_any hg (by omega) (fun p hp => ⟨Nat.le_trans (hnm p hp).1 (by decide), Nat.le_trans (hnm p hp).2 (by decide)⟩)
  obtain ⟨n, hn⟩ : ∃ n, n = l.length := ⟨_, rfl⟩
  have HN := Lib.hid (And.intro hn hnm)
  have HG := Lib.hid hg
  rw [← hn] at C1 hlen ⊢
  clear hn hg hnm
  obtain ⟨Z, hZ⟩ : ∃ Z, Z = recA encM mf0 := ⟨_, rfl⟩
  have z : ∀ w, (zeroValue 46).run Tryd.prog w = .ok (.agg Z) w := fun w => by rw [hZ]; kernel_rfl
  have HZ := Lib.hid hZ
  clear hZ
  go_enter Tryd.func10, Tryd.ntmps10
  go_wp2_with fail
  refine C1.mono ?_
  rintro e w2 ⟨r, rfl, hr, hb2⟩
  have HR := Lib.hid hr
  have HB2 := Lib.hid hb2
  clear C1 hr hb2
  cases r
  · have hno : ¬ RightM l := fun h => by have := HR.out.2 h; cases this
    go_wp2_with fail
    go_ret2
    exact ⟨fun h => absurd h hno, fun _ => rfl, HB2.out⟩
  · have hyes := HR.out.1 rfl
    have hbl := bld_new w2
    have hb3 : Below w.heap.size w (w2.alloc (.cells #[.pointer none, .slice none 0 0] 58)) := HB2.out.alloc HB2.out.size _
    obtain ⟨B, hB⟩ : ∃ B, B = w2.heap.size := ⟨_, rfl⟩
    have hBw : w.heap.size ≤ B := by rw [hB]; exact HB2.out.size
    rw [← hB] at hbl
    have HBL := Lib.hid (And.intro hbl hb3)
    have HY := Lib.hid hyes
    clear hbl hb3 hyes
    go_wp2_with fail
    rw [← hB]
    clear hB
    go_loopw [12] (fun s12 wr => ∃ i : Nat, s12 = .int .i64 (i : Int) ∧ i ≤ n ∧ Bld B B (textM (l.take i)) wr ∧ Below w.heap.size w wr) (fun s12 _ => n - (intOf s12).toNat)
    case atStart => exact ⟨0, rfl, Nat.zero_le _, HBL.out.1, HBL.out.2⟩
    case round =>
      obtain ⟨i, rfl, hi, hbl, hb⟩ := hrel
      by_cases hin : i < n
      · have t1 : decide ((i : Int) < (n : Int)) = true := decide_eq_true (by omega)
        have t1' : decide (i < n) = true := decide_eq_true (by omega)
        have hil : i < l.length := by rw [← HN.out.1]; omega
        obtain ⟨b, q, IX, -, L⟩ := (HG.out.below hb).at tyM (i : Int) i rfl hil
        rw [← HN.out.1] at IX
        have L' := L _ (Below.refl _ _)
        have HS := Lib.hid (textM_succ hil)
        have hpn : l[i]!.path.length ≤ 10000 ∧ l[i]!.flag.length ≤ 10000 := HN.out.2 _ (by rw [getElem!_pos l i hil]; exact List.getElem_mem hil)
        have hacc : (textM (l.take i)).length ≤ 66000000 := by
          have h1 := textM_len 10000 (l.take i) (fun p hp => HN.out.2 p (List.mem_of_mem_take hp))
          have h2 : (l.take i).length ≤ 3000 := by rw [List.length_take]; omega
          have h3 := Nat.mul_le_mul_left (2 * 10000 + 42) h2
          omega
        have HACC := Lib.hid hacc
        obtain ⟨p, hp⟩ : ∃ p, p = l[i]! := ⟨_, rfl⟩
        rw [← hp] at L' hpn
        have HPP := Lib.hid (And.intro hp hpn)
        have hzb : (wr.alloc (.cells Z 46)).heap[wr.heap.size]? = some (.cells Z 46 (0, 0)) := heap_alloc_last _ _ _ rfl
        have zs : Z.size = (recA encM p).size := by rw [HZ.out]; simp [recA, encM_len]
        have zi : (Tryd.prog.info? 46).map (·.size) = some (recA encM p).size := by rw [show (recA encM p).size = 22 by simp [recA, encM_len]]; exact tyM.ie
        have z1 : (recA encM p).all (·.oneCell') = true := all_oneCell_toArray (encM_one _)
        have gA : Below wr.heap.size wr ((wr.alloc (.cells Z 46)).setRow wr.heap.size (recA encM p)) := below_setRow ((Below.refl _ _).alloc (Nat.le_refl _) _) (Nat.le_refl _) _
        have hbox : ((wr.alloc (.cells Z 46)).setRow wr.heap.size (recA encM p)).heap[wr.heap.size]? = some (.cells (recA encM p) 46 (0, 0)) := setRow_heap _ _ _ _ _ _ hzb
        have HA := Lib.hid (And.intro gA hbox)
        have HW := Lib.hid (And.intro hbl hb)
        generalize textM (l.take i) = acc at *
        clear L hp hb hbl hil gA hbox hacc hpn
        go_upto_region 7 with (first | (refine wpList_load_at rfl _ _ rfl _ _ rfl L' ?_) | (refine wpList_store_row rfl 46 _ _ rfl wr.heap.size (recA encM p) rfl rfl 46 Z hzb zi zs z1 ?_))
        have gA := HA.out.1
        have hbox := HA.out.2
        obtain ⟨X, hX⟩ : ∃ X, X = wr.heap.size := ⟨_, rfl⟩
        clear HA L' IX zs zi z1 hzb
        generalize (wr.alloc (.cells Z 46)).setRow wr.heap.size (recA encM p) = w5 at *
        rw [← hX] at hbox ⊢
        clear hX
        have bl5 := HW.out.1.later gA
        have hb5 := HW.out.2.trans (gA.mono HW.out.2.size)
        obtain ⟨f0, f1, f2⟩ := mf_fields (recBox hbox)
        rw [Nat.zero_add] at f1 f2
        have LA : ∀ y : Later w5, (Instr.loadAt 9 (.pointer (some ⟨X, 0, none⟩))).run Tryd.prog y.1 = .ok (.string (strOf p.path)) y.1 := fun y => by
          have c := load_later f0 y
          go_simp
        have LB : ∀ y : Later w5, (Instr.loadAt 44 (.pointer (some ⟨X, 1, none⟩))).run Tryd.prog y.1 = .ok (.agg (idA p.node)) y.1 := fun y => load_id arrG (by kernel_rfl) _ _ _ _ (rangeR_below f1 y.2)
        have LC : ∀ y : Later w5, (Instr.loadAt 9 (.pointer (some ⟨X, 21, none⟩))).run Tryd.prog y.1 = .ok (.string (strOf p.flag)) y.1 := fun y => by
          have c := load_later f2 y
          go_simp
        have hh : (hexL p.node.1).length = 40 := by rw [hexL_len, p.node.2]
        have A1 := fun W => str_add p.path [0] (by have := HPP.out.2.1; omega) (by decide) W
        have A2 := fun W => str_add (p.path ++ [0]) (hexL p.node.1) (by have := HPP.out.2.1; rw [List.length_append, List.length_singleton]; omega) (by rw [hh]; decide) W
        have A3 := fun W => str_add (p.path ++ [0] ++ hexL p.node.1) p.flag (by have := HPP.out.2.1; rw [List.length_append, List.length_append, hh, List.length_singleton]; omega) (by have := HPP.out.2.2; omega) W
        have A4 := fun W => str_add (p.path ++ [0] ++ hexL p.node.1 ++ p.flag) [10] (by have := HPP.out.2.1; have := HPP.out.2.2; rw [List.length_append, List.length_append, List.length_append, hh, List.length_singleton]; omega) (by decide) W
        have CX := fun W => hex_any p.node W
        have HLN := Lib.hid (show (strOf (lineM p)).size ≤ 20042 ∧ (strOf (lineM p)).data.toList = lineM p by rw [strOf_size, lineM_len]; exact ⟨by have := HPP.out.2; omega, rfl⟩)
        have H5 := Lib.hid (And.intro bl5 hb5)
        obtain ⟨T5, hT5⟩ : ∃ T, T = strOf (lineM p) := ⟨_, rfl⟩
        have HT5 := Lib.hid hT5
        change ∀ W : World, (Op.stringOp .add _ _).run Tryd.prog W = .ok (.string (strOf (lineM p))) W at A4
        rw [← hT5] at A4
        generalize strOf (p.path ++ [0] ++ hexL p.node.1 ++ p.flag) = T4 at *
        generalize strOf (p.path ++ [0] ++ hexL p.node.1) = T3 at *
        generalize strOf (p.path ++ [0]) = T2 at *
        change ∀ W : World, Calls _ _ _ W (fun e w' => e = .returned (.string (strOf (hexL p.node.1))) ∧ _) at CX
        generalize strOf (hexL p.node.1) = TH at *
        generalize strOf p.path = TP at *
        generalize strOf p.flag = TF at *
        generalize idA p.node = V1 at *
        have e0 : strOf [0] = ⟨#[0]⟩ := rfl
        have e10 : strOf [10] = ⟨#[10]⟩ := rfl
        rw [e0] at A1
        rw [e10] at A4
        clear bl5 hb5 hbox gA hT5 f0 f1 f2 hh e0 e10
        refine wp_region_mg [(0, 0), (1, 0), (2, 0), (3, 0), (4, 0), (5, 0), (6, 0), (7, 0), (8, 0), (9, 0), (10, 0), (11, 2)] (by kernel_rfl) (by kernel_rfl) ?_
        iterate 1 (refine mg_calm rfl (fun K hK => ?_); go_simp; (refine hK _ ?_; clear hK K))
        refine mg_load rfl rfl _ _ rfl _ _ rfl LA ?_
        iterate 2 (refine mg_calm rfl (fun K hK => ?_); go_simp; (refine hK _ ?_; clear hK K))
        refine mg_load rfl rfl _ _ rfl _ _ rfl LB ?_
        (refine mg_calm rfl (fun K hK => ?_); go_simp; apply Exists.intro; refine ⟨fun z => CX z.1, hK _ ?_⟩; clear hK K)
        iterate 2 (refine mg_calm rfl (fun K hK => ?_); go_simp; (refine hK _ ?_; clear hK K))
        refine mg_load rfl rfl _ _ rfl _ _ rfl LC ?_
        iterate 2 (refine mg_calm rfl (fun K hK => ?_); go_simp; (refine hK _ ?_; clear hK K))
        refine mg_sync rfl rfl (fun w8 hw8 K hK => ?_)
        have bl8 := H5.out.1.later hw8
        have hb8 := H5.out.2.trans (Below.mono hw8 H5.out.2.size)
        have C9 := bld_str B B acc T5 w8 bl8 (by rw [HT5.out]; have := HACC.out; have := HLN.out.1; omega) (Nat.le_of_lt (bl8.elim (·.lt) (·.lt)))
        obtain ⟨sz, hsz⟩ : ∃ sz, sz = T5.size := ⟨_, rfl⟩
        rw [← hsz] at C9
        have HB8 := Lib.hid hb8
        clear bl8 hb8 hw8 LA LB LC A1 A2 A3 A4 CX hsz
        go_wp2_with fail
        refine C9.mono ?_
        rintro e w9 ⟨rfl, bl9, hb9⟩
        rw [HT5.out, HLN.out.2, HPP.out.1, ← HS.out] at bl9
        have HB9 := Lib.hid (HB8.out.trans (hb9.mono hBw))
        clear C9 hb9
        go_wp2_with fail
        refine mg_nil fun w10 hw10 => ?_
        have bl10 := bl9.later hw10
        have HB10 := Lib.hid (HB9.out.trans (Below.mono hw10 HB9.out.size))
        clear bl9 hw10
        go_wp2_with fail
        go_roundw
        case rel => exact ⟨i + 1, by go_num, by omega, bl10, HB10.out⟩
        case measure => simp [intOf]; omega
      · obtain rfl : i = n := by omega
        have t1 : decide ((i : Int) < (i : Int)) = false := decide_eq_false (by omega)
        have t1' : decide (i < i) = false := decide_eq_false (by omega)
        have et : l.take i = l := by rw [HN.out.1]; exact List.take_of_length_le (Nat.le_refl _)
        rw [et] at hbl
        have C := Tryd.Builder_String_any B B (textM l) wr hbl (Nat.le_of_lt (hbl.elim (·.lt) (·.lt)))
        have HB := Lib.hid hb
        change Calls _ _ _ _ (fun e w' => e = .returned (.string (strOf (textM l))) ∧ Below B wr w') at C
        have hs : (strOf (textM l)).size = (textM l).length := strOf_size _
        have hs2 : (textM l).length ≤ 66000000 := by
          have h1 := textM_len 10000 l HN.out.2
          have h2 : l.length ≤ 3000 := by rw [← HN.out.1]; exact hlen
          have h3 := Nat.mul_le_mul_left (2 * 10000 + 42) h2
          omega
        have hd : (strOf (textM l)).data.toList = textM l := rfl
        obtain ⟨T, hT⟩ : ∃ T, T = strOf (textM l) := ⟨_, rfl⟩
        obtain ⟨tl, htl⟩ : ∃ t, t = (textM l).length := ⟨_, rfl⟩
        rw [← hT] at C hs hd
        rw [← htl] at hs hs2
        have HSD := Lib.hid (And.intro hs (And.intro hd (And.intro htl hs2)))
        clear hb hbl et hs hd hT hs2 htl
        go_wp2_with fail
        refine C.mono ?_
        rintro e w11 ⟨rfl, hb11⟩
        obtain ⟨c12, w12, hrun, hsl, hb12⟩ := bytes_made w11 T (by rw [HSD.out.1]; have := HSD.out.2.2.2; omega)
        rw [HSD.out.1] at hrun
        rw [HSD.out.2.1] at hsl
        have HB11 := Lib.hid (HB.out.trans (hb11.mono hBw))
        have HSL := Lib.hid (And.intro hsl hb12)
        clear C hb11 hsl hb12
        go_wp2_with fail
        go_ret2
        refine ⟨fun _ => ⟨_, _, by rw [← HSD.out.2.2.1]; rfl, HSL.out.1⟩, fun h => absurd HY.out h, HB11.out.trans (HSL.out.2.mono HB11.out.size)⟩

set_option maxRecDepth 100000 in
set_option maxHeartbeats 4000000 in
theorem refPrint_any {w : World} {l : List MFile} {a : Option Addr} {cap : Nat} (hg : RsAt encM 22 w a cap l) (hlen : l.length ≤ 300) (hnm : ∀ p ∈ l, p.path.length ≤ 10000 ∧ p.flag.length ≤ 10000) :
    Calls Tryd.prog 13 #[.slice a l.length cap] w fun e w' => e = .returned (.string (strOf (textM l))) ∧ Below w.heap.size w w' := by
  obtain ⟨n, hn⟩ : ∃ n, n = l.length := ⟨_, rfl⟩
  have HN := Lib.hid (And.intro hn hnm)
  have HG := Lib.hid hg
  rw [← hn] at hlen ⊢
  clear hn hg hnm
  have hF0 := Below.refl w.heap.size w
  go_enter Tryd.func13, Tryd.ntmps13
  go_wp2_with fail
  go_loopw [3, 4] (fun s3 s4 wr => ∃ i : Nat, s4 = .int .i64 (i : Int) ∧ i ≤ n ∧ s3 = .string (strOf (textM (l.take i))) ∧ Below w.heap.size w wr) (fun _ s4 _ => n - (intOf s4).toNat)
  case atStart => exact ⟨0, rfl, Nat.zero_le _, rfl, hF0⟩
  case round =>
    clear hF0
    obtain ⟨i, rfl, hi, rfl, hb⟩ := hrel
    have HB := Lib.hid hb
    by_cases hin : i < n
    · have t1 : decide ((i : Int) < (n : Int)) = true := decide_eq_true (by omega)
      have t1' : decide (i < n) = true := decide_eq_true (by omega)
      have hil : i < l.length := by rw [← HN.out.1]; omega
      obtain ⟨b, q, IX, R, -⟩ := (HG.out.below hb).at tyN (i : Int) i rfl hil
      rw [← HN.out.1] at IX
      obtain ⟨f0, f1, f2⟩ := mf_fields R
      have HS := Lib.hid (textM_succ hil)
      have hpn : l[i]!.path.length ≤ 10000 ∧ l[i]!.flag.length ≤ 10000 := HN.out.2 _ (by rw [getElem!_pos l i hil]; exact List.getElem_mem hil)
      have hacc : (textM (l.take i)).length ≤ 6100000 := by
        have h1 := textM_len 10000 (l.take i) (fun p hp => HN.out.2 p (List.mem_of_mem_take hp))
        have h2 : (l.take i).length ≤ 300 := by rw [List.length_take]; omega
        have h3 := Nat.mul_le_mul_left (2 * 10000 + 42) h2
        omega
      obtain ⟨acc, hac⟩ : ∃ acc, acc = textM (l.take i) := ⟨_, rfl⟩
      rw [← hac] at hacc ⊢
      obtain ⟨p, hp⟩ : ∃ p, p = l[i]! := ⟨_, rfl⟩
      rw [← hp] at f0 f1 f2 hpn
      have HPP := Lib.hid (And.intro hp (And.intro hpn (And.intro hac hacc)))
      have LA : ∀ y : Later wr, (Instr.loadAt 9 (.pointer (some ⟨b, q, none⟩))).run Tryd.prog y.1 = .ok (.string (strOf p.path)) y.1 := fun y => by
        have c := load_later f0 y
        clear IX t1
        go_simp
      have LB : ∀ y : Later wr, (Instr.loadAt 43 (.pointer (some ⟨b, q + 1, none⟩))).run Tryd.prog y.1 = .ok (.agg (idA p.node)) y.1 := fun y => load_id arrR (by kernel_rfl) _ _ _ _ (rangeR_below f1 y.2)
      have LC : ∀ y : Later wr, (Instr.loadAt 9 (.pointer (some ⟨b, q + 21, none⟩))).run Tryd.prog y.1 = .ok (.string (strOf p.flag)) y.1 := fun y => by
        have c := load_later f2 y
        clear IX t1
        go_simp
      have hh : (hexL p.node.1).length = 40 := by rw [hexL_len, p.node.2]
      have A0 := fun W => str_add acc p.path (by omega) (by omega) W
      have A1 := fun W => str_add (acc ++ p.path) [0] (by rw [List.length_append]; omega) (by decide) W
      have A2 := fun W => str_add (acc ++ p.path ++ [0]) (hexL p.node.1) (by rw [List.length_append, List.length_append, List.length_singleton]; omega) (by rw [hh]; decide) W
      have A3 := fun W => str_add (acc ++ p.path ++ [0] ++ hexL p.node.1) p.flag (by rw [List.length_append, List.length_append, List.length_append, hh, List.length_singleton]; omega) (by omega) W
      have A4 := fun W => str_add (acc ++ p.path ++ [0] ++ hexL p.node.1 ++ p.flag) [10] (by rw [List.length_append, List.length_append, List.length_append, List.length_append, hh, List.length_singleton]; omega) (by decide) W
      have hfin : acc ++ p.path ++ [0] ++ hexL p.node.1 ++ p.flag ++ [10] = textM (l.take (i + 1)) := by
        rw [HS.out, ← HPP.out.1, ← HPP.out.2.2.1]
        unfold lineM
        simp only [List.append_assoc]
      rw [hfin] at A4
      have CX := fun W => refHex_any p.node W
      change ∀ W : World, Calls _ _ _ W (fun e w' => e = .returned (.string (strOf (hexL p.node.1))) ∧ _) at CX
      have e0 : strOf [0] = ⟨#[0]⟩ := rfl
      have e10 : strOf [10] = ⟨#[10]⟩ := rfl
      rw [e0] at A1
      rw [e10] at A4
      obtain ⟨T5, hT5⟩ : ∃ T, T = strOf (textM (l.take (i + 1))) := ⟨_, rfl⟩
      have HT5 := Lib.hid hT5
      rw [← hT5] at A4
      generalize strOf (acc ++ p.path ++ [0] ++ hexL p.node.1 ++ p.flag) = U4 at *
      generalize strOf (acc ++ p.path ++ [0] ++ hexL p.node.1) = U3 at *
      generalize strOf (acc ++ p.path ++ [0]) = U2 at *
      generalize strOf (acc ++ p.path) = U1 at *
      generalize strOf acc = U0 at *
      generalize strOf (hexL p.node.1) = TH at *
      generalize strOf p.path = TP at *
      generalize strOf p.flag = TF at *
      generalize idA p.node = V1 at *
      clear hb hil R f0 f1 f2 hpn hacc hac hp hh hfin e0 e10 hT5
      go_upto_region 5 with (fail)
      refine wp_region_mg [(0, 0), (1, 0), (2, 0), (3, 0), (4, 0), (5, 0), (6, 0), (7, 0), (8, 0), (9, 0), (10, 0), (11, 0), (12, 0), (13, 0), (14, 0), (15, 0), (16, 0), (17, 0), (18, 0), (19, 0), (20, 0), (21, 0), (22, 0)] (by kernel_rfl) (by kernel_rfl) ?_
      iterate 5 (refine mg_calm rfl (fun K hK => ?_); go_simp; (refine hK _ ?_; clear hK K))
      refine mg_load rfl rfl _ _ rfl _ _ rfl LA ?_
      iterate 6 (refine mg_calm rfl (fun K hK => ?_); go_simp; (refine hK _ ?_; clear hK K))
      refine mg_load rfl rfl _ _ rfl _ _ rfl LB ?_
      (refine mg_calm rfl (fun K hK => ?_); go_simp; apply Exists.intro; refine ⟨fun z => CX z.1, hK _ ?_⟩; clear hK K)
      iterate 5 (refine mg_calm rfl (fun K hK => ?_); go_simp; (refine hK _ ?_; clear hK K))
      refine mg_load rfl rfl _ _ rfl _ _ rfl LC ?_
      iterate 3 (refine mg_calm rfl (fun K hK => ?_); go_simp; (refine hK _ ?_; clear hK K))
      refine mg_nil fun w7 hw7 => ?_
      have HB7 := Lib.hid (Grow.trans HB.out hw7)
      clear hw7 LA LB LC A0 A1 A2 A3 A4 CX IX
      go_wp2_with fail
      go_roundw
      case rel => exact ⟨i + 1, by go_num, by omega, by rw [HT5.out], HB7.out⟩
      case measure => simp [intOf]; omega
    · obtain rfl : i = n := by omega
      have t1 : decide ((i : Int) < (i : Int)) = false := decide_eq_false (by omega)
      have t1' : decide (i < i) = false := decide_eq_false (by omega)
      have et : l.take i = l := by rw [HN.out.1]; exact List.take_of_length_le (Nat.le_refl _)
      rw [et]
      clear hb et
      go_wp2_with fail
      go_ret
      exact ⟨rfl, HB.out⟩
end Go.Proofs.YtifoledkmjlmoaaDoor
