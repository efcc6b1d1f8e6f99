/-
  refs.line, PrintPacked; the document's Print: the walks.
  refs.ParsePacked; the document's Parse: the walks.
-/
import Derived.Test.YtponfkfeflnilaaGreatDoorMaPkA
import Derived.Test.YtponfkfeflnilaaGreatDoorMaOne
namespace Go.Proofs.YtponfkfeflnilaaGreatDoor
open Go.RowKit Go.Mix Go.WideMaps

set_option maxRecDepth 100000 in
set_option maxHeartbeats 2000000 in
theorem line_any (p : RefP) (hp : p.name.length ≤ 1000000) (w : World) : Calls Tryz.prog 50 #[.agg (recA encP p)] w fun e w' => e = .returned (.string (strOf (lineP p))) ∧ Below w.heap.size w w' := by
  have hbox : (w.alloc (.cells (recA encP p) 88)).heap[w.heap.size]? = some (.cells (recA encP p) 88 (0, 0)) := heap_alloc_last _ _ _ rfl
  have gA : Below w.heap.size w (w.alloc (.cells (recA encP p) 88)) := (Below.refl _ _).alloc (Nat.le_refl _) _
  have LA := load_name (recBoxP hbox)
  have LB := load_idP (recBoxP hbox)
  simp only [Nat.zero_add] at LB
  have hh : (hexL p.id.1).length = 40 := by rw [hexL_len, p.id.2]
  have A1 := fun W => str_add (hexL p.id.1) [32] (by rw [hh]; decide) (by decide) W
  have A2 := fun W => str_add (hexL p.id.1 ++ [32]) p.name (by rw [List.length_append, hh]; decide) (by omega) W
  have A3 := fun W => str_add (hexL p.id.1 ++ [32] ++ p.name) [10] (by rw [List.length_append, List.length_append, hh, List.length_singleton]; omega) (by decide) W
  rw [show hexL p.id.1 ++ [32] ++ p.name ++ [10] = lineP p by simp [lineP]] at A3
  have CX := fun W => hex_any p.id W
  change ∀ W : World, Calls _ _ _ W (fun e w' => e = .returned (.string (strOf (hexL p.id.1))) ∧ _) at CX
  have e32 : strOf [32] = ⟨#[32]⟩ := rfl
  have e10 : strOf [10] = ⟨#[10]⟩ := rfl
  rw [e32] at A1
  rw [e10] at A3
  have HA := Lib.hid gA
  generalize strOf (lineP p) = T5 at *
  generalize strOf (hexL p.id.1 ++ [32] ++ p.name) = T3 at *
  generalize strOf (hexL p.id.1 ++ [32]) = T2 at *
  generalize strOf (hexL p.id.1) = TH at *
  generalize strOf p.name = TP at *
  generalize idA p.id = V1 at *
  clear gA hbox hh e32 e10 hp
  go_enter Tryz.func50, Tryz.ntmps50
  go_upto_region 1 with (fail)
  obtain ⟨X, hX⟩ : ∃ X, X = w.heap.size := ⟨_, rfl⟩
  have HX := Lib.hid hX
  rw [← hX] at LA LB ⊢
  clear hX
  generalize w.alloc (.cells (recA encP p) 88) = w5 at *
  refine wp_region_mg [(0, 0), (1, 0), (2, 0), (3, 0), (4, 0), (5, 0), (6, 0), (7, 0), (8, 0)] (by kernel_rfl) (by kernel_rfl) ?_
  iterate 9 (first | (refine mg_load rfl rfl _ _ rfl _ _ rfl LA ?_) | (refine mg_load rfl rfl _ _ rfl _ _ rfl LB ?_) | (refine mg_calm rfl (fun K hK => ?_); go_simp; apply Exists.intro; refine ⟨fun z => CX z.1, hK _ ?_⟩; clear hK K CX) | (refine mg_calm rfl (fun K hK => ?_); go_simp; (refine hK _ ?_; clear hK K)))
  refine mg_nil fun w7 hw7 => ?_
  have HB7 := Lib.hid (Grow.trans HA.out hw7)
  clear hw7 LA LB A1 A2 A3
  go_wp2_with fail
  go_ret
  exact ⟨rfl, HB7.out⟩

set_option maxRecDepth 100000 in
set_option maxHeartbeats 4000000 in
theorem printPk_any {w : World} {l : List RefP} {a : Option Addr} {cap : Nat} (hg : RsAt encP 21 w a cap l) (hlen : l.length ≤ 3000) (hnm : ∀ p ∈ l, p.name.length ≤ 10000) (hm : MaxIs w) :
    Calls Tryz.prog 16 #[.slice a l.length cap] w fun e w' => (OrdP l → ∃ b c, e = .returned (.tuple #[.slice b (textP l).length c, .int .i64 0]) ∧ Sl w' b c (textP l) ∧ ∀ x, b = some x → w.heap.size ≤ x.block) ∧ (¬ OrdP l → e = .returned (.tuple #[.slice none 0 0, .int .i64 4])) ∧ Below w.heap.size w w' := by
  have C1 := ordered_any hg (by omega) (fun p hp => Nat.le_trans (hnm p hp) (by decide)) hm
  obtain ⟨n, hn⟩ : ∃ n, n = l.length := ⟨_, rfl⟩
  have HN := Lib.hid (And.intro hn hnm)
  have HG := Lib.hid hg
  rw [← hn] at C1 hlen ⊢
  clear hn hg hnm hm
  obtain ⟨Z, hZ⟩ : ∃ Z, Z = recA encP ref0 := ⟨_, rfl⟩
  have z : ∀ w, (zeroValue 88).run Tryz.prog w = .ok (.agg Z) w := fun w => by rw [hZ]; kernel_rfl
  have HZ := Lib.hid hZ
  clear hZ
  go_enter Tryz.func16, Tryz.ntmps16
  go_wp2_with fail
  refine C1.mono ?_
  rintro e w2 ⟨r, rfl, hr, hb2⟩
  have HR := Lib.hid hr
  have HB2 := Lib.hid hb2
  clear C1 hr hb2
  cases r
  · have hno : ¬ OrdP l := fun h => by have := HR.out.2 h; cases this
    go_wp2_with fail
    go_ret2
    exact ⟨fun h => absurd h hno, fun _ => rfl, HB2.out⟩
  · have hyes := HR.out.1 rfl
    have hbl := bld_new w2
    have hb3 : Below w.heap.size w (w2.alloc (.cells #[.pointer none, .slice none 0 0] 94)) := HB2.out.alloc HB2.out.size _
    obtain ⟨B, hB⟩ : ∃ B, B = w2.heap.size := ⟨_, rfl⟩
    have hBw : w.heap.size ≤ B := by rw [hB]; exact HB2.out.size
    rw [← hB] at hbl
    have HBL := Lib.hid (And.intro hbl hb3)
    have HY := Lib.hid hyes
    clear hbl hb3 hyes
    go_wp2_with fail
    rw [← hB]
    clear hB
    go_loopw [12] (fun s12 wr => ∃ i : Nat, s12 = .int .i64 (i : Int) ∧ i ≤ n ∧ Bld B B (textP (l.take i)) wr ∧ Below w.heap.size w wr) (fun s12 _ => n - (intOf s12).toNat)
    case atStart => exact ⟨0, rfl, Nat.zero_le _, HBL.out.1, HBL.out.2⟩
    case round =>
      obtain ⟨i, rfl, hi, hbl, hb⟩ := hrel
      by_cases hin : i < n
      · have t1 : decide ((i : Int) < (n : Int)) = true := decide_eq_true (by omega)
        have t1' : decide (i < n) = true := decide_eq_true (by omega)
        have hil : i < l.length := by rw [← HN.out.1]; omega
        obtain ⟨b, q, IX, -, L⟩ := (HG.out.below hb).at tyP (i : Int) i rfl hil
        rw [← HN.out.1] at IX
        have L' := L _ (Below.refl _ _)
        have HS := Lib.hid (textP_succ hil)
        have hpn : l[i]!.name.length ≤ 10000 := HN.out.2 _ (by rw [getElem!_pos l i hil]; exact List.getElem_mem hil)
        have hacc : (textP (l.take i)).length ≤ 66000000 := by
          have h1 := textP_len 10000 (l.take i) (fun p hp => HN.out.2 p (List.mem_of_mem_take hp))
          have h2 : (l.take i).length ≤ 3000 := by rw [List.length_take]; omega
          have h3 := Nat.mul_le_mul_left (10000 + 42) h2
          omega
        have HACC := Lib.hid hacc
        obtain ⟨p, hp⟩ : ∃ p, p = l[i]! := ⟨_, rfl⟩
        rw [← hp] at L' hpn
        have HPP := Lib.hid (And.intro hp hpn)
        have hzb : (wr.alloc (.cells Z 88)).heap[wr.heap.size]? = some (.cells Z 88 (0, 0)) := heap_alloc_last _ _ _ rfl
        have zs : Z.size = (recA encP p).size := by rw [HZ.out]; simp [recA, encP_len]
        have zi : (Tryz.prog.info? 88).map (·.size) = some (recA encP p).size := by rw [show (recA encP p).size = 21 by simp [recA, encP_len]]; exact tyP.ie
        have z1 : (recA encP p).all (·.oneCell') = true := all_oneCell_toArray (encP_one _)
        have gA : Below wr.heap.size wr ((wr.alloc (.cells Z 88)).setRow wr.heap.size (recA encP p)) := below_setRow ((Below.refl _ _).alloc (Nat.le_refl _) _) (Nat.le_refl _) _
        have hbox : ((wr.alloc (.cells Z 88)).setRow wr.heap.size (recA encP p)).heap[wr.heap.size]? = some (.cells (recA encP p) 88 (0, 0)) := setRow_heap _ _ _ _ _ _ hzb
        have HA := Lib.hid (And.intro gA hbox)
        have HW := Lib.hid (And.intro hbl hb)
        generalize textP (l.take i) = acc at *
        clear L hp hb hbl hil gA hbox hacc hpn
        go_upto_region 7 with (first | (refine wpList_load_at rfl _ _ rfl _ _ rfl L' ?_) | (refine wpList_store_row rfl 88 _ _ rfl wr.heap.size (recA encP p) rfl rfl 88 Z hzb zi zs z1 ?_))
        have gA := HA.out.1
        have hbox := HA.out.2
        obtain ⟨X, hX⟩ : ∃ X, X = wr.heap.size := ⟨_, rfl⟩
        clear HA L' IX zs zi z1 hzb
        generalize (wr.alloc (.cells Z 88)).setRow wr.heap.size (recA encP p) = w5 at *
        rw [← hX] at hbox ⊢
        clear hX
        have bl5 := HW.out.1.later gA
        have hb5 := HW.out.2.trans (gA.mono HW.out.2.size)
        have LD : (Instr.loadAt 88 (.pointer (some ⟨X, 0, none⟩))).run Tryz.prog w5 = .ok (.agg (recA encP p)) w5 := tyP.load p X 0 w5 (recBoxP hbox)
        have CL := line_any p (by have := HPP.out.2; omega) w5
        have HLN := Lib.hid (show (strOf (lineP p)).size ≤ 20042 ∧ (strOf (lineP p)).data.toList = lineP p by rw [strOf_size, lineP_len]; exact ⟨by have := HPP.out.2; omega, rfl⟩)
        have H5 := Lib.hid (And.intro bl5 hb5)
        obtain ⟨T5, hT5⟩ : ∃ T, T = strOf (lineP p) := ⟨_, rfl⟩
        have HT5 := Lib.hid hT5
        rw [← hT5] at CL
        clear bl5 hb5 hbox gA hT5
        go_wp2_with (first | (refine wpList_load_at rfl _ _ rfl _ _ rfl LD ?_))
        refine CL.mono ?_
        clear CL LD
        rintro e w8 ⟨rfl, hw8⟩
        have bl8 := H5.out.1.later hw8
        have hb8 := H5.out.2.trans (hw8.mono H5.out.2.size)
        have C9 := bld_str B B acc T5 w8 bl8 (by rw [HT5.out]; have := HACC.out; have := HLN.out.1; omega) (Nat.le_of_lt (bl8.elim (·.lt) (·.lt)))
        obtain ⟨sz, hsz⟩ : ∃ sz, sz = T5.size := ⟨_, rfl⟩
        rw [← hsz] at C9
        have HB8 := Lib.hid hb8
        clear bl8 hb8 hw8 hsz
        go_wp2_with fail
        refine C9.mono ?_
        rintro e w9 ⟨rfl, bl9, hb9⟩
        rw [HT5.out, HLN.out.2, HPP.out.1, ← HS.out] at bl9
        have HB9 := Lib.hid (HB8.out.trans (hb9.mono hBw))
        clear C9 hb9
        go_wp2_with fail
        go_roundw
        case rel => exact ⟨i + 1, by go_num, by omega, bl9, HB9.out⟩
        case measure => simp [intOf]; omega
      · obtain rfl : i = n := by omega
        have t1 : decide ((i : Int) < (i : Int)) = false := decide_eq_false (by omega)
        have t1' : decide (i < i) = false := decide_eq_false (by omega)
        have et : l.take i = l := by rw [HN.out.1]; exact List.take_of_length_le (Nat.le_refl _)
        rw [et] at hbl
        have C := Tryz.Builder_String_any B B (textP l) wr hbl (Nat.le_of_lt (hbl.elim (·.lt) (·.lt)))
        have HB := Lib.hid hb
        change Calls _ _ _ _ (fun e w' => e = .returned (.string (strOf (textP l))) ∧ Below B wr w') at C
        have hs : (strOf (textP l)).size = (textP l).length := strOf_size _
        have hs2 : (textP l).length ≤ 66000000 := by
          have h1 := textP_len 10000 l HN.out.2
          have h2 : l.length ≤ 3000 := by rw [← HN.out.1]; exact hlen
          have h3 := Nat.mul_le_mul_left (10000 + 42) h2
          omega
        have hd : (strOf (textP l)).data.toList = textP l := rfl
        obtain ⟨T, hT⟩ : ∃ T, T = strOf (textP l) := ⟨_, rfl⟩
        obtain ⟨tl, htl⟩ : ∃ t, t = (textP l).length := ⟨_, rfl⟩
        rw [← hT] at C hs hd
        rw [← htl] at hs hs2
        have HSD := Lib.hid (And.intro hs (And.intro hd (And.intro htl hs2)))
        clear hb hbl et hs hd hT hs2 htl
        go_wp2_with fail
        refine C.mono ?_
        rintro e w11 ⟨rfl, hb11⟩
        obtain ⟨c12, w12, hrun, hsl, hb12⟩ := bytes_made w11 T (by rw [HSD.out.1]; have := HSD.out.2.2.2; omega)
        rw [HSD.out.1] at hrun
        rw [HSD.out.2.1] at hsl
        have HB11 := Lib.hid (HB.out.trans (hb11.mono hBw))
        have HSL := Lib.hid (And.intro hsl hb12)
        clear C hb11 hsl hb12
        go_wp2_with fail
        go_ret2
        refine ⟨fun _ => ⟨_, _, by rw [← HSD.out.2.2.1]; rfl, HSL.out.1, fun x hx => ?_⟩, fun h => absurd HY.out h, HB11.out.trans (HSL.out.2.mono HB11.out.size)⟩
        injection hx with hx
        rw [← hx]
        exact HB11.out.size

set_option maxRecDepth 100000 in
set_option maxHeartbeats 4000000 in
theorem refPrintPk_any {w : World} {l : List RefP} {a : Option Addr} {cap : Nat} (hg : RsAt encP 21 w a cap l) (hlen : l.length ≤ 300) (hnm : ∀ p ∈ l, p.name.length ≤ 10000) :
    Calls Tryz.prog 19 #[.slice a l.length cap] w fun e w' => e = .returned (.string (strOf (textP l))) ∧ Below w.heap.size w w' := by
  obtain ⟨n, hn⟩ : ∃ n, n = l.length := ⟨_, rfl⟩
  have HN := Lib.hid (And.intro hn hnm)
  have HG := Lib.hid hg
  rw [← hn] at hlen ⊢
  clear hn hg hnm
  have hF0 := Below.refl w.heap.size w
  go_enter Tryz.func19, Tryz.ntmps19
  go_wp2_with fail
  go_loopw [3, 4] (fun s3 s4 wr => ∃ i : Nat, s4 = .int .i64 (i : Int) ∧ i ≤ n ∧ s3 = .string (strOf (textP (l.take i))) ∧ Below w.heap.size w wr) (fun _ s4 _ => n - (intOf s4).toNat)
  case atStart => exact ⟨0, rfl, Nat.zero_le _, rfl, hF0⟩
  case round =>
    clear hF0
    obtain ⟨i, rfl, hi, rfl, hb⟩ := hrel
    have HB := Lib.hid hb
    by_cases hin : i < n
    · have t1 : decide ((i : Int) < (n : Int)) = true := decide_eq_true (by omega)
      have t1' : decide (i < n) = true := decide_eq_true (by omega)
      have hil : i < l.length := by rw [← HN.out.1]; omega
      obtain ⟨b, q, IX, R, -⟩ := (HG.out.below hb).at tyD (i : Int) i rfl hil
      rw [← HN.out.1] at IX
      have HS := Lib.hid (textP_succ hil)
      have hpn : l[i]!.name.length ≤ 10000 := HN.out.2 _ (by rw [getElem!_pos l i hil]; exact List.getElem_mem hil)
      have hacc : (textP (l.take i)).length ≤ 6100000 := by
        have h1 := textP_len 10000 (l.take i) (fun p hp => HN.out.2 p (List.mem_of_mem_take hp))
        have h2 : (l.take i).length ≤ 300 := by rw [List.length_take]; omega
        have h3 := Nat.mul_le_mul_left (10000 + 42) h2
        omega
      obtain ⟨acc, hac⟩ : ∃ acc, acc = textP (l.take i) := ⟨_, rfl⟩
      rw [← hac] at hacc ⊢
      obtain ⟨p, hp⟩ : ∃ p, p = l[i]! := ⟨_, rfl⟩
      rw [← hp] at R hpn
      have HPP := Lib.hid (And.intro hp (And.intro hpn (And.intro hac hacc)))
      have LA := load_name R
      have LB := load_idD R
      have hh : (hexL p.id.1).length = 40 := by rw [hexL_len, p.id.2]
      have A0 := fun W => str_add acc (hexL p.id.1) (by omega) (by rw [hh]; decide) W
      have A1 := fun W => str_add (acc ++ hexL p.id.1) [32] (by rw [List.length_append, hh]; omega) (by decide) W
      have A2 := fun W => str_add (acc ++ hexL p.id.1 ++ [32]) p.name (by rw [List.length_append, List.length_append, hh, List.length_singleton]; omega) (by omega) W
      have A3 := fun W => str_add (acc ++ hexL p.id.1 ++ [32] ++ p.name) [10] (by rw [List.length_append, List.length_append, List.length_append, hh, List.length_singleton]; omega) (by decide) W
      have hfin : acc ++ hexL p.id.1 ++ [32] ++ p.name ++ [10] = textP (l.take (i + 1)) := by
        rw [HS.out, ← HPP.out.1, ← HPP.out.2.2.1]
        unfold lineP
        simp only [List.append_assoc, List.cons_append, List.nil_append]
      rw [hfin] at A3
      have CX := fun W => refHex_any p.id W
      change ∀ W : World, Calls _ _ _ W (fun e w' => e = .returned (.string (strOf (hexL p.id.1))) ∧ _) at CX
      have e0 : strOf [32] = ⟨#[32]⟩ := rfl
      have e10 : strOf [10] = ⟨#[10]⟩ := rfl
      rw [e0] at A1
      rw [e10] at A3
      obtain ⟨T5, hT5⟩ : ∃ T, T = strOf (textP (l.take (i + 1))) := ⟨_, rfl⟩
      have HT5 := Lib.hid hT5
      rw [← hT5] at A3
      generalize strOf (acc ++ hexL p.id.1 ++ [32] ++ p.name) = U3 at *
      generalize strOf (acc ++ hexL p.id.1 ++ [32]) = U2 at *
      generalize strOf (acc ++ hexL p.id.1) = U1 at *
      generalize strOf acc = U0 at *
      generalize strOf (hexL p.id.1) = TH at *
      generalize strOf p.name = TP at *
      generalize idA p.id = V1 at *
      clear hb hil R hpn hacc hac hp hh hfin e0 e10 hT5
      go_upto_region 5 with (fail)
      refine wp_region_mg [(0, 0), (1, 0), (2, 0), (3, 0), (4, 0), (5, 0), (6, 0), (7, 0), (8, 0), (9, 0), (10, 0), (11, 0), (12, 0), (13, 0), (14, 0), (15, 0), (16, 0)] (by kernel_rfl) (by kernel_rfl) ?_
      iterate 17 (first | (refine mg_load rfl rfl _ _ rfl _ _ rfl LA ?_) | (refine mg_load rfl rfl _ _ rfl _ _ rfl LB ?_) | (refine mg_calm rfl (fun K hK => ?_); go_simp; apply Exists.intro; refine ⟨fun z => CX z.1, hK _ ?_⟩; clear hK K CX) | (refine mg_calm rfl (fun K hK => ?_); go_simp; (refine hK _ ?_; clear hK K)))
      refine mg_nil fun w7 hw7 => ?_
      have HB7 := Lib.hid (Grow.trans HB.out hw7)
      clear hw7 LA LB A0 A1 A2 A3 IX
      go_wp2_with fail
      go_roundw
      case rel => exact ⟨i + 1, by go_num, by omega, by rw [HT5.out], HB7.out⟩
      case measure => simp [intOf]; omega
    · obtain rfl : i = n := by omega
      have t1 : decide ((i : Int) < (i : Int)) = false := decide_eq_false (by omega)
      have t1' : decide (i < i) = false := decide_eq_false (by omega)
      have et : l.take i = l := by rw [HN.out.1]; exact List.take_of_length_le (Nat.le_refl _)
      rw [et]
      clear hb et
      go_wp2_with fail
      go_ret
      exact ⟨rfl, HB.out⟩
end Go.Proofs.YtponfkfeflnilaaGreatDoor
namespace Go.Proofs.YtponfkfeflnilaaGreatDoor
open Go.RowKit Go.Mix Go.WideMaps

theorem idBox {w : World} {X : Nat} {x : Id20} {t : TypeId} {fr : Nat × Nat} (h : w.heap[X]? = some (.cells (idA x) t fr)) : w.rangeAt X 0 (idc x) := fun j v hv => by
  rw [cell_of_row _ _ _ _ _ _ h, Nat.zero_add]
  simpa [idA] using hv
def strLen : Value → Nat
  | .string s => s.size
  | _ => 0
/-- What a text's reading leaves. -/
def ReadPost (ty : TypeId) (w : World) (s : Bytes) (yes no : Value) (e : Ending) (w' : World) : Prop :=
  (∃ l, parsePk s = some l ∧ ∃ v, e = .returned (.tuple #[v, yes]) ∧ OwnR encP 21 ty w w' v l) ∨ (parsePk s = none ∧ e = .returned (.tuple #[.slice none 0 0, no]) ∧ Below w.heap.size w w')
theorem parsePk_acc {s s' : Bytes} {acc : List RefP} (h : readK s.length s = (readK s'.length s').map (acc ++ ·)) (hs : stepK s' = none) (h0 : s' ≠ []) : parsePk s = none := by
  unfold parsePk
  rw [h, readK_none h0 hs]; rfl
theorem parsePk_end {s : Bytes} {acc : List RefP} (h : readK s.length s = (readK ([] : Bytes).length []).map (acc ++ ·)) : (OrdP acc → parsePk s = some acc) ∧ (¬ OrdP acc → parsePk s = none) := by
  have e : readK s.length s = some acc := by rw [h]; simp [readK]
  unfold parsePk
  rw [e]
  simp only
  exact ⟨fun h => if_pos h, fun h => if_neg h⟩
theorem parsePk_next {s s' r : Bytes} {acc : List RefP} {f : RefP} (h : readK s.length s = (readK s'.length s').map (acc ++ ·)) (hs : stepK s' = some (f, r)) : readK s.length s = (readK r.length r).map ((acc ++ [f]) ++ ·) := by
  rw [h, readK_some hs, Option.map_map]
  congr 1
  funext x
  simp

set_option maxRecDepth 100000 in
set_option maxHeartbeats 4000000 in
theorem parsePk_any {w : World} {s : Bytes} {a : Option Addr} {cap : Nat} (hg : Sl w a cap s) (hlen : s.length ≤ 100000) (hm : MaxIs w) :
    Calls Tryz.prog 12 #[.slice a s.length cap] w (ReadPost 88 w s (.int .i64 0) (.int .i64 4)) := by
  obtain ⟨n, hn⟩ : ∃ n, n = s.length := ⟨_, rfl⟩
  have HN := Lib.hid hn
  have ST := hg.str
  change (convert 24 9 (.slice a s.length cap)).run Tryz.prog w = .ok (.string (strOf s)) w at ST
  obtain ⟨Z, hZ⟩ : ∃ Z, Z = idA id0 := ⟨_, rfl⟩
  have z : ∀ w, (zeroValue 42).run Tryz.prog w = .ok (.agg Z) w := fun w => by rw [hZ]; kernel_rfl
  have HZ := Lib.hid hZ
  rw [← hn] at ST ⊢
  have hF0 : Below w.heap.size w w := Below.refl _ _
  have HLEN := Lib.hid hlen
  have HM := Lib.hid hm
  clear hn hg hZ hlen hm
  go_enter Tryz.func12, Tryz.ntmps12
  go_wp2_with fail
  go_loopw [4, 5] (fun s4 s5 wr => ∃ (acc : List RefP) (s' : Bytes), s5 = .string (strOf s') ∧ readK s.length s = (readK s'.length s').map (acc ++ ·) ∧ acc.length + s'.length ≤ s.length ∧ (∀ p ∈ acc, p.name.length ≤ s.length) ∧ OwnR encP 21 88 w wr s4 acc) (fun _ s5 _ => strLen s5)
  case atStart => exact ⟨[], s, rfl, by simp, by simp, fun _ h => (by simp at h), OwnR.nil hF0⟩
  case round =>
    clear hF0 ST
    obtain ⟨acc, s', rfl, hs, hal, hnm, hrow⟩ := hrel
    have HS := Lib.hid (And.intro hs (And.intro hal hnm))
    have hal2 : acc.length ≤ 100000 ∧ s'.length ≤ 100000 := by have := HLEN.out; omega
    clear hs hal hnm
    by_cases h0 : s' = []
    · subst h0
      have E0 : (strOf ([] : Bytes)).toList.isEmpty = true := by rw [strOf_list]; rfl
      obtain ⟨ac, cc, rfl, hpa, -⟩ := hrow.rs tyP
      have C12 := ordered_any hpa (by omega) (fun p hp => by have := HS.out.2.2 p hp; have := HLEN.out; omega) (HM.out.below hrow.frame)
      have HROW := Lib.hid hrow
      clear hrow hpa
      generalize (strOf ([] : Bytes)) = T0 at *
      obtain ⟨k, hk⟩ : ∃ k, k = acc.length := ⟨_, rfl⟩
      have HK := Lib.hid hk
      rw [← hk] at C12 ⊢
      clear hk
      go_wp2_with fail
      refine C12.mono ?_
      rintro e w3 ⟨r, rfl, hr, hb3⟩
      have HR := Lib.hid (And.intro hr hb3)
      clear C12 hr hb3
      cases r
      · have hno : ¬ OrdP acc := fun h => by have := HR.out.1.2 h; cases this
        have HPO := Lib.hid ((parsePk_end HS.out.1).2 hno)
        clear hno
        go_wp2_with fail
        go_ret2
        exact .inr ⟨HPO.out, rfl, HROW.out.frame.trans (HR.out.2.mono HROW.out.frame.size)⟩
      · have HPO := Lib.hid ((parsePk_end HS.out.1).1 (HR.out.1.1 rfl))
        go_wp2_with fail
        go_ret2
        exact .inl ⟨acc, HPO.out, _, rfl, by rw [HK.out]; exact HROW.out.later HR.out.2⟩
    · have E0 : (strOf s').toList.isEmpty = false := by
        rw [strOf_list]; cases s' with
        | nil => exact absurd rfl h0
        | cons => rfl
      have C4 := strCut_any s' 10 (by omega) wr
      rw [cutV_eq] at C4
      have hln := cutA_len s' 10
      have HLS := Lib.hid (And.intro (show (strOf s').size = s'.length from strOf_size s') h0)
      have hst : stepK s' = if cutOk s' 10 && cutOk (cutA s' 10) 32 then (match unhex (cutA (cutA s' 10) 32) with | some x => some (⟨cutB (cutA s' 10) 32, x⟩, cutB s' 10) | none => none) else none := rfl
      obtain ⟨one, h1⟩ : ∃ x, x = cutA s' 10 := ⟨_, rfl⟩
      obtain ⟨rest, h2⟩ : ∃ x, x = cutB s' 10 := ⟨_, rfl⟩
      obtain ⟨ok, h3⟩ : ∃ x, x = cutOk s' 10 := ⟨_, rfl⟩
      rw [← h1] at hln
      rw [← h1, ← h2, ← h3] at C4 hst
      have HONE := Lib.hid hln
      have HROW := Lib.hid hrow
      clear h1 h2 h3 hrow h0
      obtain ⟨S', hS'⟩ : ∃ S, S = strOf s' := ⟨_, rfl⟩
      have HS' := Lib.hid hS'
      rw [← hS'] at C4 E0 ⊢
      have C5 := strCut_any one 32 (by omega)
      rw [cutV_eq] at C5
      obtain ⟨g, h1⟩ : ∃ x, x = cutA one 32 := ⟨_, rfl⟩
      obtain ⟨h, h2⟩ : ∃ x, x = cutB one 32 := ⟨_, rfl⟩
      obtain ⟨is, h3⟩ : ∃ x, x = cutOk one 32 := ⟨_, rfl⟩
      have hhl : h.length ≤ s'.length := by have := (cutB_len one 32).1; rw [← h2] at this; omega
      rw [← h1, ← h2, ← h3] at C5 hst
      have HST := Lib.hid (And.intro hst hhl)
      clear h1 h2 h3 hS' hln hst hhl
      obtain ⟨ONE, hO⟩ : ∃ S, S = strOf one := ⟨_, rfl⟩
      obtain ⟨RST, hR⟩ : ∃ S, S = strOf rest := ⟨_, rfl⟩
      have HRST := Lib.hid hR
      rw [← hO, ← hR] at C4
      rw [← hO] at C5
      clear hO hR
      go_wp2_with fail
      refine C4.mono ?_
      rintro e w4 ⟨rfl, hb4⟩
      have C5 := C5 w4
      have HB4 := Lib.hid hb4
      clear C4 hb4
      obtain ⟨GS, hGS⟩ : ∃ S, S = strOf g := ⟨_, rfl⟩
      obtain ⟨HSt, hHS⟩ : ∃ S, S = strOf h := ⟨_, rfl⟩
      have HHS := Lib.hid hHS
      have HGS := Lib.hid hGS
      rw [← hGS, ← hHS] at C5
      clear hGS hHS
      go_wp2_with fail
      refine C5.mono ?_
      rintro e w5 ⟨rfl, hb5⟩
      have C6 := shaParse_any (strOf g) w5
      change Calls _ _ _ _ (fun e w' => e = .returned (.tuple #[.agg (idA (shaX g)), .int .i64 (shaE g)]) ∧ Below w5.heap.size w5 w') at C6
      rw [← HGS.out] at C6
      have HB5 := Lib.hid (HB4.out.trans (hb5.mono HB4.out.size))
      clear C5 hb5
      obtain ⟨x, eg, hxe⟩ : ∃ (x : Id20) (eg : Int), x = shaX g ∧ eg = shaE g := ⟨_, _, rfl, rfl⟩
      rw [← hxe.1, ← hxe.2] at C6
      have HXE := Lib.hid hxe
      clear hxe
      go_wp2_with fail
      refine C6.mono ?_
      rintro e w6 ⟨rfl, hb6⟩
      have HB6 := Lib.hid (HB5.out.trans (hb6.mono HB5.out.size))
      clear C6 hb6
      have hz7 : (w6.alloc (.cells Z 42)).heap[w6.heap.size]? = some (.cells Z 42 (0, 0)) := heap_alloc_last _ _ _ rfl
      have hg7 : Below w6.heap.size w6 ((w6.alloc (.cells Z 42)).setRow w6.heap.size (idA x)) := below_setRow ((Below.refl _ _).alloc (Nat.le_refl _) _) (Nat.le_refl _) _
      have hk7 : ((w6.alloc (.cells Z 42)).setRow w6.heap.size (idA x)).heap[w6.heap.size]? = some (.cells (idA x) 42 (0, 0)) := setRow_heap _ _ _ _ _ _ hz7
      have zs : Z.size = (idA x).size := by rw [HZ.out]; simp [idA, idc_len]
      have zi : (Tryz.prog.info? 42).map (·.size) = some (idA x).size := by rw [show (idA x).size = 20 by simp [idA, idc_len]]; kernel_rfl
      have z1 : (idA x).all (·.oneCell') = true := all_oneCell_toArray (bcells_one _)
      have HG7 := Lib.hid (And.intro hg7 hk7)
      clear hg7 hk7
      go_upto_region 7 with (refine wpList_store_row rfl 42 _ _ rfl w6.heap.size (idA x) rfl rfl 42 Z hz7 zi zs z1 ?_)
      have hg7 := HG7.out.1
      have hk7 := HG7.out.2
      clear HG7 zs zi z1 hz7
      generalize (w6.alloc (.cells Z 42)).setRow w6.heap.size (idA x) = w7 at *
      obtain ⟨X12, hX12⟩ : ∃ X, X = w6.heap.size := ⟨_, rfl⟩
      rw [← hX12] at hk7 ⊢
      have hb7 := HB6.out.trans (hg7.mono HB6.out.size)
      have LI := load_id arrG (by kernel_rfl) x X12 0 w7 (idBox hk7)
      have HB7 := Lib.hid (And.intro hb7 (HROW.out.later hb7))
      clear hg7 hk7 hX12 hb7
      have HNO : Hid (stepK s' = none → parsePk s = none) := Lib.hid fun hh => parsePk_acc HS.out.1 hh HLS.out.2
      have hst := HST.out.1
      cases ok
      case false =>
        have HP := Lib.hid (HNO.out hst)
        clear hst LI
        go_wp2_with fail
        go_ret2
        exact .inr ⟨HP.out, rfl, HB7.out.2.frame⟩
      cases is
      case false =>
        have HP := Lib.hid (HNO.out hst)
        clear hst LI
        go_wp2_with fail
        go_ret2
        exact .inr ⟨HP.out, rfl, HB7.out.2.frame⟩
      simp only [Bool.and_self, if_true] at hst
      rcases shaE_cases g with ⟨y, m1, m2, m3, -⟩ | ⟨m1, m3⟩
      case inr =>
        rw [m1] at hst
        have HP := Lib.hid (HNO.out hst)
        obtain rfl : eg = 4 := by rw [HXE.out.2, m3]
        clear hst LI m1 m3
        go_wp2_with fail
        go_ret2
        exact .inr ⟨HP.out, rfl, HB7.out.2.frame⟩
      obtain rfl : eg = 0 := by rw [HXE.out.2, m3]
      have hxy : x = y := by rw [HXE.out.1, m2]
      rw [m1] at hst
      change stepK s' = some (⟨h, y⟩, rest) at hst
      rw [← hxy] at hst
      obtain ⟨p, hp⟩ : ∃ p : RefP, p = ⟨h, x⟩ := ⟨_, rfl⟩
      rw [← hp] at hst
      have B := fun W : World => buildP h x W
      rw [← HHS.out, ← hp] at B
      have B1 := tyP.slice1 p w7
      have hrow9 := HB7.out.2.later ((Below.refl _ _).alloc (Nat.le_refl _) (.cells (recA encP p) 88))
      have hp9 := RsAt.one (enc := encP) (L := 21) w7 88 p
      have HSP := Lib.hid (And.intro (parsePk_next HS.out.1 hst) (And.intro hp (stepK_len hst)))
      have HRP := Lib.hid (And.intro hrow9 hp9)
      clear hst m1 m2 m3 hxy hp hrow9 hp9
      go_wp2_with (first | (refine wpList_load_at rfl _ _ rfl _ _ rfl LI ?_) | (refine wpList_build_at rfl _ _ rfl [(0, .string HSt), (1, .agg (idA x))] _ rfl (B _) ?_) | (refine wpList_buildSlice_at rfl _ _ _ rfl [(0, .agg (recA encP p))] _ rfl B1 ?_) | (refine wpList_append_r tyP rfl (.tmp 45) (.tmp 49) rfl _ acc rfl HRP.out.1 (some ⟨w7.heap.size, 0, none⟩) 1 1 [p] rfl rfl HRP.out.2 (by have := hal2; simp; omega) ?_; intro v11 w11 hrow11 hgr11 hgn11; have H11 := Lib.hid hrow11; clear hrow11 hgr11 hgn11 B B1 LI))
      go_roundw
      case rel => exact ⟨acc ++ [p], rest, HRST.out ▸ rfl, HSP.out.1, by have := HS.out.2.1; have := HSP.out.2.2.1; rw [List.length_append, List.length_singleton]; omega, fun q hq => by
        rcases List.mem_append.1 hq with hq | hq
        · exact HS.out.2.2 q hq
        · rw [List.mem_singleton] at hq; rw [hq]; have := HSP.out.2.2.2; have := HS.out.2.1; omega, H11.out⟩
      case measure =>
        rw [HRST.out, HS'.out]
        simp only [strLen, strOf_size]
        exact HSP.out.2.2.1
end Go.Proofs.YtponfkfeflnilaaGreatDoor
