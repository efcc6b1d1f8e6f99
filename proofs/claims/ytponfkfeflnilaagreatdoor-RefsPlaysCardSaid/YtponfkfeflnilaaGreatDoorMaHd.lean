/-
  The document's Head: the walk.
  The document's Find: the walk.
-/
import Derived.Test.YtponfkfeflnilaaGreatDoorMaDls
import Derived.Test.YtponfkfeflnilaaGreatDoorMaKnown
import Derived.Test.YtponfkfeflnilaaGreatDoorMaRef
namespace Go.Proofs.YtponfkfeflnilaaGreatDoor
open Go.RowKit Go.Mix Go.WideMaps Go.Maps

structure ResD (w0 : World) (R : Nat) (Z : Array Value) (w : World) : Prop where
  box : w.heap[R]? = some (.cells Z 41 (0, 0))
  fr : Below w0.heap.size w0 w
theorem ResD.below {w0 w w' : World} {R : Nat} {Z : Array Value} (h : ResD w0 R Z w) (g : Below w.heap.size w w') : ResD w0 R Z w' := ⟨blockR_below h.box g, h.fr.trans (g.mono h.fr.size)⟩
theorem docHead_at : ∀ {t : List FlP} {i : Nat}, (∀ k, k < i → ¬ t[k]!.path = headT) → i < t.length → t[i]!.path = headT → docHead t = headB t[i]!.bytes
  | [], i, _, hi, _ => by simp at hi
  | x :: l, 0, _, _, he => by
    have he : x.path = headT := by simpa using he
    show (if x.path = headT then headB x.bytes else docHead l) = _
    rw [if_pos he]; rfl
  | x :: l, i + 1, h, hi, he => by
    have h0 : ¬ x.path = headT := by simpa using h 0 (by omega)
    show (if x.path = headT then headB x.bytes else docHead l) = _
    rw [if_neg h0, docHead_at (i := i) (fun k hk => by simpa using h (k + 1) (by omega)) (by simpa using hi) (by simpa using he)]
    simp
theorem docHead_no : ∀ {t : List FlP}, (∀ k, k < t.length → ¬ t[k]!.path = headT) → docHead t = ([], id0, 6)
  | [], _ => rfl
  | x :: l, h => by
    have h0 : ¬ x.path = headT := by simpa using h 0 (by simp)
    show (if x.path = headT then headB x.bytes else docHead l) = _
    rw [if_neg h0, docHead_no (t := l) fun k hk => by simpa using h (k + 1) (by simpa using hk)]
theorem suffix_last {l : Bytes} (h : l ≠ []) : ([10] : Bytes).isSuffixOf l = decide (l[l.length - 1]? = some 10) := by
  have hl : l.length - 1 < l.length := by have := List.length_pos_iff.2 h; omega
  rw [Bool.eq_iff_iff, decide_eq_true_eq, List.isSuffixOf_iff_suffix]
  constructor
  · rintro ⟨t, ht⟩
    rw [← ht, List.length_append]
    simp
  · intro hx
    rw [← List.dropLast_concat_getLast h]
    have : l.getLast h = 10 := by
      rw [List.getLast_eq_getElem]
      rw [List.getElem?_eq_getElem hl] at hx
      injection hx
    rw [this]
    exact List.suffix_append _ _
theorem pre_refc (s : Bytes) : refcT.isPrefixOf s = decide (s.take 5 = refcT) := by
  rw [Bool.eq_iff_iff, decide_eq_true_eq, List.isPrefixOf_iff_prefix]
  constructor
  · rintro ⟨t, rfl⟩
    exact List.take_left' (l₁ := refcT) (by rfl)
  · intro h
    rw [← h]
    exact List.take_prefix _ _
noncomputable def headI (b : Bytes) : Bytes × Id20 × Int := ([], (fileK b).getD id0, if (fileK b).isSome then 0 else 4)
theorem headB_id {b : Bytes} (h : ¬ (6 ≤ b.length ∧ b.take 5 = refcT ∧ b[b.length - 1]? = some 10 ∧ rightN ((b.drop 5).take (b.length - 6)) = true)) : headB b = headI b := by
  unfold headB headI
  by_cases hp : refcT.isPrefixOf b = true
  · have ht : b.take 5 = refcT := of_decide_eq_true ((pre_refc b).symm.trans hp)
    rw [if_pos hp, fileK_refc hp, if_neg]
    · rfl
    · intro hc
      rw [Bool.and_eq_true] at hc
      obtain ⟨hs, hr⟩ := hc
      have hne : b.drop 5 ≠ [] := fun e => by rw [e] at hs; exact absurd hs (by decide)
      rw [suffix_last hne, decide_eq_true_eq, List.length_drop, List.getElem?_drop] at hs
      have h6 : 6 ≤ b.length := by
        rcases Nat.lt_or_ge b.length 6 with h | h
        · exact absurd (List.drop_eq_nil_of_le (by omega)) hne
        · exact h
      rw [show 5 + (b.length - 5 - 1) = b.length - 1 by omega] at hs
      rw [List.length_drop, show b.length - 5 - 1 = b.length - 6 by omega] at hr
      exact h ⟨h6, ht, hs, hr⟩
  · rw [if_neg hp]
    cases fileK b <;> rfl
theorem headB_ref {b : Bytes} (h6 : 6 ≤ b.length) (ht : b.take 5 = refcT) (hs : b[b.length - 1]? = some 10) (hr : rightN ((b.drop 5).take (b.length - 6)) = true) : headB b = ((b.drop 5).take (b.length - 6), id0, 0) := by
  have hp : refcT.isPrefixOf b = true := (pre_refc b).trans (decide_eq_true ht)
  have hne : b.drop 5 ≠ [] := fun e => by have := congrArg List.length e; rw [List.length_drop] at this; simp at this; omega
  unfold headB
  rw [if_pos hp, if_pos]
  · rw [List.length_drop, show b.length - 5 - 1 = b.length - 6 by omega]
  · rw [Bool.and_eq_true, suffix_last hne, decide_eq_true_eq, List.length_drop, List.getElem?_drop, show 5 + (b.length - 5 - 1) = b.length - 1 by omega, show b.length - 5 - 1 = b.length - 6 by omega]
    exact ⟨hs, hr⟩

set_option maxRecDepth 100000 in
set_option maxHeartbeats 8000000 in
theorem refHead_any {w : World} {a : Option Addr} {cap : Nat} {t : List FlP} (h : FlsAt w a cap t) (hl : t.length ≤ 10000) (hb : ∀ x ∈ t, x.path.length ≤ 100000 ∧ x.bytes.length ≤ 100000) :
    Calls Tryz.prog 29 #[.slice a t.length cap] w fun e w' => e = .returned (.tuple #[.string (strOf (docHead t).1), .agg (idA (docHead t).2.1), .int .i64 (docHead t).2.2]) ∧ Below w.heap.size w w' := by
  obtain ⟨Z0, hZ0⟩ : ∃ Z, Z = idA id0 := ⟨_, rfl⟩
  have z : ∀ w, (zeroValue 41).run Tryz.prog w = .ok (.agg Z0) w := fun w => by rw [hZ0]; kernel_rfl
  have b0 : ∀ w, (Instr.build 41 #[]).run Tryz.prog w = .ok (.agg Z0) w := fun w => by rw [hZ0]; kernel_rfl
  have ziZ : (Tryz.prog.info? 41).map (·.size) = some Z0.size := by rw [hZ0, idA_size]; kernel_rfl
  have z1Z : Z0.all (·.oneCell') = true := by rw [hZ0]; exact idA_one id0
  have HZ := Lib.hid hZ0
  have r1 : ResD w w.heap.size Z0 (w.alloc (.cells Z0 41)) := ⟨heap_alloc_last _ _ _ rfl, (Below.refl _ _).alloc (Nat.le_refl _) _⟩
  obtain ⟨n, hn⟩ : ∃ n, n = t.length := ⟨_, rfl⟩
  have HH := Lib.hid (And.intro (h.below ((Below.refl _ _).alloc (Nat.le_refl _) (.cells Z0 41))) (And.intro hn hb))
  obtain ⟨R, hR⟩ : ∃ R, R = w.heap.size := ⟨_, rfl⟩
  have HRW := Lib.hid (Nat.le_of_eq hR.symm)
  have H1 := Lib.hid r1
  rw [← hn] at hl ⊢
  obtain ⟨GK, hGK⟩ : ∃ G, G = docHead t := ⟨_, rfl⟩
  rw [← hGK]
  have HG := Lib.hid hGK
  clear h hn hb r1 hZ0 hGK
  go_enter Tryz.func29, Tryz.ntmps29
  go_upto_region 1 with (fail)
  rw [← hR] at H1 ⊢
  clear hR
  generalize w.alloc (.cells Z0 41) = w1 at *
  go_wp2_with fail
  go_loopw [5, 6, 7, 8, 9] (fun s5 _ _ _ _ wr => ∃ i : Nat, s5 = .int .i64 (i : Int) ∧ i ≤ n ∧ (∀ k, k < i → ¬ t[k]!.path = headT) ∧ Below w1.heap.size w1 wr) (fun s5 _ _ _ _ _ => n - (intOf s5).toNat)
  case atStart => exact ⟨0, rfl, Nat.zero_le _, fun k hk => absurd hk (Nat.not_lt_zero _), Below.refl _ _⟩
  case round =>
    obtain ⟨i, rfl, hi, hno, hbr⟩ := hrel
    have HN := Lib.hid (And.intro hno hbr)
    clear hno hbr
    have rr := H1.out.below HN.out.2
    by_cases hin : i < n
    · have t1 : decide ((i : Int) < (n : Int)) = true := decide_eq_true (by omega)
      have t1' : decide (i < n) = true := decide_eq_true hin
      have hil : i < t.length := by rw [← HH.out.2.1]; exact hin
      obtain ⟨b, q, aa, cc, IX, c0, c1, hsl⟩ := (HH.out.1.below HN.out.2).at (i : Int) i rfl hil
      rw [← HH.out.2.1] at IX
      have hbd := HH.out.2.2 t[i]! (by rw [getElem!_pos t i hil]; exact List.getElem_mem hil)
      obtain ⟨d, hd⟩ : ∃ d, d = t[i]! := ⟨_, rfl⟩
      rw [← hd] at c0 c1 hsl hbd
      have EQ : ((strOf d.path).toList == [72, 69, 65, 68]) = decide (d.path = headT) := strOf_eq d.path headT
      obtain ⟨D, hD⟩ : ∃ D, D = decide (d.path = headT) := ⟨_, rfl⟩
      rw [← hD] at EQ
      have EQ2 : ((strOf d.path).toList != [72, 69, 65, 68]) = !D := by rw [bne, EQ]
      generalize strOf d.path = PT at *
      cases D
      · have HS := Lib.hid (fun k (hk : k < i + 1) => show ¬ t[k]!.path = headT by
          by_cases hki : k < i
          · exact HN.out.1 k hki
          · obtain rfl : k = i := by omega
            rw [← hd]; exact of_decide_eq_false hD.symm)
        clear hD hd hbd hsl c1 rr hil
        go_wp2_with fail
        go_roundw
        case rel => exact ⟨i + 1, by go_num, by omega, HS.out, HN.out.2⟩
        case measure => simp [intOf]; omega
      · have hdh : docHead t = headB d.bytes := by rw [hd]; exact docHead_at HN.out.1 hil (by rw [← hd]; exact of_decide_eq_true hD.symm)
        have hgk := HG.out.trans hdh
        have ST := hsl.str
        change (convert 24 9 (.slice aa d.bytes.length cc)).run Tryz.prog wr = .ok (.string (strOf d.bytes)) wr at ST
        have CI := refId_any hsl
        have hsz : (strOf d.bytes).size = d.bytes.length := strOf_size _
        obtain ⟨y, hy⟩ : ∃ y, y = d.bytes := ⟨_, rfl⟩
        rw [← hy] at ST CI hsz hgk c1 hbd
        obtain ⟨nb, hnb⟩ : ∃ n, n = y.length := ⟨_, rfl⟩
        rw [← hnb] at ST CI hsz c1 hbd
        have HS := Lib.hid (And.intro hgk (And.intro hbd hnb))
        have HR := Lib.hid rr
        obtain ⟨YS, hYS⟩ : ∃ Y, Y = strOf y := ⟨_, rfl⟩
        have HYS := Lib.hid hYS
        rw [← hYS] at ST hsz
        clear hdh hgk hsl hy hD hd hbd rr hil hnb hYS
        by_cases h6 : 6 ≤ nb
        case neg =>
          have t6 : decide ((6 : Int) ≤ (nb : Int)) = false := decide_eq_false (by omega)
          have t6' : decide (6 ≤ nb) = false := decide_eq_false h6
          have t6a : decide ((nb : Int) < 6) = true := decide_eq_true (by omega)
          have t6b : decide (nb < 6) = true := decide_eq_true (by omega)
          have HI : Hid (GK = headI y) := Lib.hid (HS.out.1.trans (headB_id (fun h => h6 (by have := h.1; have := HS.out.2.2; omega))))
          go_wp2_with fail
          refine CI.mono ?_
          clear CI
          rintro e w6 ⟨rfl, hb6⟩
          obtain ⟨K, hK⟩ : ∃ K, K = fileK y := ⟨_, rfl⟩
          have hgk := HI.out
          unfold headI at hgk
          rw [← hK] at hgk ⊢
          obtain ⟨ok, hok⟩ : ∃ ok, ok = K.isSome := ⟨_, rfl⟩
          obtain ⟨v, hv⟩ : ∃ v, v = K.getD id0 := ⟨_, rfl⟩
          rw [← hok, ← hv] at hgk ⊢
          have HGK := Lib.hid hgk
          have r6 := HR.out.below hb6
          have hz7 : (w6.alloc (.cells Z0 41)).heap[w6.heap.size]? = some (.cells Z0 41 (0, 0)) := heap_alloc_last _ _ _ rfl
          have hg7 : Below w6.heap.size w6 ((w6.alloc (.cells Z0 41)).setRow w6.heap.size (idA v)) := below_setRow ((Below.refl _ _).alloc (Nat.le_refl _) _) (Nat.le_refl _) _
          have hk7 : ((w6.alloc (.cells Z0 41)).setRow w6.heap.size (idA v)).heap[w6.heap.size]? = some (.cells (idA v) 41 (0, 0)) := setRow_heap _ _ _ _ _ _ hz7
          have zsy : Z0.size = (idA v).size := by rw [HZ.out]; simp [idA, idc_len]
          have ziy : (Tryz.prog.info? 41).map (·.size) = some (idA v).size := by rw [show (idA v).size = 20 by simp [idA, idc_len]]; kernel_rfl
          have z1y : (idA v).all (·.oneCell') = true := all_oneCell_toArray (bcells_one _)
          have H7 := Lib.hid (And.intro (r6.below hg7) hk7)
          have HKO := Lib.hid (And.intro hok hv)
          clear r6 hb6 hg7 hk7 hgk hK hok hv c1 IX
          go_upto_region 10 with (refine wpList_store_row rfl 41 _ _ rfl w6.heap.size (idA v) rfl rfl 41 Z0 hz7 ziy zsy z1y ?_)
          have H8 := H7.out
          obtain ⟨X7, hX7⟩ : ∃ X, X = w6.heap.size := ⟨_, rfl⟩
          rw [← hX7] at H8 ⊢
          clear hX7 H7 hz7
          generalize (w6.alloc (.cells Z0 41)).setRow X7 (idA v) = w7 at *
          obtain ⟨r7, hk7⟩ := H8
          cases ok
          · have hz := r7.box
            have hfin := setRow_heap _ _ _ Z0 _ _ hz
            have hfr := below_setRow r7.fr HRW.out Z0
            have hv0 : v = id0 := by have h1 := HKO.out.1; have h2 := HKO.out.2; cases K with | none => exact h2 | some _ => cases h1
            have HE := Lib.hid (And.intro hfin (And.intro hfr hv0))
            clear hfin hfr hv0 r7 hk7 zsy ziy z1y
            go_wp2_with (first | (refine wpList_build_at rfl _ _ rfl [] _ rfl (b0 _) ?_) | (refine wpList_store_row rfl 41 _ _ rfl R Z0 rfl rfl 41 Z0 hz ziZ rfl z1Z ?_))
            refine bodyPost_ret (results_tmp_cell_tmp rfl _ _ R 41 Z0 (0, 0) _ rfl HE.out.1 Tryz.underlying41 rfl ziZ) rfl ?_
            rw [HGK.out, HE.out.2.2]
            refine ⟨?_, HE.out.2.1⟩
            show Ending.returned (.tuple #[.string ⟨#[]⟩, .agg Z0, .int .i64 4]) = _
            rw [HZ.out]; try rfl
          · have LI : ∀ y2 : Later w7, (Instr.loadAt 41 (.pointer (some ⟨X7, 0, none⟩))).run Tryz.prog y2.1 = .ok (.agg (idA v)) y2.1 := fun y2 => load_id arrR (by kernel_rfl) v X7 0 y2.1 (rangeR_below (idBox hk7) y2.2)
            have H7 := Lib.hid r7
            clear r7 hk7
            go_upto_region 11 with (fail)
            refine wp_region_mg [(0, 0), (1, 0), (2, 2), (3, 0)] (by kernel_rfl) (by kernel_rfl) ?_
            refine mg_load rfl rfl _ _ rfl _ _ rfl LI ?_
            iterate 1 (refine mg_calm rfl (fun K hK => ?_); go_simp; (refine hK _ ?_; clear hK K))
            refine mg_sync rfl rfl (fun w8 hw8 K hK => ?_)
            have r8 := H7.out.below hw8
            have hz := r8.box
            have hfin := setRow_heap _ _ _ (idA v) _ _ hz
            have hfr := below_setRow r8.fr HRW.out (idA v)
            have HE := Lib.hid (And.intro hfin hfr)
            clear r8 hw8 hfin hfr LI
            refine wpList_store_row rfl 41 _ _ rfl R (idA v) rfl rfl 41 Z0 hz ziy zsy z1y ?_
            go_wp2_with fail
            iterate 1 (refine mg_calm rfl (fun K hK => ?_); go_simp; (refine hK _ ?_; clear hK K))
            refine mg_nil fun w10 hw10 => ?_
            have hfin := blockR_below HE.out.1 hw10
            have hfr := HE.out.2.trans (Below.mono hw10 HE.out.2.size)
            have HE2 := Lib.hid (And.intro hfin hfr)
            clear hw10 hfin hfr hz
            go_wp2_with fail
            refine bodyPost_ret (results_tmp_cell_tmp rfl _ _ R 41 (idA v) (0, 0) _ rfl HE2.out.1 Tryz.underlying41 rfl ziy) rfl ?_
            rw [HGK.out]
            exact ⟨rfl, HE2.out.2⟩
        have t6 : decide ((6 : Int) ≤ (nb : Int)) = true := decide_eq_true (by omega)
        have t6' : decide (6 ≤ nb) = true := decide_eq_true h6
        have SL := fun W => str_to Tryz.underlying9 y (i := 5) (by have := HS.out.2.2; omega) W
        have E5 : ((strOf (y.take 5)).toList == [114, 101, 102, 58, 32]) = decide (y.take 5 = refcT) := strOf_eq (y.take 5) refcT
        rw [← HYS.out] at SL
        obtain ⟨D5, hD5⟩ : ∃ D, D = decide (y.take 5 = refcT) := ⟨_, rfl⟩
        rw [← hD5] at E5
        have HD5 := Lib.hid hD5
        generalize strOf (y.take 5) = T5 at *
        clear hD5
        cases D5
        case false =>
          have HI : Hid (GK = headI y) := Lib.hid (HS.out.1.trans (headB_id (fun h => of_decide_eq_false HD5.out.symm h.2.1)))
          go_wp2_with (first | (refine wpList_unguard rfl (wpList_slice_at rfl _ _ _ _ _ rfl _ _ _ _ _ rfl rfl rfl rfl (SL _) ?_)))
          clear SL E5
          refine CI.mono ?_
          clear CI
          rintro e w6 ⟨rfl, hb6⟩
          obtain ⟨K, hK⟩ : ∃ K, K = fileK y := ⟨_, rfl⟩
          have hgk := HI.out
          unfold headI at hgk
          rw [← hK] at hgk ⊢
          obtain ⟨ok, hok⟩ : ∃ ok, ok = K.isSome := ⟨_, rfl⟩
          obtain ⟨v, hv⟩ : ∃ v, v = K.getD id0 := ⟨_, rfl⟩
          rw [← hok, ← hv] at hgk ⊢
          have HGK := Lib.hid hgk
          have r6 := HR.out.below hb6
          have hz7 : (w6.alloc (.cells Z0 41)).heap[w6.heap.size]? = some (.cells Z0 41 (0, 0)) := heap_alloc_last _ _ _ rfl
          have hg7 : Below w6.heap.size w6 ((w6.alloc (.cells Z0 41)).setRow w6.heap.size (idA v)) := below_setRow ((Below.refl _ _).alloc (Nat.le_refl _) _) (Nat.le_refl _) _
          have hk7 : ((w6.alloc (.cells Z0 41)).setRow w6.heap.size (idA v)).heap[w6.heap.size]? = some (.cells (idA v) 41 (0, 0)) := setRow_heap _ _ _ _ _ _ hz7
          have zsy : Z0.size = (idA v).size := by rw [HZ.out]; simp [idA, idc_len]
          have ziy : (Tryz.prog.info? 41).map (·.size) = some (idA v).size := by rw [show (idA v).size = 20 by simp [idA, idc_len]]; kernel_rfl
          have z1y : (idA v).all (·.oneCell') = true := all_oneCell_toArray (bcells_one _)
          have H7 := Lib.hid (And.intro (r6.below hg7) hk7)
          have HKO := Lib.hid (And.intro hok hv)
          clear r6 hb6 hg7 hk7 hgk hK hok hv c1 IX
          go_upto_region 10 with (refine wpList_store_row rfl 41 _ _ rfl w6.heap.size (idA v) rfl rfl 41 Z0 hz7 ziy zsy z1y ?_)
          have H8 := H7.out
          obtain ⟨X7, hX7⟩ : ∃ X, X = w6.heap.size := ⟨_, rfl⟩
          rw [← hX7] at H8 ⊢
          clear hX7 H7 hz7
          generalize (w6.alloc (.cells Z0 41)).setRow X7 (idA v) = w7 at *
          obtain ⟨r7, hk7⟩ := H8
          cases ok
          · have hz := r7.box
            have hfin := setRow_heap _ _ _ Z0 _ _ hz
            have hfr := below_setRow r7.fr HRW.out Z0
            have hv0 : v = id0 := by have h1 := HKO.out.1; have h2 := HKO.out.2; cases K with | none => exact h2 | some _ => cases h1
            have HE := Lib.hid (And.intro hfin (And.intro hfr hv0))
            clear hfin hfr hv0 r7 hk7 zsy ziy z1y
            go_wp2_with (first | (refine wpList_build_at rfl _ _ rfl [] _ rfl (b0 _) ?_) | (refine wpList_store_row rfl 41 _ _ rfl R Z0 rfl rfl 41 Z0 hz ziZ rfl z1Z ?_))
            refine bodyPost_ret (results_tmp_cell_tmp rfl _ _ R 41 Z0 (0, 0) _ rfl HE.out.1 Tryz.underlying41 rfl ziZ) rfl ?_
            rw [HGK.out, HE.out.2.2]
            refine ⟨?_, HE.out.2.1⟩
            show Ending.returned (.tuple #[.string ⟨#[]⟩, .agg Z0, .int .i64 4]) = _
            rw [HZ.out]; try rfl
          · have LI : ∀ y2 : Later w7, (Instr.loadAt 41 (.pointer (some ⟨X7, 0, none⟩))).run Tryz.prog y2.1 = .ok (.agg (idA v)) y2.1 := fun y2 => load_id arrR (by kernel_rfl) v X7 0 y2.1 (rangeR_below (idBox hk7) y2.2)
            have H7 := Lib.hid r7
            clear r7 hk7
            go_upto_region 11 with (fail)
            refine wp_region_mg [(0, 0), (1, 0), (2, 2), (3, 0)] (by kernel_rfl) (by kernel_rfl) ?_
            refine mg_load rfl rfl _ _ rfl _ _ rfl LI ?_
            iterate 1 (refine mg_calm rfl (fun K hK => ?_); go_simp; (refine hK _ ?_; clear hK K))
            refine mg_sync rfl rfl (fun w8 hw8 K hK => ?_)
            have r8 := H7.out.below hw8
            have hz := r8.box
            have hfin := setRow_heap _ _ _ (idA v) _ _ hz
            have hfr := below_setRow r8.fr HRW.out (idA v)
            have HE := Lib.hid (And.intro hfin hfr)
            clear r8 hw8 hfin hfr LI
            refine wpList_store_row rfl 41 _ _ rfl R (idA v) rfl rfl 41 Z0 hz ziy zsy z1y ?_
            go_wp2_with fail
            iterate 1 (refine mg_calm rfl (fun K hK => ?_); go_simp; (refine hK _ ?_; clear hK K))
            refine mg_nil fun w10 hw10 => ?_
            have hfin := blockR_below HE.out.1 hw10
            have hfr := HE.out.2.trans (Below.mono hw10 HE.out.2.size)
            have HE2 := Lib.hid (And.intro hfin hfr)
            clear hw10 hfin hfr hz
            go_wp2_with fail
            refine bodyPost_ret (results_tmp_cell_tmp rfl _ _ R 41 (idA v) (0, 0) _ rfl HE2.out.1 Tryz.underlying41 rfl ziy) rfl ?_
            rw [HGK.out]
            exact ⟨rfl, HE2.out.2⟩
        have w1' : IntKind.i64.wrap ((nb : Int) - 1) = ((nb - 1 : Nat) : Int) := by rw [IntKind.wrap_i64]; have := HS.out.2.1.2; omega
        obtain ⟨m, hm⟩ : ∃ m, m = nb - 1 := ⟨_, rfl⟩
        rw [← hm] at w1'
        obtain ⟨c, hc⟩ : ∃ c, y[m]? = some c := ⟨y[m]'(by have := HS.out.2.2; omega), List.getElem?_eq_getElem _⟩
        have SX := fun (W : World) => str_at Tryz.underlying9 y (m : Int) rfl hc W
        rw [← HYS.out] at SX
        by_cases hc10 : c = 10
        case neg =>
          have t2 : ((c.toNat : Int) == 10) = false := by
            rw [beq_eq_false_iff_ne]; intro h; exact hc10 (UInt8.toNat_inj.1 (by show c.toNat = 10; omega))
          have HI : Hid (GK = headI y) := Lib.hid (HS.out.1.trans (headB_id (fun h => hc10 (by have h1 := h.2.2.1; rw [← HS.out.2.2, ← hm, hc] at h1; injection h1))))
          clear hc hc10 hm
          go_wp2_with (first | (refine wpList_unguard rfl (wpList_slice_at rfl _ _ _ _ _ rfl _ _ _ _ _ rfl rfl rfl rfl (SL _) ?_)) | (refine wpList_unguard rfl (wpList_index_at rfl _ _ _ rfl _ _ _ rfl rfl (SX _) ?_)))
          clear SL E5 SX
          refine CI.mono ?_
          clear CI
          rintro e w6 ⟨rfl, hb6⟩
          obtain ⟨K, hK⟩ : ∃ K, K = fileK y := ⟨_, rfl⟩
          have hgk := HI.out
          unfold headI at hgk
          rw [← hK] at hgk ⊢
          obtain ⟨ok, hok⟩ : ∃ ok, ok = K.isSome := ⟨_, rfl⟩
          obtain ⟨v, hv⟩ : ∃ v, v = K.getD id0 := ⟨_, rfl⟩
          rw [← hok, ← hv] at hgk ⊢
          have HGK := Lib.hid hgk
          have r6 := HR.out.below hb6
          have hz7 : (w6.alloc (.cells Z0 41)).heap[w6.heap.size]? = some (.cells Z0 41 (0, 0)) := heap_alloc_last _ _ _ rfl
          have hg7 : Below w6.heap.size w6 ((w6.alloc (.cells Z0 41)).setRow w6.heap.size (idA v)) := below_setRow ((Below.refl _ _).alloc (Nat.le_refl _) _) (Nat.le_refl _) _
          have hk7 : ((w6.alloc (.cells Z0 41)).setRow w6.heap.size (idA v)).heap[w6.heap.size]? = some (.cells (idA v) 41 (0, 0)) := setRow_heap _ _ _ _ _ _ hz7
          have zsy : Z0.size = (idA v).size := by rw [HZ.out]; simp [idA, idc_len]
          have ziy : (Tryz.prog.info? 41).map (·.size) = some (idA v).size := by rw [show (idA v).size = 20 by simp [idA, idc_len]]; kernel_rfl
          have z1y : (idA v).all (·.oneCell') = true := all_oneCell_toArray (bcells_one _)
          have H7 := Lib.hid (And.intro (r6.below hg7) hk7)
          have HKO := Lib.hid (And.intro hok hv)
          clear r6 hb6 hg7 hk7 hgk hK hok hv c1 IX
          go_upto_region 10 with (refine wpList_store_row rfl 41 _ _ rfl w6.heap.size (idA v) rfl rfl 41 Z0 hz7 ziy zsy z1y ?_)
          have H8 := H7.out
          obtain ⟨X7, hX7⟩ : ∃ X, X = w6.heap.size := ⟨_, rfl⟩
          rw [← hX7] at H8 ⊢
          clear hX7 H7 hz7
          generalize (w6.alloc (.cells Z0 41)).setRow X7 (idA v) = w7 at *
          obtain ⟨r7, hk7⟩ := H8
          cases ok
          · have hz := r7.box
            have hfin := setRow_heap _ _ _ Z0 _ _ hz
            have hfr := below_setRow r7.fr HRW.out Z0
            have hv0 : v = id0 := by have h1 := HKO.out.1; have h2 := HKO.out.2; cases K with | none => exact h2 | some _ => cases h1
            have HE := Lib.hid (And.intro hfin (And.intro hfr hv0))
            clear hfin hfr hv0 r7 hk7 zsy ziy z1y
            go_wp2_with (first | (refine wpList_build_at rfl _ _ rfl [] _ rfl (b0 _) ?_) | (refine wpList_store_row rfl 41 _ _ rfl R Z0 rfl rfl 41 Z0 hz ziZ rfl z1Z ?_))
            refine bodyPost_ret (results_tmp_cell_tmp rfl _ _ R 41 Z0 (0, 0) _ rfl HE.out.1 Tryz.underlying41 rfl ziZ) rfl ?_
            rw [HGK.out, HE.out.2.2]
            refine ⟨?_, HE.out.2.1⟩
            show Ending.returned (.tuple #[.string ⟨#[]⟩, .agg Z0, .int .i64 4]) = _
            rw [HZ.out]; try rfl
          · have LI : ∀ y2 : Later w7, (Instr.loadAt 41 (.pointer (some ⟨X7, 0, none⟩))).run Tryz.prog y2.1 = .ok (.agg (idA v)) y2.1 := fun y2 => load_id arrR (by kernel_rfl) v X7 0 y2.1 (rangeR_below (idBox hk7) y2.2)
            have H7 := Lib.hid r7
            clear r7 hk7
            go_upto_region 11 with (fail)
            refine wp_region_mg [(0, 0), (1, 0), (2, 2), (3, 0)] (by kernel_rfl) (by kernel_rfl) ?_
            refine mg_load rfl rfl _ _ rfl _ _ rfl LI ?_
            iterate 1 (refine mg_calm rfl (fun K hK => ?_); go_simp; (refine hK _ ?_; clear hK K))
            refine mg_sync rfl rfl (fun w8 hw8 K hK => ?_)
            have r8 := H7.out.below hw8
            have hz := r8.box
            have hfin := setRow_heap _ _ _ (idA v) _ _ hz
            have hfr := below_setRow r8.fr HRW.out (idA v)
            have HE := Lib.hid (And.intro hfin hfr)
            clear r8 hw8 hfin hfr LI
            refine wpList_store_row rfl 41 _ _ rfl R (idA v) rfl rfl 41 Z0 hz ziy zsy z1y ?_
            go_wp2_with fail
            iterate 1 (refine mg_calm rfl (fun K hK => ?_); go_simp; (refine hK _ ?_; clear hK K))
            refine mg_nil fun w10 hw10 => ?_
            have hfin := blockR_below HE.out.1 hw10
            have hfr := HE.out.2.trans (Below.mono hw10 HE.out.2.size)
            have HE2 := Lib.hid (And.intro hfin hfr)
            clear hw10 hfin hfr hz
            go_wp2_with fail
            refine bodyPost_ret (results_tmp_cell_tmp rfl _ _ R 41 (idA v) (0, 0) _ rfl HE2.out.1 Tryz.underlying41 rfl ziy) rfl ?_
            rw [HGK.out]
            exact ⟨rfl, HE2.out.2⟩
        subst hc10
        have SM := fun W => str_mid Tryz.underlying9 y (i := 5) (n := nb - 6) 5 (m : Int) rfl (by omega) (by have := HS.out.2.2; omega) W
        obtain ⟨N, hN⟩ : ∃ N, N = (y.drop 5).take (nb - 6) := ⟨_, rfl⟩
        rw [← HYS.out, ← hN] at SM
        have CN := fun W => refRightN_any N (by rw [hN, List.length_take]; have := HS.out.2.1.2; omega) W
        obtain ⟨rn, hrn⟩ : ∃ r, r = rightN N := ⟨_, rfl⟩
        obtain ⟨NS, hNS⟩ : ∃ N2, N2 = strOf N := ⟨_, rfl⟩
        rw [← hrn, ← hNS] at CN
        rw [← hNS] at SM
        have HX := Lib.hid (And.intro hN (And.intro hrn (And.intro hNS (And.intro hc hm))))
        clear hN hrn hNS hc hm
        go_wp2_with (first | (refine wpList_unguard rfl (wpList_slice_at rfl _ _ _ _ _ rfl _ _ _ _ _ rfl rfl rfl rfl (SL _) ?_)) | (refine wpList_unguard rfl (wpList_slice_at rfl _ _ _ _ _ rfl _ _ _ _ _ rfl rfl rfl rfl (SM _) ?_)) | (refine wpList_unguard rfl (wpList_index_at rfl _ _ _ rfl _ _ _ rfl rfl (SX _) ?_)))
        refine (CN _).mono ?_
        clear CN SL E5
        rintro e w5 ⟨rfl, rfl⟩
        cases rn
        case false =>
          have HI : Hid (GK = headI y) := Lib.hid (HS.out.1.trans (headB_id (fun h => by have h1 := h.2.2.2; rw [← HS.out.2.2, ← HX.out.1, ← HX.out.2.1] at h1; cases h1)))
          clear SM SX
          go_wp2_with fail
          refine CI.mono ?_
          clear CI
          rintro e w6 ⟨rfl, hb6⟩
          obtain ⟨K, hK⟩ : ∃ K, K = fileK y := ⟨_, rfl⟩
          have hgk := HI.out
          unfold headI at hgk
          rw [← hK] at hgk ⊢
          obtain ⟨ok, hok⟩ : ∃ ok, ok = K.isSome := ⟨_, rfl⟩
          obtain ⟨v, hv⟩ : ∃ v, v = K.getD id0 := ⟨_, rfl⟩
          rw [← hok, ← hv] at hgk ⊢
          have HGK := Lib.hid hgk
          have r6 := HR.out.below hb6
          have hz7 : (w6.alloc (.cells Z0 41)).heap[w6.heap.size]? = some (.cells Z0 41 (0, 0)) := heap_alloc_last _ _ _ rfl
          have hg7 : Below w6.heap.size w6 ((w6.alloc (.cells Z0 41)).setRow w6.heap.size (idA v)) := below_setRow ((Below.refl _ _).alloc (Nat.le_refl _) _) (Nat.le_refl _) _
          have hk7 : ((w6.alloc (.cells Z0 41)).setRow w6.heap.size (idA v)).heap[w6.heap.size]? = some (.cells (idA v) 41 (0, 0)) := setRow_heap _ _ _ _ _ _ hz7
          have zsy : Z0.size = (idA v).size := by rw [HZ.out]; simp [idA, idc_len]
          have ziy : (Tryz.prog.info? 41).map (·.size) = some (idA v).size := by rw [show (idA v).size = 20 by simp [idA, idc_len]]; kernel_rfl
          have z1y : (idA v).all (·.oneCell') = true := all_oneCell_toArray (bcells_one _)
          have H7 := Lib.hid (And.intro (r6.below hg7) hk7)
          have HKO := Lib.hid (And.intro hok hv)
          clear r6 hb6 hg7 hk7 hgk hK hok hv c1 IX
          go_upto_region 10 with (refine wpList_store_row rfl 41 _ _ rfl w6.heap.size (idA v) rfl rfl 41 Z0 hz7 ziy zsy z1y ?_)
          have H8 := H7.out
          obtain ⟨X7, hX7⟩ : ∃ X, X = w6.heap.size := ⟨_, rfl⟩
          rw [← hX7] at H8 ⊢
          clear hX7 H7 hz7
          generalize (w6.alloc (.cells Z0 41)).setRow X7 (idA v) = w7 at *
          obtain ⟨r7, hk7⟩ := H8
          cases ok
          · have hz := r7.box
            have hfin := setRow_heap _ _ _ Z0 _ _ hz
            have hfr := below_setRow r7.fr HRW.out Z0
            have hv0 : v = id0 := by have h1 := HKO.out.1; have h2 := HKO.out.2; cases K with | none => exact h2 | some _ => cases h1
            have HE := Lib.hid (And.intro hfin (And.intro hfr hv0))
            clear hfin hfr hv0 r7 hk7 zsy ziy z1y
            go_wp2_with (first | (refine wpList_build_at rfl _ _ rfl [] _ rfl (b0 _) ?_) | (refine wpList_store_row rfl 41 _ _ rfl R Z0 rfl rfl 41 Z0 hz ziZ rfl z1Z ?_))
            refine bodyPost_ret (results_tmp_cell_tmp rfl _ _ R 41 Z0 (0, 0) _ rfl HE.out.1 Tryz.underlying41 rfl ziZ) rfl ?_
            rw [HGK.out, HE.out.2.2]
            refine ⟨?_, HE.out.2.1⟩
            show Ending.returned (.tuple #[.string ⟨#[]⟩, .agg Z0, .int .i64 4]) = _
            rw [HZ.out]; try rfl
          · have LI : ∀ y2 : Later w7, (Instr.loadAt 41 (.pointer (some ⟨X7, 0, none⟩))).run Tryz.prog y2.1 = .ok (.agg (idA v)) y2.1 := fun y2 => load_id arrR (by kernel_rfl) v X7 0 y2.1 (rangeR_below (idBox hk7) y2.2)
            have H7 := Lib.hid r7
            clear r7 hk7
            go_upto_region 11 with (fail)
            refine wp_region_mg [(0, 0), (1, 0), (2, 2), (3, 0)] (by kernel_rfl) (by kernel_rfl) ?_
            refine mg_load rfl rfl _ _ rfl _ _ rfl LI ?_
            iterate 1 (refine mg_calm rfl (fun K hK => ?_); go_simp; (refine hK _ ?_; clear hK K))
            refine mg_sync rfl rfl (fun w8 hw8 K hK => ?_)
            have r8 := H7.out.below hw8
            have hz := r8.box
            have hfin := setRow_heap _ _ _ (idA v) _ _ hz
            have hfr := below_setRow r8.fr HRW.out (idA v)
            have HE := Lib.hid (And.intro hfin hfr)
            clear r8 hw8 hfin hfr LI
            refine wpList_store_row rfl 41 _ _ rfl R (idA v) rfl rfl 41 Z0 hz ziy zsy z1y ?_
            go_wp2_with fail
            iterate 1 (refine mg_calm rfl (fun K hK => ?_); go_simp; (refine hK _ ?_; clear hK K))
            refine mg_nil fun w10 hw10 => ?_
            have hfin := blockR_below HE.out.1 hw10
            have hfr := HE.out.2.trans (Below.mono hw10 HE.out.2.size)
            have HE2 := Lib.hid (And.intro hfin hfr)
            clear hw10 hfin hfr hz
            go_wp2_with fail
            refine bodyPost_ret (results_tmp_cell_tmp rfl _ _ R 41 (idA v) (0, 0) _ rfl HE2.out.1 Tryz.underlying41 rfl ziy) rfl ?_
            rw [HGK.out]
            exact ⟨rfl, HE2.out.2⟩
        have hfinG : GK = (N, id0, 0) := by
          rw [HS.out.1, headB_ref (by rw [← HS.out.2.2]; exact h6) (of_decide_eq_true HD5.out.symm) (by rw [← HS.out.2.2, ← HX.out.2.2.2.2]; exact HX.out.2.2.2.1) (by rw [← HS.out.2.2, ← HX.out.1]; exact HX.out.2.1.symm), ← HS.out.2.2, ← HX.out.1]
        have hz := HR.out.box
        have hfin := setRow_heap _ _ _ Z0 _ _ hz
        have hfr := below_setRow HR.out.fr HRW.out Z0
        have HE := Lib.hid (And.intro hfin (And.intro hfr hfinG))
        clear hfin hfr hfinG SX
        go_wp2_with (first | (refine wpList_slice_at rfl _ _ _ _ _ rfl _ _ _ _ _ rfl rfl rfl rfl (SM _) ?_) | (refine wpList_build_at rfl _ _ rfl [] _ rfl (b0 _) ?_) | (refine wpList_store_row rfl 41 _ _ rfl R Z0 rfl rfl 41 Z0 hz ziZ rfl z1Z ?_))
        refine bodyPost_ret (results_tmp_cell_tmp rfl _ _ R 41 Z0 (0, 0) _ rfl HE.out.1 Tryz.underlying41 rfl ziZ) rfl ?_
        rw [HE.out.2.2]
        refine ⟨?_, HE.out.2.1⟩
        show Ending.returned (.tuple #[.string NS, .agg Z0, .int .i64 0]) = _
        rw [HZ.out, HX.out.2.2.1]
    · obtain rfl : i = n := by omega
      have t1 : decide ((i : Int) < (i : Int)) = false := decide_eq_false (by omega)
      have t1' : decide (i < i) = false := decide_eq_false (by omega)
      have hgk := HG.out.trans (docHead_no fun k hk => HN.out.1 k (by rw [HH.out.2.1]; exact hk))
      have hz := rr.box
      have hfin := setRow_heap _ _ _ Z0 _ _ hz
      have hfr := below_setRow rr.fr HRW.out Z0
      have HE := Lib.hid (And.intro hfin (And.intro hfr hgk))
      clear hfin hfr hgk rr
      go_wp2_with (first | (refine wpList_build_at rfl _ _ rfl [] _ rfl (b0 _) ?_) | (refine wpList_store_row rfl 41 _ _ rfl R Z0 rfl rfl 41 Z0 hz ziZ rfl z1Z ?_))
      refine bodyPost_ret (results_tmp_cell_tmp rfl _ _ R 41 Z0 (0, 0) _ rfl HE.out.1 Tryz.underlying41 rfl ziZ) rfl ?_
      rw [HE.out.2.2]
      refine ⟨?_, HE.out.2.1⟩
      show Ending.returned (.tuple #[.string ⟨#[]⟩, .agg Z0, .int .i64 6]) = _
      rw [HZ.out]; try rfl
end Go.Proofs.YtponfkfeflnilaaGreatDoor
namespace Go.Proofs.YtponfkfeflnilaaGreatDoor
open Go.RowKit Go.Mix Go.WideMaps Go.Maps

set_option maxRecDepth 100000 in
set_option maxHeartbeats 2000000 in
theorem refFind_any {name : Bytes} {w : World} {a : Option Addr} {cap : Nat} {l : List RefP} (h : RsAt encP 21 w a cap l) (hl : l.length ≤ 1000000) :
    Calls Tryz.prog 30 #[.slice a l.length cap, .string (strOf name)] w fun e w' => e = .returned (.int .i64 (idxN name l)) ∧ w' = w := by
  obtain ⟨n, hn⟩ : ∃ n, n = l.length := ⟨_, rfl⟩
  have HH := Lib.hid (And.intro h hn)
  rw [← hn] at hl ⊢
  clear h hn
  obtain ⟨NM, hNM⟩ : ∃ N, N = strOf name := ⟨_, rfl⟩
  have HN := Lib.hid hNM
  rw [← hNM]
  clear hNM
  go_enter Tryz.func30, Tryz.ntmps30
  go_wp2_with fail
  go_loopw [5] (fun s5 wr => ∃ i : Nat, s5 = .int .i64 (i : Int) ∧ i ≤ n ∧ (∀ k, k < i → hasN name l[k]! = false) ∧ wr = w) (fun s5 _ => n - (intOf s5).toNat)
  case atStart => exact ⟨0, rfl, Nat.zero_le _, fun k hk => absurd hk (Nat.not_lt_zero _), rfl⟩
  case round =>
    obtain ⟨i, rfl, hi, hno, rfl⟩ := hrel
    have HR := Lib.hid hno
    clear hno
    by_cases hin : i < n
    · have t1 : decide ((i : Int) < (n : Int)) = true := decide_eq_true (by omega)
      have t1' : decide (i < n) = true := decide_eq_true hin
      have hil : i < l.length := by rw [← HH.out.2]; exact hin
      obtain ⟨b, q, IX, R, -⟩ := HH.out.1.at tyD (i : Int) i rfl hil
      rw [← HH.out.2] at IX
      have LN := load_name R ⟨wr, Below.refl _ _⟩
      change (Instr.loadAt 9 (.pointer (some ⟨b, q, none⟩))).run Tryz.prog wr = .ok (.string (strOf l[i]!.name)) wr at LN
      have E := strOf_eq l[i]!.name name
      have hE : ((strOf l[i]!.name).toList == NM.toList) = hasN name l[i]! := by rw [HN.out, strOf_list name]; exact E
      obtain ⟨D, hD⟩ : ∃ D, D = hasN name l[i]! := ⟨_, rfl⟩
      rw [← hD] at hE
      have HS := Lib.hid (And.intro hil hD)
      clear E hD hil R
      generalize strOf l[i]!.name = X at *
      cases D
      · go_wp2_with (first | (refine wpList_load_at rfl _ _ rfl _ _ rfl LN ?_))
        go_roundw
        case rel =>
          refine ⟨i + 1, by go_num, by omega, fun k hk => ?_, by trivial⟩
          by_cases hki : k < i
          · exact HR.out k hki
          · rw [show k = i by omega, ← HS.out.2]
        case measure => simp [intOf]; omega
      · go_wp2_with (first | (refine wpList_load_at rfl _ _ rfl _ _ rfl LN ?_))
        go_ret
        rw [idxN_some HS.out.1 HR.out HS.out.2.symm]
        exact ⟨rfl, rfl⟩
    · obtain rfl : i = n := by omega
      have t1 : decide ((i : Int) < (i : Int)) = false := decide_eq_false (by omega)
      have t1' : decide (i < i) = false := decide_eq_false (by omega)
      go_wp2_with fail
      go_ret
      rw [idxN_none (fun k hk => HR.out k (by rw [HH.out.2]; exact hk))]
      exact ⟨rfl, rfl⟩
set_option maxRecDepth 100000 in
set_option maxHeartbeats 2000000 in
theorem refLess_any {name : Bytes} {w : World} {a : Option Addr} {cap : Nat} {l : List RefP} (h : RsAt encP 21 w a cap l) (hl : l.length ≤ 1000000) :
    Calls Tryz.prog 31 #[.slice a l.length cap, .string (strOf name)] w fun e w' => ∃ v, e = .returned v ∧ OwnR encP 21 62 w w' v (l.filter fun r => !hasN name r) := by
  obtain ⟨n, hn⟩ : ∃ n, n = l.length := ⟨_, rfl⟩
  have HH := Lib.hid (And.intro h hn)
  rw [← hn] at hl ⊢
  clear h hn
  obtain ⟨NM, hNM⟩ : ∃ N, N = strOf name := ⟨_, rfl⟩
  have HN := Lib.hid hNM
  rw [← hNM]
  clear hNM
  go_enter Tryz.func31, Tryz.ntmps31
  go_wp2_with fail
  go_loopw [5, 6] (fun s5 s6 wr => ∃ i : Nat, s6 = .int .i64 (i : Int) ∧ i ≤ n ∧ OwnR encP 21 62 w wr s5 ((l.take i).filter fun r => !hasN name r)) (fun _ s6 _ => n - (intOf s6).toNat)
  case atStart => exact ⟨0, rfl, Nat.zero_le _, OwnR.nil (Below.refl _ _)⟩
  case round =>
    obtain ⟨i, rfl, hi, hrow⟩ := hrel
    have HR := Lib.hid hrow
    clear hrow
    by_cases hin : i < n
    · have t1 : decide ((i : Int) < (n : Int)) = true := decide_eq_true (by omega)
      have t1' : decide (i < n) = true := decide_eq_true hin
      have hil : i < l.length := by rw [← HH.out.2]; exact hin
      obtain ⟨b, q, IX, R, LD⟩ := (HH.out.1.below HR.out.frame).at tyD (i : Int) i rfl hil
      rw [← HH.out.2] at IX
      have L0 := LD wr (Below.refl _ _)
      have LN := load_name R ⟨wr, Below.refl _ _⟩
      change (Instr.loadAt 9 (.pointer (some ⟨b, q, none⟩))).run Tryz.prog wr = .ok (.string (strOf l[i]!.name)) wr at LN
      have E := strOf_eq l[i]!.name name
      have hE : ((strOf l[i]!.name).toList == NM.toList) = hasN name l[i]! := by rw [HN.out, strOf_list name]; exact E
      have hsn := take_succP hil
      have B1 := fun W : World => tyD.slice1 l[i]! W
      obtain ⟨D, hD⟩ : ∃ D, D = hasN name l[i]! := ⟨_, rfl⟩
      rw [← hD] at hE
      have hE2 : ((strOf l[i]!.name).toList != NM.toList) = !D := by rw [← hE]; rfl
      have hacc : ((l.take i).filter fun r => !hasN name r).length ≤ 1000000 := Nat.le_trans (List.length_filter_le _ _) (by rw [List.length_take]; omega)
      obtain ⟨r, hr⟩ : ∃ r, r = l[i]! := ⟨_, rfl⟩
      rw [← hr] at LN L0 hE hE2 hD hsn B1
      have HS := Lib.hid (And.intro hsn (And.intro hD hacc))
      clear E hD hil R LD hsn hr hacc
      generalize strOf r.name = X at *
      cases D
      · have hrow9 := HR.out.later ((Below.refl _ _).alloc (Nat.le_refl _) (.cells (recA encP r) 62))
        have hp9 := RsAt.one (enc := encP) (L := 21) wr 62 r
        have HRP := Lib.hid (And.intro hrow9 hp9)
        clear hrow9 hp9
        have B1' := B1 wr
        obtain ⟨acc, hacc⟩ : ∃ acc, acc = (l.take i).filter fun r => !hasN name r := ⟨_, rfl⟩
        rw [← hacc] at HRP
        have HAC := Lib.hid hacc
        clear hacc B1
        go_wp2_with (first | (refine wpList_load_at rfl _ _ rfl _ _ rfl LN ?_) | (refine wpList_load_at rfl _ _ rfl _ _ rfl L0 ?_) | (refine wpList_buildSlice_at rfl _ _ _ rfl [(0, .agg (recA encP r))] _ rfl B1' ?_) | (refine wpList_append_r tyD rfl (.tmp 20) (.tmp 25) rfl _ acc rfl HRP.out.1 (some ⟨wr.heap.size, 0, none⟩) 1 1 [r] rfl rfl HRP.out.2 (by have := HS.out.2.2; rw [← HAC.out] at this; simp; omega) ?_; intro v11 w11 hrow11 hgr11 hgn11; have H11 := Lib.hid hrow11; clear hrow11 hgr11 hgn11 B1' LN L0))
        go_roundw
        case rel =>
          refine ⟨i + 1, by go_num, by omega, ?_⟩
          rw [HS.out.1, List.filter_append, List.filter_cons_of_pos (by rw [← HS.out.2.1]; rfl), List.filter_nil, ← HAC.out]
          exact H11.out
        case measure => simp [intOf]; omega
      · go_wp2_with (first | (refine wpList_load_at rfl _ _ rfl _ _ rfl LN ?_))
        go_roundw
        case rel =>
          refine ⟨i + 1, by go_num, by omega, ?_⟩
          rw [HS.out.1, List.filter_append, List.filter_cons_of_neg (by rw [← HS.out.2.1]; decide), List.filter_nil, List.append_nil]
          exact HR.out
        case measure => simp [intOf]; omega
    · obtain rfl : i = n := by omega
      have t1 : decide ((i : Int) < (i : Int)) = false := decide_eq_false (by omega)
      have t1' : decide (i < i) = false := decide_eq_false (by omega)
      have hfin := HR.out
      rw [List.take_of_length_le (by rw [HH.out.2]; exact Nat.le_refl _)] at hfin
      have HF := Lib.hid hfin
      clear hfin
      go_wp2_with fail
      go_ret
      exact ⟨_, rfl, HF.out⟩
end Go.Proofs.YtponfkfeflnilaaGreatDoor
