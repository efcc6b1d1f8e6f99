/-
  RefsErrors: the walk.
-/
import Derived.Test.YtponfkfeflnilaaGreatDoorMaDls
import Derived.Test.YtponfkfeflnilaaGreatDoorMaDoc
namespace Go.Proofs.YtponfkfeflnilaaGreatDoor
open Go.RowKit Go.Mix Go.WideMaps Go.Maps

theorem taken_short {Z : Nat} {S : StP} (ok : OkS Z S) (hZ : Z ≤ 100000) : ∀ x ∈ takenP S [], x.path.length ≤ 100000 ∧ x.bytes.length ≤ 100000 := fun x hx => by
  rw [takenP_nil] at hx
  obtain ⟨p, hp, rfl⟩ := List.mem_map.1 hx
  unfold keysF at hp
  obtain ⟨q, hq, rfl⟩ := List.mem_map.1 hp
  exact ⟨Nat.le_trans (ok.ok q hq).2.1 (by decide), Nat.le_trans (ok.now_len _) hZ⟩
theorem taken_len {Z : Nat} {S : StP} (ok : OkS Z S) : (takenP S []).length ≤ 10000 := by
  rw [takenP_nil, List.length_map]
  unfold keysF
  rw [List.length_map]
  exact ok.few

theorem mg_convert {P : Program} {ops : Array Oper} {Q : Act → World → Prop} {i : Nat} {r : List (Nat × Nat)} {o : Oper} {a : Act} {w : World} (ho : ops[i]? = some o) (hw : Region.wanted o (yielded ops a.tmps) = true)
    (t1 t2 : TypeId) (x : Operand) (hop : o.op = .convert t1 t2 x) (V v : Value) (hx : a.eval x = V) (hl : ∀ y : Later w, (convert t1 t2 V).run P y.1 = .ok v y.1)
    (h : MG P ops Q r (a.put o.dst v) w) : MG P ops Q ((i, 0) :: r) a w := mg_calm ho fun K hK => by
  unfold calmStep
  rw [if_pos hw]
  refine ⟨v, fun y => ?_, hK _ h⟩
  unfold calmAt execOp
  simp only [hop, hx, Sem.run_bind, Sem.run_pure, Result.andThen_ok, hl y]
  exact ⟨rfl, rfl⟩

set_option maxRecDepth 100000 in
set_option maxHeartbeats 16000000 in
theorem refsErrors_walk (a0 : Option Addr) (len0 cap0 : Nat) (g0 : List FlP) (a1 : ByteArray) (l2 : List UInt8) (w : World) (hl0 : g0.length = len0) (w0 : FlsAt w a0 cap0 g0) (x0 : ∀ p ∈ g0, p.path.length ≤ 9223372036854775807) (w1 : a1.size ≤ 9223372036854775807) (w2 : l2.length = 20) (hm : MaxIs w) :
    Calls Tryz.prog 5 #[.slice a0 len0 cap0, .string a1, .agg (bcells l2).toArray] w fun e w' => e = .returned (.bool true) ∧ Below w.heap.size w w' := by
  subst hl0
  obtain ⟨b, hb⟩ : ∃ b, b = a1.data.toList := ⟨_, rfl⟩
  have ha : a1 = strOf b := by rw [hb]; simp [strOf]
  subst ha
  obtain ⟨id, hid⟩ : ∃ id : Id20, id = ⟨l2, w2⟩ := ⟨_, rfl⟩
  have hia : (bcells l2).toArray = idA id := by rw [hid]; rfl
  rw [hia]
  obtain ⟨k, hk⟩ : ∃ k, k = min b.length 250 := ⟨_, rfl⟩
  obtain ⟨nb, hnb⟩ : ∃ n, n = b.length := ⟨_, rfl⟩
  have hbs : (strOf b).size = nb := by rw [strOf_size, hnb]
  have MR := min_runI (nb : Int) 250 (k : Int) (by omega)
  have SL := fun W => str_to Tryz.underlying9 b (i := k) (by omega) W
  obtain ⟨c, hc⟩ : ∃ c, c = b.take k := ⟨_, rfl⟩
  have hcl : c.length ≤ 250 := by rw [hc, List.length_take]; omega
  rw [← hc] at SL
  obtain ⟨CS, hCS⟩ : ∃ C, C = strOf c := ⟨_, rfl⟩
  rw [← hCS] at SL
  have HC := Lib.hid (And.intro hcl hCS)
  obtain ⟨IA, hIA⟩ : ∃ A, A = idA id := ⟨_, rfl⟩
  rw [← hIA]
  have HI := Lib.hid hIA
  have hbox : (w.alloc (.cells IA 42)).heap[w.heap.size]? = some (.cells IA 42 (0, 0)) := heap_alloc_last _ _ _ rfl
  have g1 : Below w.heap.size w (w.alloc (.cells IA 42)) := (Below.refl _ _).alloc (Nat.le_refl _) _
  obtain ⟨w1', hw1⟩ : ∃ w1, w1 = w.alloc (.cells IA 42) := ⟨_, rfl⟩
  rw [← hw1] at g1 hbox
  have hsz1 : w.heap.size < w1'.heap.size := by rw [hw1]; simp
  have HM := Lib.hid (And.intro (hm.below g1) (hm.below g1).lt)
  have CLAID := laid_any (w0.below g1) x0
  have H1 := Lib.hid (And.intro g1 (And.intro hbox hsz1))
  have HW := Lib.hid hw1
  obtain ⟨n0, hn0⟩ : ∃ n, n = g0.length := ⟨_, rfl⟩
  rw [← hn0] at CLAID ⊢
  generalize strOf b = BS at *
  clear hia hid hb hc hcl hCS hIA hk hnb w0 x0 w1 w2 hm g1 hbox hsz1 hn0
  obtain ⟨B, hB⟩ : ∃ B, B = w.heap.size := ⟨_, rfl⟩
  go_enter Tryz.func5, Tryz.ntmps5
  go_upto_region 1 with (fail)
  rw [← HW.out, ← hB]
  have HBB := Lib.hid hB
  clear hw1 HW hB
  go_wp2_with fail
  refine CLAID.mono ?_
  clear CLAID
  rintro e w2 ⟨p, own2, rfl, l2'⟩
  have hS := laid_ok g0
  obtain ⟨S, hSe⟩ : ∃ S, S = laidS g0 := ⟨_, rfl⟩
  rw [← hSe] at l2' hS
  have HS := Lib.hid hS
  have H2 := Lib.hid l2'
  have CT := taken_any l2'.at_ hS.ok (by decide)
  clear l2' hS hSe
  go_wp2_with (first | (refine wpList_slice_at rfl _ _ _ _ _ rfl _ _ _ _ _ rfl rfl rfl rfl (SL _) ?_))
  refine CT.mono ?_
  clear CT SL MR
  rintro e w3 ⟨v3, rfl, hof⟩
  obtain ⟨at_, ct, rfl, hfo, hb3⟩ := hof.o (own := own2) (fun k hk => H2.out.not_new hk)
  have l3 := H2.out.below hb3
  have CLS := refList_any hfo.fls (taken_len HS.out.ok) (taken_short HS.out.ok (by decide))
  rw [doc_all] at CLS
  obtain ⟨N, hN⟩ : ∃ N, N = (takenP S []).length := ⟨_, rfl⟩
  rw [← hN] at CLS ⊢
  have hNb : N ≤ 10000 := by rw [hN]; exact taken_len HS.out.ok
  have H3 := Lib.hid (And.intro hfo (And.intro l3 hN))
  clear hof hfo hb3 l3 hN
  go_wp2_with fail
  refine CLS.mono ?_
  clear CLS
  rintro e w4 hpost
  rcases hpost with ⟨L, hL, -, v4, rfl, ho⟩ | ⟨hL, rfl, hb4⟩
  · have l4 := H3.out.2.1.below ho.frame
    have CK := known_any w4 (l4.max HM.out.1 HM.out.2).is
    have H4 := Lib.hid l4
    clear ho l4 hL
    go_wp2_with fail
    refine CK.mono ?_
    clear CK
    rintro e w5 ⟨rfl, hb5⟩
    have H5 := Lib.hid (H1.out.1.trans ((H4.out.below hb5).frame.mono H1.out.1.size))
    clear hb5
    go_wp2_with fail
    go_ret
    exact ⟨rfl, H5.out⟩
  have l4 := H3.out.2.1.below hb4
  have hri := HS.out.refs (by decide) [] (by decide)
  have hid4 := blockR_below H1.out.2.1 l4.frame
  rw [HI.out] at hid4
  have LI := load_id arrG (by kernel_rfl) id w.heap.size 0 w4 (idBox hid4)
  rw [← HI.out, ← HBB.out] at LI
  have CS1 := Set_any l4.at_ (front := []) hri (l4.max HM.out.1 HM.out.2).is (by decide) c (by have := HC.out.1; omega) id
  rw [← HI.out, ← HC.out.2] at CS1
  have hset : setK S (frontL []) c id = (S, if rightN c then 4 else 1) := by
    show setK S [] c id = _
    unfold setK; rw [hL]; split <;> rfl
  have hdrop : dropS S (frontL []) c = (S, if rightN c then 4 else 1) := by
    show dropS S [] c = _
    unfold dropS; rw [hL]; split <;> rfl
  have hpack : packS S (frontL []) = (S, 4) := by
    show packS S [] = _
    unfold packS; rw [hL]
  rw [hset] at CS1
  change Calls _ _ #[ptr p, .string ⟨#[]⟩, .string CS, .agg IA] _ _ at CS1
  obtain ⟨r, hr⟩ : ∃ r, r = rightN c := ⟨_, rfl⟩
  rw [← hr] at CS1 hset hdrop
  obtain ⟨E, hE⟩ : ∃ E : Int, E = if r = true then 4 else 1 := ⟨_, rfl⟩
  rw [← hE] at CS1 hset hdrop
  have HE := Lib.hid (And.intro hr (And.intro hE (And.intro hdrop (And.intro hpack (And.intro hri hL)))))
  have H4 := Lib.hid (And.intro l4 (H3.out.1.below hb4))
  clear hb4 l4 hri hid4 hset hdrop hpack hr hE hL
  go_wp2_with (refine wpList_load_at rfl _ _ rfl _ _ rfl LI ?_)
  refine CS1.mono ?_
  clear CS1 LI
  rintro e w5 ⟨rfl, own5, hst5, ht5⟩
  have l5 := H4.out.1.turn hst5 ht5
  have f5 := H4.out.2.turn ht5
  have CS2 := Drop_any l5.at_ (front := []) HE.out.2.2.2.2.1 (l5.max HM.out.1 HM.out.2) (by decide) c (by have := HC.out.1; omega)
  rw [HE.out.2.2.1, ← HC.out.2] at CS2
  change Calls _ _ #[ptr p, .string ⟨#[]⟩, .string CS] _ _ at CS2
  have H5 := Lib.hid (And.intro l5 f5)
  clear hst5 ht5 l5 f5
  go_wp2_with fail
  refine CS2.mono ?_
  clear CS2
  rintro e w6 ⟨rfl, own6, hst6, ht6⟩
  have l6 := H5.out.1.turn hst6 ht6
  have f6 := H5.out.2.turn ht6
  have CS3 := Pack_any (Z1 := 0) l6.at_ (front := []) HE.out.2.2.2.2.1 (l6.max HM.out.1 HM.out.2) (by decide) (fun L hL => by
    have h1 : allK S [] = some L := hL
    rw [HE.out.2.2.2.2.2] at h1; cases h1)
  rw [HE.out.2.2.2.1] at CS3
  change Calls _ _ #[ptr p, .string ⟨#[]⟩] _ _ at CS3
  have H6 := Lib.hid (And.intro l6 f6)
  clear hst6 ht6 l6 f6
  go_wp2_with fail
  refine CS3.mono ?_
  clear CS3
  rintro e w7 ⟨rfl, own7, hst7, ht7⟩
  have l7 := H6.out.1.turn hst7 ht7
  have f7 := H6.out.2.turn ht7
  have CT := taken_any l7.at_ HS.out.ok (by decide)
  have H7 := Lib.hid (And.intro l7 f7)
  clear hst7 ht7 l7 f7
  go_wp2_with fail
  refine CT.mono ?_
  clear CT
  rintro e w8 ⟨v8, rfl, hof⟩
  obtain ⟨au, cu, rfl, hfu, hb8⟩ := hof.o (own := own7) (fun k hk => H7.out.1.not_new hk)
  have l8 := H7.out.1.below hb8
  have f8 := H7.out.2.below hb8
  rw [← H3.out.2.2]
  have tN : ((N : Int) != (N : Int)) = false := by simp
  have H8 := Lib.hid (And.intro l8 (And.intro f8 hfu))
  clear hof hfu hb8 l8 f8
  go_wp2_with fail
  go_loopw [15] (fun s15 wr => ∃ i : Nat, s15 = .int .i64 (i : Int) ∧ i ≤ N ∧ Below w8.heap.size w8 wr) (fun s15 _ => N - (intOf s15).toNat)
  case atStart => exact ⟨0, rfl, Nat.zero_le _, Below.refl _ _⟩
  case round =>
    obtain ⟨i, rfl, hi, hbr⟩ := hrel
    have HR := Lib.hid hbr
    clear hbr
    by_cases hin : i < N
    · have t1 : decide ((i : Int) < (N : Int)) = true := decide_eq_true (by omega)
      have t1' : decide (i < N) = true := decide_eq_true hin
      have hil : i < (takenP S []).length := by rw [← H3.out.2.2]; exact hin
      obtain ⟨b1, q1, aa1, cc1, IX1, c10, c11, hsl1⟩ := (H8.out.2.2.fls.below HR.out).at (i : Int) i rfl hil
      obtain ⟨b2, q2, aa2, cc2, IX2, c20, c21, hsl2⟩ := (H8.out.2.1.fls.below HR.out).at (i : Int) i rfl hil
      rw [← H3.out.2.2] at IX1 IX2
      have ST1 : ∀ y : Later wr, _ := fun y => (hsl1.below y.2).str
      have ST2 : ∀ y : Later wr, _ := fun y => (hsl2.below y.2).str
      have LP1 : ∀ y : Later wr, (Instr.loadAt 9 (.pointer (some ⟨b1, q1, none⟩))).run Tryz.prog y.1 = .ok (.string (strOf (takenP S [])[i]!.path)) y.1 := fun y => by
        have c := load_later c10 y
        go_simp
      have LP2 : ∀ y : Later wr, (Instr.loadAt 9 (.pointer (some ⟨b2, q2, none⟩))).run Tryz.prog y.1 = .ok (.string (strOf (takenP S [])[i]!.path)) y.1 := fun y => by
        have c := load_later c20 y
        go_simp
      have LB1 : ∀ y : Later wr, (Instr.loadAt 24 (.pointer (some ⟨b1, q1 + 1, none⟩))).run Tryz.prog y.1 = .ok (.slice aa1 (takenP S [])[i]!.bytes.length cc1) y.1 := fun y => by
        have c := load_later c11 y
        go_simp
      have LB2 : ∀ y : Later wr, (Instr.loadAt 24 (.pointer (some ⟨b2, q2 + 1, none⟩))).run Tryz.prog y.1 = .ok (.slice aa2 (takenP S [])[i]!.bytes.length cc2) y.1 := fun y => by
        have c := load_later c21 y
        go_simp
      change ∀ y : Later wr, (convert 24 9 (.slice aa1 (takenP S [])[i]!.bytes.length cc1)).run Tryz.prog y.1 = .ok (.string (strOf (takenP S [])[i]!.bytes)) y.1 at ST1
      change ∀ y : Later wr, (convert 24 9 (.slice aa2 (takenP S [])[i]!.bytes.length cc2)).run Tryz.prog y.1 = .ok (.string (strOf (takenP S [])[i]!.bytes)) y.1 at ST2
      clear c10 c11 c20 c21 hsl1 hsl2 hil
      have X1 : ((strOf (takenP S [])[i]!.path).toList != (strOf (takenP S [])[i]!.path).toList) = false := by simp
      have X2 : ((strOf (takenP S [])[i]!.bytes).toList != (strOf (takenP S [])[i]!.bytes).toList) = false := by simp
      generalize strOf (takenP S [])[i]!.path = PP at *
      generalize strOf (takenP S [])[i]!.bytes = BB at *
      generalize (takenP S [])[i]!.bytes.length = bl at *
      go_upto_region 16 with (fail)
      refine wp_region_mg [(0, 0), (1, 0), (2, 0), (3, 0), (4, 0), (5, 0), (6, 0), (7, 0), (8, 0), (9, 0), (10, 0), (11, 0), (12, 0), (13, 0), (14, 0), (15, 0), (16, 0), (17, 0), (18, 0), (19, 0), (20, 0), (21, 0), (22, 0), (23, 0), (24, 0), (25, 0)] (by kernel_rfl) (by kernel_rfl) ?_
      iterate 26 (first | (refine mg_load rfl rfl _ _ rfl _ _ rfl LP1 ?_) | (refine mg_load rfl rfl _ _ rfl _ _ rfl LP2 ?_) | (refine mg_load rfl rfl _ _ rfl _ _ rfl LB1 ?_) | (refine mg_load rfl rfl _ _ rfl _ _ rfl LB2 ?_) | (refine mg_convert rfl rfl _ _ _ rfl _ _ rfl ST1 ?_) | (refine mg_convert rfl rfl _ _ _ rfl _ _ rfl ST2 ?_) | (refine mg_calm rfl (fun K hK => ?_); go_simp; (refine hK _ ?_; clear hK K)))
      refine mg_nil fun w9 hw9 => ?_
      have HR9 := Lib.hid (HR.out.trans (Below.mono hw9 HR.out.size))
      clear hw9 LP1 LP2 LB1 LB2 ST1 ST2
      go_wp2_with fail
      go_roundw
      case rel => exact ⟨i + 1, by go_num, by omega, HR9.out⟩
      case measure => simp [intOf]; omega
    · obtain rfl : i = N := by omega
      have t1 : decide ((i : Int) < (i : Int)) = false := decide_eq_false (by omega)
      have t1' : decide (i < i) = false := decide_eq_false (by omega)
      have CR := refRightN_any c (by have := HC.out.1; omega) wr
      rw [← HE.out.1, ← HC.out.2] at CR
      have l9 := H8.out.1.below HR.out
      have CK := known_any wr (l9.max HM.out.1 HM.out.2).is
      have H9 := Lib.hid l9
      clear l9
      cases r
      · obtain rfl : E = 1 := HE.out.2.1
        go_wp2_with fail
        refine CR.mono ?_
        clear CR
        rintro e w10 ⟨rfl, rfl⟩
        go_wp2_with fail
        refine CK.mono ?_
        clear CK
        rintro e w11 ⟨rfl, hb11⟩
        have H11 := Lib.hid (H1.out.1.trans ((H9.out.below hb11).frame.mono H1.out.1.size))
        clear hb11
        go_wp2_with fail
        go_ret
        exact ⟨rfl, H11.out⟩
      · obtain rfl : E = 4 := HE.out.2.1
        go_wp2_with fail
        refine CR.mono ?_
        clear CR
        rintro e w10 ⟨rfl, rfl⟩
        go_wp2_with fail
        refine CK.mono ?_
        clear CK
        rintro e w11 ⟨rfl, hb11⟩
        have H11 := Lib.hid (H1.out.1.trans ((H9.out.below hb11).frame.mono H1.out.1.size))
        clear hb11
        go_wp2_with fail
        go_ret
        exact ⟨rfl, H11.out⟩
end Go.Proofs.YtponfkfeflnilaaGreatDoor
