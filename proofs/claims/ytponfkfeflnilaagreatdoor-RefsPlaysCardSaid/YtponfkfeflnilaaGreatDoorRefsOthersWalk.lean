/-
  RefsOthers: the walk.
-/
import Derived.Test.YtponfkfeflnilaaGreatDoorRefsErrorsWalk
import Derived.Test.YtponfkfeflnilaaGreatDoorMaDsu
import Derived.Test.YtponfkfeflnilaaGreatDoorMaHd
namespace Go.Proofs.YtponfkfeflnilaaGreatDoor
open Go.RowKit Go.Mix Go.WideMaps Go.Maps

/-- Refs that no store has. -/
structure RsO (own : Owns) (w : World) (a : Option Addr) (c : Nat) (l : List RefP) : Prop where
  at_ : RsAt encP 21 w a c l
  no : ∀ x, a = some x → own x.block = none ∧ x.block < w.heap.size
theorem RsO.below {own : Owns} {w w' : World} {a : Option Addr} {c : Nat} {l : List RefP} (h : RsO own w a c l) (g : Below w.heap.size w w') : RsO own w' a c l :=
  ⟨h.at_.below g, fun x hx => ⟨(h.no x hx).1, Nat.lt_of_lt_of_le (h.no x hx).2 g.size⟩⟩
theorem RsO.turn {own own' : Owns} {w w' : World} {a : Option Addr} {c : Nat} {l : List RefP} (h : RsO own w a c l) (g : Turn Any own own' w w') : RsO own' w' a c l :=
  ⟨h.at_.keepB fun y hy => (turn_block g (h.no y hy).1 (h.no y hy).2).1, fun x hx => ⟨(turn_block g (h.no x hx).1 (h.no x hx).2).2, Nat.lt_of_lt_of_le (h.no x hx).2 g.frame.size⟩⟩
theorem OwnR.rso {own : Owns} {w0 w : World} {t e : TypeId} (T : RecTy RefP encP 21 t e) {v : Value} {l : List RefP} (h : OwnR encP 21 e w0 w v l) (ho : ∀ k, w0.heap.size ≤ k → own k = none) : ∃ a c, v = .slice a l.length c ∧ RsO own w a c l := by
  obtain ⟨a, c, hv, hr, -⟩ := h.rs T
  refine ⟨a, c, hv, hr, fun x hx => ?_⟩
  have := h.block x.block (by rw [hv, hx]; rfl)
  exact ⟨ho _ this.1, this.2⟩
/-- A box that no store has. -/
structure BxO (own : Owns) (w : World) (X : Nat) (Z : Array Value) (t : TypeId) : Prop where
  box : w.heap[X]? = some (.cells Z t (0, 0))
  no : own X = none
theorem BxO.below {own : Owns} {w w' : World} {X : Nat} {Z : Array Value} {t : TypeId} (h : BxO own w X Z t) (g : Below w.heap.size w w') : BxO own w' X Z t := ⟨blockR_below h.box g, h.no⟩
theorem BxO.turn {own own' : Owns} {w w' : World} {X : Nat} {Z : Array Value} {t : TypeId} (h : BxO own w X Z t) (g : Turn Any own own' w w') : BxO own' w' X Z t :=
  have hb := turn_block g h.no (lt_of_block h.box)
  ⟨hb.1.trans h.box, hb.2⟩

set_option maxRecDepth 100000 in
set_option maxHeartbeats 64000000 in
theorem refsOthers_walk (a0 : Option Addr) (len0 cap0 : Nat) (g0 : List FlP) (a1 : ByteArray) (l2 : List UInt8) (a3 : Bool) (w : World) (hl0 : g0.length = len0) (w0 : FlsAt w a0 cap0 g0) (x0 : ∀ p ∈ g0, p.path.length ≤ 9223372036854775807) (w1 : a1.size ≤ 9223372036854775807) (w2 : l2.length = 20) (hm : MaxIs w) :
    Calls Tryz.prog 7 #[.slice a0 len0 cap0, .string a1, .agg (bcells l2).toArray, .bool a3] w fun e w' => e = .returned (.bool true) ∧ Below w.heap.size w w' := by
  subst hl0
  obtain ⟨b, hb⟩ : ∃ b, b = a1.data.toList := ⟨_, rfl⟩
  have ha : a1 = strOf b := by rw [hb]; simp [strOf]
  subst ha
  obtain ⟨id, hid⟩ : ∃ id : Id20, id = ⟨l2, w2⟩ := ⟨_, rfl⟩
  have hia : (bcells l2).toArray = idA id := by rw [hid]; rfl
  rw [hia]
  obtain ⟨k, hk⟩ : ∃ k, k = min b.length 250 := ⟨_, rfl⟩
  obtain ⟨nb, hnb⟩ : ∃ n, n = b.length := ⟨_, rfl⟩
  have hbs : (strOf b).size = nb := by rw [strOf_size, hnb]
  have MR := min_runI (nb : Int) 250 (k : Int) (by omega)
  have SL := fun W => str_to Tryz.underlying9 b (i := k) (by omega) W
  obtain ⟨c, hc⟩ : ∃ c, c = b.take k := ⟨_, rfl⟩
  have hcl : c.length ≤ 250 := by rw [hc, List.length_take]; omega
  rw [← hc] at SL
  obtain ⟨CS, hCS⟩ : ∃ C, C = strOf c := ⟨_, rfl⟩
  rw [← hCS] at SL
  have HC := Lib.hid (And.intro hcl hCS)
  obtain ⟨IA, hIA⟩ : ∃ A, A = idA id := ⟨_, rfl⟩
  rw [← hIA]
  have HI := Lib.hid hIA
  obtain ⟨Z0, hZ0⟩ : ∃ Z, Z = idA id0 := ⟨_, rfl⟩
  have z : ∀ w, (zeroValue 42).run Tryz.prog w = .ok (.agg Z0) w := fun w => by rw [hZ0]; kernel_rfl
  have HZ := Lib.hid hZ0
  have hbox : (w.alloc (.cells IA 42)).heap[w.heap.size]? = some (.cells IA 42 (0, 0)) := heap_alloc_last _ _ _ rfl
  have g1 : Below w.heap.size w (w.alloc (.cells IA 42)) := (Below.refl _ _).alloc (Nat.le_refl _) _
  obtain ⟨w1', hw1⟩ : ∃ w1, w1 = w.alloc (.cells IA 42) := ⟨_, rfl⟩
  rw [← hw1] at g1 hbox
  have hsz1 : w.heap.size < w1'.heap.size := by rw [hw1]; simp
  have HM := Lib.hid (And.intro (hm.below g1) (hm.below g1).lt)
  have CLAID := laid_any (w0.below g1) x0
  have H1 := Lib.hid (And.intro g1 (And.intro hbox hsz1))
  have HW := Lib.hid hw1
  obtain ⟨n0, hn0⟩ : ∃ n, n = g0.length := ⟨_, rfl⟩
  rw [← hn0] at CLAID ⊢
  generalize strOf b = BS at *
  clear hia hid hb hc hcl hCS hIA hk hnb w0 x0 w1 w2 hm g1 hbox hsz1 hn0 hZ0
  obtain ⟨B, hB⟩ : ∃ B, B = w.heap.size := ⟨_, rfl⟩
  go_enter Tryz.func7, Tryz.ntmps7
  go_upto_region 1 with (fail)
  rw [← HW.out, ← hB]
  have HBB := Lib.hid hB
  clear hw1 HW hB
  go_wp2_with fail
  refine CLAID.mono ?_
  clear CLAID
  rintro e w2 ⟨p, own, rfl, l2'⟩
  have hS := laid_ok g0
  obtain ⟨S, hSe⟩ : ∃ S, S = laidS g0 := ⟨_, rfl⟩
  rw [← hSe] at l2' hS
  have HS := Lib.hid (And.intro hS (hS.refs (by decide) [] (by decide)))
  have CL := List_any l2'.at_ (front := []) HS.out.2 (l2'.max HM.out.1 HM.out.2).is (by decide)
  change Calls _ _ #[ptr p, .string ⟨#[]⟩] w2 (fun e w' => ∃ v, e = .returned (.tuple #[v, .int .i64 (errO (allK S []))]) ∧ OwnR encP 21 88 w2 w' v ((allK S []).getD [])) at CL
  have H2 := Lib.hid l2'
  clear l2' hS hSe
  go_wp2_with (first | (refine wpList_slice_at rfl _ _ _ _ _ rfl _ _ _ _ _ rfl rfl rfl rfl (SL _) ?_))
  refine CL.mono ?_
  clear CL SL MR
  rintro e w4 ⟨v4, rfl, ho⟩
  obtain ⟨ax, cx, rfl, rx⟩ := ho.rso (own := own) tyP (fun k hk => H2.out.not_new hk)
  have l4 := H2.out.below ho.frame
  obtain ⟨E, hE⟩ : ∃ E, E = errO (allK S []) := ⟨_, rfl⟩
  obtain ⟨LL, hLL⟩ : ∃ L, L = (allK S []).getD [] := ⟨_, rfl⟩
  rw [← hLL] at rx
  rw [← hE, ← hLL]
  have HL := Lib.hid (And.intro hE hLL)
  have CH := Head_any l4.at_ (front := []) HS.out.1.ok (by decide) (l4.max HM.out.1 HM.out.2).is (by decide)
  change Calls _ _ #[ptr p, .string ⟨#[]⟩] w4 (fun e w' => e = .returned (.tuple #[.string (strOf (headK S.files []).1), .agg (idA (headK S.files []).2.1), .int .i64 (headK S.files []).2.2]) ∧ Below w4.heap.size w4 w') at CH
  obtain ⟨hs, hhs⟩ : ∃ x, x = strOf (headK S.files []).1 := ⟨_, rfl⟩
  obtain ⟨hi, hhi⟩ : ∃ x, x = (headK S.files []).2.1 := ⟨_, rfl⟩
  obtain ⟨hg, hhg⟩ : ∃ x, x = (headK S.files []).2.2 := ⟨_, rfl⟩
  rw [← hhs, ← hhi, ← hhg] at CH
  have HHD := Lib.hid (And.intro hhs (And.intro hhi hhg))
  obtain ⟨IH, hIH⟩ : ∃ I, I = idA hi := ⟨_, rfl⟩
  rw [← hIH] at CH
  have HIH := Lib.hid hIH
  obtain ⟨nl, hnl⟩ : ∃ n, n = LL.length := ⟨_, rfl⟩
  rw [← hnl]
  have HNL := Lib.hid hnl
  have H4 := Lib.hid (And.intro l4 rx)
  clear hhs hhi hhg hIH ho rx l4 hE hLL hnl
  go_wp2_with fail
  refine CH.mono ?_
  clear CH
  rintro e w8 ⟨rfl, hb8⟩
  have hzb : (w8.alloc (.cells Z0 42)).heap[w8.heap.size]? = some (.cells Z0 42 (0, 0)) := heap_alloc_last _ _ _ rfl
  have zs : Z0.size = IH.size := by rw [HZ.out, HIH.out, idA_size, idA_size]
  have zi : (Tryz.prog.info? 42).map (·.size) = some IH.size := by rw [HIH.out, idA_size]; kernel_rfl
  have z1 : IH.all (·.oneCell') = true := by rw [HIH.out]; exact idA_one _
  have hbx : ((w8.alloc (.cells Z0 42)).setRow w8.heap.size IH).heap[w8.heap.size]? = some (.cells IH 42 (0, 0)) := setRow_heap _ _ _ _ _ _ hzb
  have gA : Below w8.heap.size w8 ((w8.alloc (.cells Z0 42)).setRow w8.heap.size IH) := below_setRow ((Below.refl _ _).alloc (Nat.le_refl _) _) (Nat.le_refl _) _
  have g := hb8.trans (gA.mono hb8.size)
  have hno8 : own w8.heap.size = none := H4.out.1.not_new hb8.size
  have l9 := H4.out.1.below g
  have H9 := Lib.hid (And.intro l9 (And.intro (H4.out.2.below g) (show BxO own _ w8.heap.size IH 42 from ⟨hbx, hno8⟩)))
  clear hb8 gA g hbx l9 hno8
  go_upto_region 5 with (refine wpList_store_row rfl 42 _ _ rfl w8.heap.size IH rfl rfl 42 Z0 hzb zi zs z1 ?_)
  clear hzb zi zs z1
  obtain ⟨X13, hX13⟩ : ∃ X, X = w8.heap.size := ⟨_, rfl⟩
  rw [← hX13] at H9 ⊢
  clear hX13
  generalize (w8.alloc (.cells Z0 42)).setRow X13 IH = w9 at *
  cases hA : allK S [] with
  | none =>
    obtain rfl : E = 4 := by rw [HL.out.1, hA]; rfl
    have CK := known_any w9 (H9.out.1.max HM.out.1 HM.out.2).is
    clear hA
    go_wp2_with fail
    refine CK.mono ?_
    clear CK
    rintro e w10 ⟨rfl, hb10⟩
    have H10 := Lib.hid (H1.out.1.trans ((H9.out.1.below hb10).frame.mono H1.out.1.size))
    clear hb10
    go_wp2_with fail
    go_ret
    exact ⟨rfl, H10.out⟩
  | some L0 =>
  obtain rfl : E = 0 := by rw [HL.out.1, hA]; rfl
  obtain rfl : L0 = LL := by rw [HL.out.2, hA]; rfl
  have hshort := all_short HS.out.2 hA
  have hid9 := blockR_below H1.out.2.1 H9.out.1.frame
  rw [HI.out] at hid9
  have LI := load_id arrG (by kernel_rfl) id w.heap.size 0 w9 (idBox hid9)
  rw [← HI.out, ← HBB.out] at LI
  have CS1 := Set_any H9.out.1.at_ (front := []) HS.out.2 (H9.out.1.max HM.out.1 HM.out.2).is (by decide) c (by have := HC.out.1; omega) id
  rw [← HI.out, ← HC.out.2] at CS1
  change Calls _ _ #[ptr p, .string ⟨#[]⟩, .string CS, .agg IA] w9 (fun e w' => Left own w9 p (setK S [] c id) e w') at CS1
  have hsp := set_spec HS.out.1.ok hA c id
  have hok1 := set_ok1 HS.out.1.ok [] c id
  have hln1 := set_len1 S [] c id
  obtain ⟨r1, hr1⟩ : ∃ r, r = setK S [] c id := ⟨_, rfl⟩
  rw [← hr1] at CS1 hsp hok1 hln1
  have hfl1 : r1.1.files.length ≤ 16 := by have := HS.out.1.few; omega
  have HS1 := Lib.hid (And.intro hA (And.intro hsp (And.intro hok1 (And.intro hfl1 hshort))))
  clear hr1 hsp hok1 hln1 hid9 hA hfl1 hshort
  go_wp2_with (refine wpList_load_at rfl _ _ rfl _ _ rfl LI ?_)
  refine CS1.mono ?_
  clear CS1 LI
  rintro e w10 ⟨rfl, own1, hst1, ht1⟩
  have l10 := H9.out.1.turn hst1 ht1
  have H10 := Lib.hid (And.intro l10 (And.intro (H9.out.2.1.turn ht1) (H9.out.2.2.turn ht1)))
  clear hst1 ht1 l10
  have hsL : SortedP L0 := HS1.out.2.2.2.2.1
  have HS9 := Lib.hid HS1.out.2.2.2.2
  cases a3
  · obtain ⟨L2, hA2, hdl, hgl⟩ : ∃ L2, allK r1.1 [] = some L2 ∧ delP L2 c = delP L0 c ∧ (r1.2 ≠ 0 → L2 = L0) := by
      rcases HS1.out.2.1.2 with ⟨e0, h⟩ | ⟨e0, h⟩
      · exact ⟨_, h, del_put hsL c id, fun h2 => absurd e0 h2⟩
      · exact ⟨_, h, rfl, fun _ => rfl⟩
    have hh2 : headK r1.1.files [] = headK S.files [] := HS1.out.2.1.1
    have HT := Lib.hid (And.intro (show OkS 13000 r1.1 from HS1.out.2.2.1.mono (by decide)) (And.intro (show r1.1.files.length ≤ 50 by have := HS1.out.2.2.2.1; omega) (And.intro hA2 (And.intro hdl (And.intro hgl hh2)))))
    have HX := Lib.hid H10.out
    obtain ⟨S2, hS2⟩ : ∃ S2, S2 = r1.1 := ⟨_, rfl⟩
    obtain ⟨gg, hgg⟩ : ∃ g, g = r1.2 := ⟨_, rfl⟩
    rw [← hS2] at HX
    rw [← hS2, ← hgg] at HT
    rw [← hgg]
    clear hA2 hdl hgl hh2 hS2 hgg HS1 H10
    generalize w10 = wt at *
    generalize own1 = own2 at *
    have hri2 : RefsIn 13000 S2 [] := refsIn_of HT.out.1 (by decide) (by have := HT.out.2.1; omega) _ (by decide)
    have CL := List_any HX.out.1.at_ (front := []) hri2 (HX.out.1.max HM.out.1 HM.out.2).is (by decide)
    change Calls _ _ #[ptr p, .string ⟨#[]⟩] wt (fun e w' => ∃ v, e = .returned (.tuple #[v, .int .i64 (errO (allK S2 []))]) ∧ OwnR encP 21 88 wt w' v ((allK S2 []).getD [])) at CL
    rw [HT.out.2.2.1] at CL
    change Calls _ _ #[ptr p, .string ⟨#[]⟩] wt (fun e w' => ∃ v, e = .returned (.tuple #[v, .int .i64 0]) ∧ OwnR encP 21 88 wt w' v L2) at CL
    have HR2 := Lib.hid (And.intro hri2 (all_short hri2 HT.out.2.2.1))
    clear hri2
    go_wp2_with fail
    refine CL.mono ?_
    clear CL
    rintro e wu ⟨vu, rfl, ho⟩
    obtain ⟨an, cn, rfl, rn, -⟩ := ho.rs tyP
    have HU := Lib.hid (And.intro (HX.out.1.below ho.frame) (And.intro (HX.out.2.1.below ho.frame) (And.intro (HX.out.2.2.below ho.frame) rn)))
    have CH := Head_any HU.out.1.at_ (front := []) HT.out.1 (by decide) (HU.out.1.max HM.out.1 HM.out.2).is (by decide)
    change Calls _ _ #[ptr p, .string ⟨#[]⟩] wu (fun e w' => e = .returned (.tuple #[.string (strOf (headK S2.files []).1), .agg (idA (headK S2.files []).2.1), .int .i64 (headK S2.files []).2.2]) ∧ Below wu.heap.size wu w') at CH
    rw [HT.out.2.2.2.2.2, ← HHD.out.1, ← HHD.out.2.1, ← HHD.out.2.2, ← HIH.out] at CH
    obtain ⟨nl2, hnl2⟩ : ∃ n, n = L2.length := ⟨_, rfl⟩
    rw [← hnl2]
    have HNL2 := Lib.hid hnl2
    clear ho rn hnl2
    go_wp2_with fail
    refine CH.mono ?_
    clear CH
    rintro e wv ⟨rfl, hbv⟩
    have hzb : (wv.alloc (.cells Z0 42)).heap[wv.heap.size]? = some (.cells Z0 42 (0, 0)) := heap_alloc_last _ _ _ rfl
    have zs : Z0.size = IH.size := by rw [HZ.out, HIH.out, idA_size, idA_size]
    have zi : (Tryz.prog.info? 42).map (·.size) = some IH.size := by rw [HIH.out, idA_size]; kernel_rfl
    have z1 : IH.all (·.oneCell') = true := by rw [HIH.out]; exact idA_one _
    have hbx : ((wv.alloc (.cells Z0 42)).setRow wv.heap.size IH).heap[wv.heap.size]? = some (.cells IH 42 (0, 0)) := setRow_heap _ _ _ _ _ _ hzb
    have gA : Below wv.heap.size wv ((wv.alloc (.cells Z0 42)).setRow wv.heap.size IH) := below_setRow ((Below.refl _ _).alloc (Nat.le_refl _) _) (Nat.le_refl _) _
    have g := hbv.trans (gA.mono hbv.size)
    have lx := HU.out.1.below g
    have HV := Lib.hid (And.intro lx (And.intro (HU.out.2.1.below g) (And.intro (HU.out.2.2.1.below g) (And.intro (HU.out.2.2.2.below g) hbx))))
    clear hbv gA g hbx lx
    go_upto_region 12 with (refine wpList_store_row rfl 42 _ _ rfl wv.heap.size IH rfl rfl 42 Z0 hzb zi zs z1 ?_)
    clear hzb zi zs z1
    obtain ⟨X19, hX19⟩ : ∃ X, X = wv.heap.size := ⟨_, rfl⟩
    rw [← hX19] at HV ⊢
    clear hX19
    generalize (wv.alloc (.cells Z0 42)).setRow X19 IH = wx at *
    have LA := load_id arrG (by kernel_rfl) hi X13 0 wx (idBox (by rw [← HIH.out]; exact HV.out.2.2.1.box))
    have LBX := load_id arrG (by kernel_rfl) hi X19 0 wx (idBox (by rw [← HIH.out]; exact HV.out.2.2.2.2))
    rw [← HIH.out] at LA LBX
    have EE := fun W => eq_id_run arrG hi hi W
    have EG := fun op x y w => run_eqGuard_agg (P := Tryz.prog) w op 42 x y (idA hi) (idA hi) (by kernel_rfl)
    simp only [decide_true] at EE
    rw [← HIH.out] at EE EG
    have XS1 : (hs.toList != hs.toList) = false := by simp
    have XS3 : (hg != hg) = false := by simp
    have CA := as_any HV.out.2.1.at_ (by have := HS9.out.2.1; omega)
    rw [← HNL.out] at CA
    go_wp2_with (first | (refine wpList_load_g rfl _ _ rfl _ _ rfl LA ?_) | (refine wpList_load_g rfl _ _ rfl _ _ rfl LBX ?_))
    refine CA.mono ?_
    clear CA LA LBX EE EG XS1 XS3
    rintro e y1 ⟨v1, rfl, ho⟩
    obtain ⟨aa, ca, rfl, ra, -⟩ := ho.rs tyD
    have HY1 := Lib.hid (And.intro (HV.out.1.below ho.frame) (And.intro (HV.out.2.1.below ho.frame) (HV.out.2.2.2.1.below ho.frame)))
    have CLs := refLess_any (name := c) ra (by have := HS9.out.2.1; omega)
    rw [← HNL.out, ← HC.out.2] at CLs
    rw [← HNL.out]
    clear ho ra
    go_wp2_with fail
    refine CLs.mono ?_
    clear CLs
    rintro e y2 ⟨v2, rfl, ho⟩
    rw [filter_del] at ho
    obtain ⟨ab, cb, rfl, rb, -⟩ := ho.rs tyD
    have HY2 := Lib.hid (And.intro (HY1.out.1.below ho.frame) (And.intro (HY1.out.2.1.below ho.frame) (And.intro (HY1.out.2.2.below ho.frame) rb)))
    have CA := as_any HY2.out.2.2.1 (by have := HR2.out.2.2.1; omega)
    rw [← HNL2.out] at CA
    clear ho rb
    go_wp2_with fail
    refine CA.mono ?_
    clear CA
    rintro e y3 ⟨v3, rfl, ho⟩
    obtain ⟨ad, cd, rfl, rd, -⟩ := ho.rs tyD
    have HY3 := Lib.hid (And.intro (HY2.out.1.below ho.frame) (And.intro (HY2.out.2.1.below ho.frame) (And.intro (HY2.out.2.2.1.below ho.frame) (HY2.out.2.2.2.below ho.frame))))
    have CLs := refLess_any (name := c) rd (by have := HR2.out.2.2.1; omega)
    rw [← HNL2.out, ← HC.out.2] at CLs
    rw [← HNL2.out]
    clear ho rd
    go_wp2_with fail
    refine CLs.mono ?_
    clear CLs
    rintro e y4 ⟨v4, rfl, ho⟩
    rw [filter_del, HT.out.2.2.2.1] at ho
    obtain ⟨ae, ce, rfl, re, -⟩ := ho.rs tyD
    have HY4 := Lib.hid (And.intro (HY3.out.1.below ho.frame) (And.intro (HY3.out.2.1.below ho.frame) (And.intro (HY3.out.2.2.1.below ho.frame) (And.intro (HY3.out.2.2.2.below ho.frame) re))))
    obtain ⟨nd, hnd⟩ : ∃ n, n = (delP L0 c).length := ⟨_, rfl⟩
    rw [← hnd]
    have HND := Lib.hid hnd
    clear ho re hnd
    have CLo := list_at HY4.out.1.at_ HT.out.1 otherT
    change Calls _ _ #[ptr p, .string ⟨#[111, 116, 104, 101, 114]⟩] y4 _ at CLo
    obtain ⟨LO, hLO⟩ : ∃ L, L = listS S2 otherT := ⟨_, rfl⟩
    obtain ⟨no, hno⟩ : ∃ n, n = LO.length := ⟨_, rfl⟩
    rw [← hLO, ← hno] at CLo
    have HLO := Lib.hid (And.intro hLO hno)
    clear hLO hno
    by_cases hg0 : gg = 0
    · subst hg0
      have HB := Lib.hid (And.intro HY4.out.1 (And.intro HY4.out.2.2.2.1 HY4.out.2.2.2.2))
      go_wp2_with fail
      refine CLo.mono ?_
      clear CLo
      rintro e u1 ⟨al, cl, rfl, -, hbu⟩
      have HU1 := Lib.hid (And.intro (HB.out.1.below hbu) (And.intro (HB.out.2.1.below hbu) (HB.out.2.2.below hbu)))
      clear hbu
      have hWf : ∀ q ∈ delP L0 c, WfP q := fun q hq => by have := (HS9.out.2.2 q (List.mem_filter.1 hq).1).2; exact Nat.le_trans this (by decide)
      by_cases hn0 : no = 0
      · have hnone := other_none (S := S2) (by rw [← HLO.out.1]; exact List.eq_nil_of_length_eq_zero (by rw [← HLO.out.2]; exact hn0))
        have tg : decide ((0 : Int) < (no : Int)) = false := decide_eq_false (by omega)
        have tg' : decide (0 < no) = false := decide_eq_false (by omega)
        have CG := Get_any HU1.out.1.at_ (front := otherT) (refsIn_of HT.out.1 (by decide) (by have := HT.out.2.1; omega) _ (by decide)) (HU1.out.1.max HM.out.1 HM.out.2).is (by decide) refsxT (by decide)
        rw [hnone, ← HZ.out] at CG
        change Calls _ _ #[ptr p, .string ⟨#[111, 116, 104, 101, 114]⟩, .string ⟨#[114, 101, 102, 115, 47, 120]⟩] u1 (fun e w' => e = .returned (.tuple #[.agg Z0, .int .i64 6]) ∧ Below u1.heap.size u1 w') at CG
        clear hnone
        go_wp2_with fail
        refine CG.mono ?_
        clear CG
        rintro e u2 ⟨rfl, hbu2⟩
        have hzb : (u2.alloc (.cells Z0 42)).heap[u2.heap.size]? = some (.cells Z0 42 (0, 0)) := heap_alloc_last _ _ _ rfl
        have zs : Z0.size = Z0.size := rfl
        have zi : (Tryz.prog.info? 42).map (·.size) = some Z0.size := by rw [HZ.out, idA_size]; kernel_rfl
        have z1 : Z0.all (·.oneCell') = true := by rw [HZ.out]; exact idA_one _
        have hbx : ((u2.alloc (.cells Z0 42)).setRow u2.heap.size Z0).heap[u2.heap.size]? = some (.cells Z0 42 (0, 0)) := setRow_heap _ _ _ _ _ _ hzb
        have gA : Below u2.heap.size u2 ((u2.alloc (.cells Z0 42)).setRow u2.heap.size Z0) := below_setRow ((Below.refl _ _).alloc (Nat.le_refl _) _) (Nat.le_refl _) _
        have g := hbu2.trans (gA.mono hbu2.size)
        have lx := HU1.out.1.below g
        have HU2 := Lib.hid (And.intro lx (And.intro (HU1.out.2.1.below g) (HU1.out.2.2.below g)))
        clear hbu2 gA g hbx lx
        have CK := known_any _ (HU2.out.1.max HM.out.1 HM.out.2).is
        go_wp2_with (refine wpList_store_row rfl 42 _ _ rfl u2.heap.size Z0 rfl rfl 42 Z0 hzb zi rfl z1 ?_)
        refine CK.mono ?_
        clear CK hzb zi z1
        rintro e u4 ⟨rfl, hbu4⟩
        have HU4 := Lib.hid (And.intro (HU2.out.1.below hbu4) (And.intro (HU2.out.2.1.below hbu4) (HU2.out.2.2.below hbu4)))
        clear hbu4
        have CSM := same_any HU4.out.2.1 HU4.out.2.2 hWf hWf
        rw [decide_eq_true rfl, ← HND.out] at CSM
        go_wp2_with fail
        refine CSM.mono ?_
        clear CSM
        rintro e u5 ⟨rfl, hbu5⟩
        have HU5 := Lib.hid (H1.out.1.trans ((HU4.out.1.below hbu5).frame.mono H1.out.1.size))
        clear hbu5
        go_wp2_with fail
        go_ret
        exact ⟨rfl, HU5.out⟩
      · have tg : decide ((0 : Int) < (no : Int)) = true := decide_eq_true (by omega)
        have tg' : decide (0 < no) = true := decide_eq_true (by omega)
        have CK := known_any u1 (HU1.out.1.max HM.out.1 HM.out.2).is
        clear hn0
        go_wp2_with fail
        refine CK.mono ?_
        clear CK
        rintro e u4 ⟨rfl, hbu4⟩
        have HU4 := Lib.hid (And.intro (HU1.out.1.below hbu4) (And.intro (HU1.out.2.1.below hbu4) (HU1.out.2.2.below hbu4)))
        clear hbu4
        have CSM := same_any HU4.out.2.1 HU4.out.2.2 hWf hWf
        rw [decide_eq_true rfl, ← HND.out] at CSM
        go_wp2_with fail
        refine CSM.mono ?_
        clear CSM
        rintro e u5 ⟨rfl, hbu5⟩
        have HU5 := Lib.hid (H1.out.1.trans ((HU4.out.1.below hbu5).frame.mono H1.out.1.size))
        clear hbu5
        go_wp2_with fail
        go_ret
        exact ⟨rfl, HU5.out⟩
    · have tg0 : (gg != 0) = true := by rw [bne_iff_ne]; exact hg0
      have hLe : L2 = L0 := HT.out.2.2.2.2.1 hg0
      subst hLe
      have CA := as_any HY4.out.2.1.at_ (by have := HS9.out.2.1; omega)
      rw [← HNL.out] at CA
      clear hg0
      go_wp2_with fail
      refine CA.mono ?_
      clear CA
      rintro e y5 ⟨v5, rfl, ho⟩
      obtain ⟨af, cf, rfl, rf, -⟩ := ho.rs tyD
      have HY5 := Lib.hid (And.intro (HY4.out.1.below ho.frame) (And.intro (HY4.out.2.2.1.below ho.frame) (And.intro (HY4.out.2.2.2.1.below ho.frame) (And.intro (HY4.out.2.2.2.2.below ho.frame) rf))))
      have CA := as_any HY5.out.2.1 (by have := HS9.out.2.1; omega)
      rw [← HNL2.out] at CA
      rw [← HNL.out]
      clear ho rf
      go_wp2_with fail
      refine CA.mono ?_
      clear CA
      rintro e y6 ⟨v6, rfl, ho⟩
      obtain ⟨ah, ch, rfl, rh, -⟩ := ho.rs tyD
      have HY6 := Lib.hid (And.intro (HY5.out.1.below ho.frame) (And.intro (HY5.out.2.2.1.below ho.frame) (And.intro (HY5.out.2.2.2.1.below ho.frame) (And.intro (HY5.out.2.2.2.2.below ho.frame) rh))))
      have hWf0 : ∀ q ∈ L2, WfP q := fun q hq => by have := (HS9.out.2.2 q hq).2; exact Nat.le_trans this (by decide)
      have CSM := same_any HY6.out.2.2.2.1 HY6.out.2.2.2.2 hWf0 hWf0
      rw [decide_eq_true rfl, ← HNL.out] at CSM
      rw [← HNL.out]
      clear ho rh hWf0
      go_wp2_with fail
      refine CSM.mono ?_
      clear CSM
      rintro e y7 ⟨rfl, hb7⟩
      have HB := Lib.hid (And.intro (HY6.out.1.below hb7) (And.intro (HY6.out.2.1.below hb7) (HY6.out.2.2.1.below hb7)))
      have CLo := list_at HB.out.1.at_ HT.out.1 otherT
      change Calls _ _ #[ptr p, .string ⟨#[111, 116, 104, 101, 114]⟩] y7 _ at CLo
      rw [← HLO.out.1, ← HLO.out.2] at CLo
      clear hb7
      go_wp2_with fail
      refine CLo.mono ?_
      clear CLo
      rintro e u1 ⟨al, cl, rfl, -, hbu⟩
      have HU1 := Lib.hid (And.intro (HB.out.1.below hbu) (And.intro (HB.out.2.1.below hbu) (HB.out.2.2.below hbu)))
      clear hbu
      have hWf : ∀ q ∈ delP L2 c, WfP q := fun q hq => by have := (HS9.out.2.2 q (List.mem_filter.1 hq).1).2; exact Nat.le_trans this (by decide)
      by_cases hn0 : no = 0
      · have hnone := other_none (S := S2) (by rw [← HLO.out.1]; exact List.eq_nil_of_length_eq_zero (by rw [← HLO.out.2]; exact hn0))
        have tg : decide ((0 : Int) < (no : Int)) = false := decide_eq_false (by omega)
        have tg' : decide (0 < no) = false := decide_eq_false (by omega)
        have CG := Get_any HU1.out.1.at_ (front := otherT) (refsIn_of HT.out.1 (by decide) (by have := HT.out.2.1; omega) _ (by decide)) (HU1.out.1.max HM.out.1 HM.out.2).is (by decide) refsxT (by decide)
        rw [hnone, ← HZ.out] at CG
        change Calls _ _ #[ptr p, .string ⟨#[111, 116, 104, 101, 114]⟩, .string ⟨#[114, 101, 102, 115, 47, 120]⟩] u1 (fun e w' => e = .returned (.tuple #[.agg Z0, .int .i64 6]) ∧ Below u1.heap.size u1 w') at CG
        clear hnone
        go_wp2_with fail
        refine CG.mono ?_
        clear CG
        rintro e u2 ⟨rfl, hbu2⟩
        have hzb : (u2.alloc (.cells Z0 42)).heap[u2.heap.size]? = some (.cells Z0 42 (0, 0)) := heap_alloc_last _ _ _ rfl
        have zs : Z0.size = Z0.size := rfl
        have zi : (Tryz.prog.info? 42).map (·.size) = some Z0.size := by rw [HZ.out, idA_size]; kernel_rfl
        have z1 : Z0.all (·.oneCell') = true := by rw [HZ.out]; exact idA_one _
        have hbx : ((u2.alloc (.cells Z0 42)).setRow u2.heap.size Z0).heap[u2.heap.size]? = some (.cells Z0 42 (0, 0)) := setRow_heap _ _ _ _ _ _ hzb
        have gA : Below u2.heap.size u2 ((u2.alloc (.cells Z0 42)).setRow u2.heap.size Z0) := below_setRow ((Below.refl _ _).alloc (Nat.le_refl _) _) (Nat.le_refl _) _
        have g := hbu2.trans (gA.mono hbu2.size)
        have lx := HU1.out.1.below g
        have HU2 := Lib.hid (And.intro lx (And.intro (HU1.out.2.1.below g) (HU1.out.2.2.below g)))
        clear hbu2 gA g hbx lx
        have CK := known_any _ (HU2.out.1.max HM.out.1 HM.out.2).is
        go_wp2_with (refine wpList_store_row rfl 42 _ _ rfl u2.heap.size Z0 rfl rfl 42 Z0 hzb zi rfl z1 ?_)
        refine CK.mono ?_
        clear CK hzb zi z1
        rintro e u4 ⟨rfl, hbu4⟩
        have HU4 := Lib.hid (And.intro (HU2.out.1.below hbu4) (And.intro (HU2.out.2.1.below hbu4) (HU2.out.2.2.below hbu4)))
        clear hbu4
        have CSM := same_any HU4.out.2.1 HU4.out.2.2 hWf hWf
        rw [decide_eq_true rfl, ← HND.out] at CSM
        go_wp2_with fail
        refine CSM.mono ?_
        clear CSM
        rintro e u5 ⟨rfl, hbu5⟩
        have HU5 := Lib.hid (H1.out.1.trans ((HU4.out.1.below hbu5).frame.mono H1.out.1.size))
        clear hbu5
        go_wp2_with fail
        go_ret
        exact ⟨rfl, HU5.out⟩
      · have tg : decide ((0 : Int) < (no : Int)) = true := decide_eq_true (by omega)
        have tg' : decide (0 < no) = true := decide_eq_true (by omega)
        have CK := known_any u1 (HU1.out.1.max HM.out.1 HM.out.2).is
        clear hn0
        go_wp2_with fail
        refine CK.mono ?_
        clear CK
        rintro e u4 ⟨rfl, hbu4⟩
        have HU4 := Lib.hid (And.intro (HU1.out.1.below hbu4) (And.intro (HU1.out.2.1.below hbu4) (HU1.out.2.2.below hbu4)))
        clear hbu4
        have CSM := same_any HU4.out.2.1 HU4.out.2.2 hWf hWf
        rw [decide_eq_true rfl, ← HND.out] at CSM
        go_wp2_with fail
        refine CSM.mono ?_
        clear CSM
        rintro e u5 ⟨rfl, hbu5⟩
        have HU5 := Lib.hid (H1.out.1.trans ((HU4.out.1.below hbu5).frame.mono H1.out.1.size))
        clear hbu5
        go_wp2_with fail
        go_ret
        exact ⟨rfl, HU5.out⟩
  · have hok1 := HS1.out.2.2.1
    obtain ⟨L1, hA1, hd1⟩ : ∃ L1, allK r1.1 [] = some L1 ∧ delP L1 c = delP L0 c := by
      rcases HS1.out.2.1.2 with ⟨e0, h⟩ | ⟨e0, h⟩
      · exact ⟨_, h, del_put hsL c id⟩
      · exact ⟨_, h, rfl⟩
    have CS2 := Drop_any H10.out.1.at_ (front := []) (refsIn_of hok1 (by decide) (by have := HS1.out.2.2.2.1; omega) _ (by decide)) (H10.out.1.max HM.out.1 HM.out.2) (by decide) c (by have := HC.out.1; omega)
    rw [← HC.out.2] at CS2
    change Calls _ _ #[ptr p, .string ⟨#[]⟩, .string CS] w10 (fun e w' => Left own1 w10 p (dropS r1.1 [] c) e w') at CS2
    have hdp := drop_spec hok1 hA1 c
    have hok2 := drop_ok1 hok1 [] c
    have hln2 := drop_len1 r1.1 [] c
    obtain ⟨r2, hr2⟩ : ∃ r, r = dropS r1.1 [] c := ⟨_, rfl⟩
    rw [← hr2] at CS2 hdp hok2 hln2
    have hfl2 : r2.1.files.length ≤ 50 := by have := HS1.out.2.2.2.1; omega
    have HS2 := Lib.hid (And.intro hA1 (And.intro hd1 (And.intro hdp (And.intro hok2 hfl2))))
    clear hr2 hdp hok2 hln2 hok1 hA1 hd1 hfl2
    go_wp2_with fail
    refine CS2.mono ?_
    clear CS2
    rintro e w11 ⟨rfl, own2', hst2, ht2⟩
    have l11 := H10.out.1.turn hst2 ht2
    have H11 := Lib.hid (And.intro l11 (And.intro (H10.out.2.1.turn ht2) (H10.out.2.2.turn ht2)))
    clear hst2 ht2 l11
    obtain ⟨L2, hA2, hdl⟩ : ∃ L2, allK r2.1 [] = some L2 ∧ delP L2 c = delP L0 c := by
      obtain ⟨-, L2, q1, q2, -⟩ := HS2.out.2.2.1
      refine ⟨L2, q1, ?_⟩
      rcases q2 with rfl | rfl
      · exact HS2.out.2.1
      · rw [del_del]; exact HS2.out.2.1
    have hh2 : headK r2.1.files [] = headK S.files [] := HS2.out.2.2.1.1.trans HS1.out.2.1.1
    have HT := Lib.hid (And.intro (show OkS 13000 r2.1 from HS2.out.2.2.2.1.mono (by decide)) (And.intro HS2.out.2.2.2.2 (And.intro hA2 (And.intro hdl (And.intro trivial hh2)))))
    have HX := Lib.hid H11.out
    obtain ⟨S2, hS2⟩ : ∃ S2, S2 = r2.1 := ⟨_, rfl⟩
    obtain ⟨gg, hgg⟩ : ∃ g, g = r2.2 := ⟨_, rfl⟩
    rw [← hS2] at HX
    rw [← hS2] at HT
    rw [← hgg]
    clear hA2 hdl hh2 hS2 hgg HS1 H10 HS2 H11
    generalize w11 = wt at *
    generalize own2' = own2 at *
    have hri2 : RefsIn 13000 S2 [] := refsIn_of HT.out.1 (by decide) (by have := HT.out.2.1; omega) _ (by decide)
    have CL := List_any HX.out.1.at_ (front := []) hri2 (HX.out.1.max HM.out.1 HM.out.2).is (by decide)
    change Calls _ _ #[ptr p, .string ⟨#[]⟩] wt (fun e w' => ∃ v, e = .returned (.tuple #[v, .int .i64 (errO (allK S2 []))]) ∧ OwnR encP 21 88 wt w' v ((allK S2 []).getD [])) at CL
    rw [HT.out.2.2.1] at CL
    change Calls _ _ #[ptr p, .string ⟨#[]⟩] wt (fun e w' => ∃ v, e = .returned (.tuple #[v, .int .i64 0]) ∧ OwnR encP 21 88 wt w' v L2) at CL
    have HR2 := Lib.hid (And.intro hri2 (all_short hri2 HT.out.2.2.1))
    clear hri2
    go_wp2_with fail
    refine CL.mono ?_
    clear CL
    rintro e wu ⟨vu, rfl, ho⟩
    obtain ⟨an, cn, rfl, rn, -⟩ := ho.rs tyP
    have HU := Lib.hid (And.intro (HX.out.1.below ho.frame) (And.intro (HX.out.2.1.below ho.frame) (And.intro (HX.out.2.2.below ho.frame) rn)))
    have CH := Head_any HU.out.1.at_ (front := []) HT.out.1 (by decide) (HU.out.1.max HM.out.1 HM.out.2).is (by decide)
    change Calls _ _ #[ptr p, .string ⟨#[]⟩] wu (fun e w' => e = .returned (.tuple #[.string (strOf (headK S2.files []).1), .agg (idA (headK S2.files []).2.1), .int .i64 (headK S2.files []).2.2]) ∧ Below wu.heap.size wu w') at CH
    rw [HT.out.2.2.2.2.2, ← HHD.out.1, ← HHD.out.2.1, ← HHD.out.2.2, ← HIH.out] at CH
    obtain ⟨nl2, hnl2⟩ : ∃ n, n = L2.length := ⟨_, rfl⟩
    rw [← hnl2]
    have HNL2 := Lib.hid hnl2
    clear ho rn hnl2
    go_wp2_with fail
    refine CH.mono ?_
    clear CH
    rintro e wv ⟨rfl, hbv⟩
    have hzb : (wv.alloc (.cells Z0 42)).heap[wv.heap.size]? = some (.cells Z0 42 (0, 0)) := heap_alloc_last _ _ _ rfl
    have zs : Z0.size = IH.size := by rw [HZ.out, HIH.out, idA_size, idA_size]
    have zi : (Tryz.prog.info? 42).map (·.size) = some IH.size := by rw [HIH.out, idA_size]; kernel_rfl
    have z1 : IH.all (·.oneCell') = true := by rw [HIH.out]; exact idA_one _
    have hbx : ((wv.alloc (.cells Z0 42)).setRow wv.heap.size IH).heap[wv.heap.size]? = some (.cells IH 42 (0, 0)) := setRow_heap _ _ _ _ _ _ hzb
    have gA : Below wv.heap.size wv ((wv.alloc (.cells Z0 42)).setRow wv.heap.size IH) := below_setRow ((Below.refl _ _).alloc (Nat.le_refl _) _) (Nat.le_refl _) _
    have g := hbv.trans (gA.mono hbv.size)
    have lx := HU.out.1.below g
    have HV := Lib.hid (And.intro lx (And.intro (HU.out.2.1.below g) (And.intro (HU.out.2.2.1.below g) (And.intro (HU.out.2.2.2.below g) hbx))))
    clear hbv gA g hbx lx
    go_upto_region 12 with (refine wpList_store_row rfl 42 _ _ rfl wv.heap.size IH rfl rfl 42 Z0 hzb zi zs z1 ?_)
    clear hzb zi zs z1
    obtain ⟨X19, hX19⟩ : ∃ X, X = wv.heap.size := ⟨_, rfl⟩
    rw [← hX19] at HV ⊢
    clear hX19
    generalize (wv.alloc (.cells Z0 42)).setRow X19 IH = wx at *
    have LA := load_id arrG (by kernel_rfl) hi X13 0 wx (idBox (by rw [← HIH.out]; exact HV.out.2.2.1.box))
    have LBX := load_id arrG (by kernel_rfl) hi X19 0 wx (idBox (by rw [← HIH.out]; exact HV.out.2.2.2.2))
    rw [← HIH.out] at LA LBX
    have EE := fun W => eq_id_run arrG hi hi W
    have EG := fun op x y w => run_eqGuard_agg (P := Tryz.prog) w op 42 x y (idA hi) (idA hi) (by kernel_rfl)
    simp only [decide_true] at EE
    rw [← HIH.out] at EE EG
    have XS1 : (hs.toList != hs.toList) = false := by simp
    have XS3 : (hg != hg) = false := by simp
    have CA := as_any HV.out.2.1.at_ (by have := HS9.out.2.1; omega)
    rw [← HNL.out] at CA
    go_wp2_with (first | (refine wpList_load_g rfl _ _ rfl _ _ rfl LA ?_) | (refine wpList_load_g rfl _ _ rfl _ _ rfl LBX ?_))
    refine CA.mono ?_
    clear CA LA LBX EE EG XS1 XS3
    rintro e y1 ⟨v1, rfl, ho⟩
    obtain ⟨aa, ca, rfl, ra, -⟩ := ho.rs tyD
    have HY1 := Lib.hid (And.intro (HV.out.1.below ho.frame) (And.intro (HV.out.2.1.below ho.frame) (HV.out.2.2.2.1.below ho.frame)))
    have CLs := refLess_any (name := c) ra (by have := HS9.out.2.1; omega)
    rw [← HNL.out, ← HC.out.2] at CLs
    rw [← HNL.out]
    clear ho ra
    go_wp2_with fail
    refine CLs.mono ?_
    clear CLs
    rintro e y2 ⟨v2, rfl, ho⟩
    rw [filter_del] at ho
    obtain ⟨ab, cb, rfl, rb, -⟩ := ho.rs tyD
    have HY2 := Lib.hid (And.intro (HY1.out.1.below ho.frame) (And.intro (HY1.out.2.1.below ho.frame) (And.intro (HY1.out.2.2.below ho.frame) rb)))
    have CA := as_any HY2.out.2.2.1 (by have := HR2.out.2.2.1; omega)
    rw [← HNL2.out] at CA
    clear ho rb
    go_wp2_with fail
    refine CA.mono ?_
    clear CA
    rintro e y3 ⟨v3, rfl, ho⟩
    obtain ⟨ad, cd, rfl, rd, -⟩ := ho.rs tyD
    have HY3 := Lib.hid (And.intro (HY2.out.1.below ho.frame) (And.intro (HY2.out.2.1.below ho.frame) (And.intro (HY2.out.2.2.1.below ho.frame) (HY2.out.2.2.2.below ho.frame))))
    have CLs := refLess_any (name := c) rd (by have := HR2.out.2.2.1; omega)
    rw [← HNL2.out, ← HC.out.2] at CLs
    rw [← HNL2.out]
    clear ho rd
    go_wp2_with fail
    refine CLs.mono ?_
    clear CLs
    rintro e y4 ⟨v4, rfl, ho⟩
    rw [filter_del, HT.out.2.2.2.1] at ho
    obtain ⟨ae, ce, rfl, re, -⟩ := ho.rs tyD
    have HY4 := Lib.hid (And.intro (HY3.out.1.below ho.frame) (And.intro (HY3.out.2.1.below ho.frame) (And.intro (HY3.out.2.2.1.below ho.frame) (And.intro (HY3.out.2.2.2.below ho.frame) re))))
    obtain ⟨nd, hnd⟩ : ∃ n, n = (delP L0 c).length := ⟨_, rfl⟩
    rw [← hnd]
    have HND := Lib.hid hnd
    clear ho re hnd
    have CLo := list_at HY4.out.1.at_ HT.out.1 otherT
    change Calls _ _ #[ptr p, .string ⟨#[111, 116, 104, 101, 114]⟩] y4 _ at CLo
    obtain ⟨LO, hLO⟩ : ∃ L, L = listS S2 otherT := ⟨_, rfl⟩
    obtain ⟨no, hno⟩ : ∃ n, n = LO.length := ⟨_, rfl⟩
    rw [← hLO, ← hno] at CLo
    have HLO := Lib.hid (And.intro hLO hno)
    clear hLO hno
    by_cases hg0 : gg = 0
    · subst hg0
      have HB := Lib.hid (And.intro HY4.out.1 (And.intro HY4.out.2.2.2.1 HY4.out.2.2.2.2))
      go_wp2_with fail
      refine CLo.mono ?_
      clear CLo
      rintro e u1 ⟨al, cl, rfl, -, hbu⟩
      have HU1 := Lib.hid (And.intro (HB.out.1.below hbu) (And.intro (HB.out.2.1.below hbu) (HB.out.2.2.below hbu)))
      clear hbu
      have hWf : ∀ q ∈ delP L0 c, WfP q := fun q hq => by have := (HS9.out.2.2 q (List.mem_filter.1 hq).1).2; exact Nat.le_trans this (by decide)
      by_cases hn0 : no = 0
      · have hnone := other_none (S := S2) (by rw [← HLO.out.1]; exact List.eq_nil_of_length_eq_zero (by rw [← HLO.out.2]; exact hn0))
        have tg : decide ((0 : Int) < (no : Int)) = false := decide_eq_false (by omega)
        have tg' : decide (0 < no) = false := decide_eq_false (by omega)
        have CG := Get_any HU1.out.1.at_ (front := otherT) (refsIn_of HT.out.1 (by decide) (by have := HT.out.2.1; omega) _ (by decide)) (HU1.out.1.max HM.out.1 HM.out.2).is (by decide) refsxT (by decide)
        rw [hnone, ← HZ.out] at CG
        change Calls _ _ #[ptr p, .string ⟨#[111, 116, 104, 101, 114]⟩, .string ⟨#[114, 101, 102, 115, 47, 120]⟩] u1 (fun e w' => e = .returned (.tuple #[.agg Z0, .int .i64 6]) ∧ Below u1.heap.size u1 w') at CG
        clear hnone
        go_wp2_with fail
        refine CG.mono ?_
        clear CG
        rintro e u2 ⟨rfl, hbu2⟩
        have hzb : (u2.alloc (.cells Z0 42)).heap[u2.heap.size]? = some (.cells Z0 42 (0, 0)) := heap_alloc_last _ _ _ rfl
        have zs : Z0.size = Z0.size := rfl
        have zi : (Tryz.prog.info? 42).map (·.size) = some Z0.size := by rw [HZ.out, idA_size]; kernel_rfl
        have z1 : Z0.all (·.oneCell') = true := by rw [HZ.out]; exact idA_one _
        have hbx : ((u2.alloc (.cells Z0 42)).setRow u2.heap.size Z0).heap[u2.heap.size]? = some (.cells Z0 42 (0, 0)) := setRow_heap _ _ _ _ _ _ hzb
        have gA : Below u2.heap.size u2 ((u2.alloc (.cells Z0 42)).setRow u2.heap.size Z0) := below_setRow ((Below.refl _ _).alloc (Nat.le_refl _) _) (Nat.le_refl _) _
        have g := hbu2.trans (gA.mono hbu2.size)
        have lx := HU1.out.1.below g
        have HU2 := Lib.hid (And.intro lx (And.intro (HU1.out.2.1.below g) (HU1.out.2.2.below g)))
        clear hbu2 gA g hbx lx
        have CK := known_any _ (HU2.out.1.max HM.out.1 HM.out.2).is
        go_wp2_with (refine wpList_store_row rfl 42 _ _ rfl u2.heap.size Z0 rfl rfl 42 Z0 hzb zi rfl z1 ?_)
        refine CK.mono ?_
        clear CK hzb zi z1
        rintro e u4 ⟨rfl, hbu4⟩
        have HU4 := Lib.hid (And.intro (HU2.out.1.below hbu4) (And.intro (HU2.out.2.1.below hbu4) (HU2.out.2.2.below hbu4)))
        clear hbu4
        have CSM := same_any HU4.out.2.1 HU4.out.2.2 hWf hWf
        rw [decide_eq_true rfl, ← HND.out] at CSM
        go_wp2_with fail
        refine CSM.mono ?_
        clear CSM
        rintro e u5 ⟨rfl, hbu5⟩
        have HU5 := Lib.hid (H1.out.1.trans ((HU4.out.1.below hbu5).frame.mono H1.out.1.size))
        clear hbu5
        go_wp2_with fail
        go_ret
        exact ⟨rfl, HU5.out⟩
      · have tg : decide ((0 : Int) < (no : Int)) = true := decide_eq_true (by omega)
        have tg' : decide (0 < no) = true := decide_eq_true (by omega)
        have CK := known_any u1 (HU1.out.1.max HM.out.1 HM.out.2).is
        clear hn0
        go_wp2_with fail
        refine CK.mono ?_
        clear CK
        rintro e u4 ⟨rfl, hbu4⟩
        have HU4 := Lib.hid (And.intro (HU1.out.1.below hbu4) (And.intro (HU1.out.2.1.below hbu4) (HU1.out.2.2.below hbu4)))
        clear hbu4
        have CSM := same_any HU4.out.2.1 HU4.out.2.2 hWf hWf
        rw [decide_eq_true rfl, ← HND.out] at CSM
        go_wp2_with fail
        refine CSM.mono ?_
        clear CSM
        rintro e u5 ⟨rfl, hbu5⟩
        have HU5 := Lib.hid (H1.out.1.trans ((HU4.out.1.below hbu5).frame.mono H1.out.1.size))
        clear hbu5
        go_wp2_with fail
        go_ret
        exact ⟨rfl, HU5.out⟩
    · have tg0 : (gg != 0) = true := by rw [bne_iff_ne]; exact hg0
      have HB := Lib.hid (And.intro HY4.out.1 (And.intro HY4.out.2.2.2.1 HY4.out.2.2.2.2))
      clear hg0
      go_wp2_with fail
      refine CLo.mono ?_
      clear CLo
      rintro e u1 ⟨al, cl, rfl, -, hbu⟩
      have HU1 := Lib.hid (And.intro (HB.out.1.below hbu) (And.intro (HB.out.2.1.below hbu) (HB.out.2.2.below hbu)))
      clear hbu
      have hWf : ∀ q ∈ delP L0 c, WfP q := fun q hq => by have := (HS9.out.2.2 q (List.mem_filter.1 hq).1).2; exact Nat.le_trans this (by decide)
      by_cases hn0 : no = 0
      · have hnone := other_none (S := S2) (by rw [← HLO.out.1]; exact List.eq_nil_of_length_eq_zero (by rw [← HLO.out.2]; exact hn0))
        have tg : decide ((0 : Int) < (no : Int)) = false := decide_eq_false (by omega)
        have tg' : decide (0 < no) = false := decide_eq_false (by omega)
        have CG := Get_any HU1.out.1.at_ (front := otherT) (refsIn_of HT.out.1 (by decide) (by have := HT.out.2.1; omega) _ (by decide)) (HU1.out.1.max HM.out.1 HM.out.2).is (by decide) refsxT (by decide)
        rw [hnone, ← HZ.out] at CG
        change Calls _ _ #[ptr p, .string ⟨#[111, 116, 104, 101, 114]⟩, .string ⟨#[114, 101, 102, 115, 47, 120]⟩] u1 (fun e w' => e = .returned (.tuple #[.agg Z0, .int .i64 6]) ∧ Below u1.heap.size u1 w') at CG
        clear hnone
        go_wp2_with fail
        refine CG.mono ?_
        clear CG
        rintro e u2 ⟨rfl, hbu2⟩
        have hzb : (u2.alloc (.cells Z0 42)).heap[u2.heap.size]? = some (.cells Z0 42 (0, 0)) := heap_alloc_last _ _ _ rfl
        have zs : Z0.size = Z0.size := rfl
        have zi : (Tryz.prog.info? 42).map (·.size) = some Z0.size := by rw [HZ.out, idA_size]; kernel_rfl
        have z1 : Z0.all (·.oneCell') = true := by rw [HZ.out]; exact idA_one _
        have hbx : ((u2.alloc (.cells Z0 42)).setRow u2.heap.size Z0).heap[u2.heap.size]? = some (.cells Z0 42 (0, 0)) := setRow_heap _ _ _ _ _ _ hzb
        have gA : Below u2.heap.size u2 ((u2.alloc (.cells Z0 42)).setRow u2.heap.size Z0) := below_setRow ((Below.refl _ _).alloc (Nat.le_refl _) _) (Nat.le_refl _) _
        have g := hbu2.trans (gA.mono hbu2.size)
        have lx := HU1.out.1.below g
        have HU2 := Lib.hid (And.intro lx (And.intro (HU1.out.2.1.below g) (HU1.out.2.2.below g)))
        clear hbu2 gA g hbx lx
        have CK := known_any _ (HU2.out.1.max HM.out.1 HM.out.2).is
        go_wp2_with (refine wpList_store_row rfl 42 _ _ rfl u2.heap.size Z0 rfl rfl 42 Z0 hzb zi rfl z1 ?_)
        refine CK.mono ?_
        clear CK hzb zi z1
        rintro e u4 ⟨rfl, hbu4⟩
        have HU4 := Lib.hid (And.intro (HU2.out.1.below hbu4) (And.intro (HU2.out.2.1.below hbu4) (HU2.out.2.2.below hbu4)))
        clear hbu4
        have CSM := same_any HU4.out.2.1 HU4.out.2.2 hWf hWf
        rw [decide_eq_true rfl, ← HND.out] at CSM
        go_wp2_with fail
        refine CSM.mono ?_
        clear CSM
        rintro e u5 ⟨rfl, hbu5⟩
        have HU5 := Lib.hid (H1.out.1.trans ((HU4.out.1.below hbu5).frame.mono H1.out.1.size))
        clear hbu5
        go_wp2_with fail
        go_ret
        exact ⟨rfl, HU5.out⟩
      · have tg : decide ((0 : Int) < (no : Int)) = true := decide_eq_true (by omega)
        have tg' : decide (0 < no) = true := decide_eq_true (by omega)
        have CK := known_any u1 (HU1.out.1.max HM.out.1 HM.out.2).is
        clear hn0
        go_wp2_with fail
        refine CK.mono ?_
        clear CK
        rintro e u4 ⟨rfl, hbu4⟩
        have HU4 := Lib.hid (And.intro (HU1.out.1.below hbu4) (And.intro (HU1.out.2.1.below hbu4) (HU1.out.2.2.below hbu4)))
        clear hbu4
        have CSM := same_any HU4.out.2.1 HU4.out.2.2 hWf hWf
        rw [decide_eq_true rfl, ← HND.out] at CSM
        go_wp2_with fail
        refine CSM.mono ?_
        clear CSM
        rintro e u5 ⟨rfl, hbu5⟩
        have HU5 := Lib.hid (H1.out.1.trans ((HU4.out.1.below hbu5).frame.mono H1.out.1.size))
        clear hbu5
        go_wp2_with fail
        go_ret
        exact ⟨rfl, HU5.out⟩
end Go.Proofs.YtponfkfeflnilaaGreatDoor
