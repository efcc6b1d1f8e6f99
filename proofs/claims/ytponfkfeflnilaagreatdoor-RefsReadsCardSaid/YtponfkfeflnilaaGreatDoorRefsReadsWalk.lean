/-
  RefsReads: the walk.
-/
import Derived.Test.YtponfkfeflnilaaGreatDoorRefsErrorsWalk
import Derived.Test.YtponfkfeflnilaaGreatDoorMaDst
import Derived.Test.YtponfkfeflnilaaGreatDoorMaHd
namespace Go.Proofs.YtponfkfeflnilaaGreatDoor
open Go.RowKit Go.Mix Go.WideMaps Go.Maps

set_option maxRecDepth 100000 in
theorem eqD20 : EqlAt Tryz.prog 41 (fun x : Id20 => .agg (idA x)) (fun x y => decide (x = y)) :=
  ⟨fun x y w => by rw [run_eql_struct, eq_id_run arrR]; rfl, GuardAt.agg _ (by kernel_rfl)⟩
theorem LstPost.uni {w : World} {o : Option (List RefP)} {e : Ending} {w' : World} (h : LstPost w o e w') : ∃ v, e = .returned (.tuple #[v, .bool o.isSome]) ∧ OwnR encP 21 62 w w' v (o.getD []) := by
  rcases h with ⟨l, rfl, -, v, h1, h2⟩ | ⟨rfl, h1, h2⟩
  · exact ⟨v, h1, h2⟩
  · exact ⟨_, h1, OwnR.nil h2⟩
theorem idx_none {L : Refs} {name : Bytes} (h : getP L name = none) : idxN name L = -1 := idxN_none fun k hk => by
  have h1 := getP_none.1 h L[k]! (by rw [getElem!_pos L k hk]; exact List.getElem_mem hk)
  unfold hasN
  exact decide_eq_false h1
theorem idx_some {L : Refs} (hs : SortedP L) {name : Bytes} {i : Id20} (h : getP L name = some i) : ∃ k, k < L.length ∧ idxN name L = (k : Int) ∧ L[k]!.id = i := by
  have ha : L.any (hasN name) = true := by rw [any_get, h]; rfl
  obtain ⟨k, hk, h1, h2, -⟩ := idxN_hit ha
  refine ⟨k, hk, h1, ?_⟩
  have h3 : L[k]!.name = name := of_decide_eq_true h2
  have h4 := getP_of_mem hs (p := L[k]!) (by rw [getElem!_pos L k hk]; exact List.getElem_mem hk)
  rw [h3, h] at h4
  injection h4 with h4
  exact h4.symm

set_option maxRecDepth 100000 in
set_option maxHeartbeats 32000000 in
theorem refsReads_walk (a0 : Option Addr) (len0 cap0 : Nat) (g0 : List FlP) (a1 : ByteArray) (w : World) (hl0 : g0.length = len0) (w0 : FlsAt w a0 cap0 g0) (x0 : ∀ p ∈ g0, p.path.length ≤ 9223372036854775807) (w1 : a1.size ≤ 9223372036854775807) (hm : MaxIs w) :
    Calls Tryz.prog 6 #[.slice a0 len0 cap0, .string a1] w fun e w' => e = .returned (.bool true) ∧ Below w.heap.size w w' := by
  subst hl0
  obtain ⟨b, hb⟩ : ∃ b, b = a1.data.toList := ⟨_, rfl⟩
  have ha : a1 = strOf b := by rw [hb]; simp [strOf]
  subst ha
  obtain ⟨k, hk⟩ : ∃ k, k = min b.length 250 := ⟨_, rfl⟩
  obtain ⟨nb, hnb⟩ : ∃ n, n = b.length := ⟨_, rfl⟩
  have hbs : (strOf b).size = nb := by rw [strOf_size, hnb]
  have MR := min_runI (nb : Int) 250 (k : Int) (by omega)
  have SL := fun W => str_to Tryz.underlying9 b (i := k) (by omega) W
  obtain ⟨c, hc⟩ : ∃ c, c = b.take k := ⟨_, rfl⟩
  have hcl : c.length ≤ 250 := by rw [hc, List.length_take]; omega
  rw [← hc] at SL
  obtain ⟨CS, hCS⟩ : ∃ C, C = strOf c := ⟨_, rfl⟩
  rw [← hCS] at SL
  have HC := Lib.hid (And.intro hcl hCS)
  obtain ⟨Z0, hZ0⟩ : ∃ Z, Z = idA id0 := ⟨_, rfl⟩
  have z : ∀ w, (zeroValue 42).run Tryz.prog w = .ok (.agg Z0) w := fun w => by rw [hZ0]; kernel_rfl
  have zD : ∀ w, (zeroValue 41).run Tryz.prog w = .ok (.agg Z0) w := fun w => by rw [hZ0]; kernel_rfl
  have b0 : ∀ w, (Instr.build 42 [].toArray).run Tryz.prog w = .ok (.agg Z0) w := fun w => by rw [hZ0]; kernel_rfl
  have HZ := Lib.hid hZ0
  have HM := Lib.hid (And.intro hm hm.lt)
  have CLAID := laid_any w0 x0
  obtain ⟨n0, hn0⟩ : ∃ n, n = g0.length := ⟨_, rfl⟩
  rw [← hn0] at CLAID ⊢
  generalize strOf b = BS at *
  clear hb hc hcl hCS hk hnb w0 x0 w1 hm hn0 hZ0
  go_enter Tryz.func6, Tryz.ntmps6
  go_wp2_with fail
  refine CLAID.mono ?_
  clear CLAID
  rintro e w2 ⟨p, own, rfl, l2⟩
  have hS := laid_ok g0
  obtain ⟨S, hSe⟩ : ∃ S, S = laidS g0 := ⟨_, rfl⟩
  rw [← hSe] at l2 hS
  have HS := Lib.hid (And.intro hS (hS.refs (by decide) [] (by decide)))
  have CT := taken_any l2.at_ hS.ok (by decide)
  have H2 := Lib.hid l2
  clear l2 hS hSe
  go_wp2_with (first | (refine wpList_slice_at rfl _ _ _ _ _ rfl _ _ _ _ _ rfl rfl rfl rfl (SL _) ?_))
  refine CT.mono ?_
  clear CT SL MR
  rintro e w3 ⟨v3, rfl, hof⟩
  obtain ⟨at_, ct, rfl, hfo, hb3⟩ := hof.o (own := own) (fun k hk => H2.out.not_new hk)
  have l3 := H2.out.below hb3
  obtain ⟨N, hN⟩ : ∃ N, N = (takenP S []).length := ⟨_, rfl⟩
  have hNb : N ≤ 10000 := by rw [hN]; exact taken_len HS.out.1.ok
  rw [← hN]
  have CL := List_any l3.at_ (front := []) HS.out.2 (l3.max HM.out.1 HM.out.2).is (by decide)
  change Calls _ _ #[ptr p, .string ⟨#[]⟩] w3 (fun e w' => ∃ v, e = .returned (.tuple #[v, .int .i64 (errO (allK S []))]) ∧ OwnR encP 21 88 w3 w' v ((allK S []).getD [])) at CL
  have H3 := Lib.hid (And.intro l3 (And.intro hfo.fls hN))
  clear hof hfo hb3 l3 hN
  go_wp2_with fail
  refine CL.mono ?_
  clear CL
  rintro e w4 ⟨v4, rfl, ho⟩
  obtain ⟨ax, cx, rfl, rx, -⟩ := ho.rs tyP
  have l4 := H3.out.1.below ho.frame
  have ft4 := H3.out.2.1.below ho.frame
  have CLS := refList_any ft4 (taken_len HS.out.1.ok) (taken_short HS.out.1.ok (by decide))
  rw [doc_all, ← H3.out.2.2] at CLS
  have H4 := Lib.hid (And.intro l4 (And.intro ft4 rx))
  clear ho rx l4 ft4
  obtain ⟨E, hE⟩ : ∃ E, E = errO (allK S []) := ⟨_, rfl⟩
  obtain ⟨LL, hLL⟩ : ∃ L, L = (allK S []).getD [] := ⟨_, rfl⟩
  obtain ⟨ok, hok⟩ : ∃ o, o = (allK S []).isSome := ⟨_, rfl⟩
  rw [← hLL] at H4
  rw [← hE, ← hLL]
  have hLs : SortedP LL ∧ LL.length ≤ 1000 ∧ ∀ r ∈ LL, rightN r.name = true ∧ r.name.length ≤ 200 := by
    rw [hLL]
    cases hA : allK S [] with
    | none => exact ⟨List.Pairwise.nil, Nat.zero_le _, fun r h => (by simp at h)⟩
    | some L => exact all_short HS.out.2 hA
  have HL := Lib.hid (And.intro hE (And.intro hLL (And.intro hok hLs)))
  clear hE hLL hok hLs
  go_wp2_with fail
  refine CLS.mono ?_
  clear CLS
  rintro e w5 hpost
  obtain ⟨v5, rfl, ho⟩ := hpost.uni
  rw [← HL.out.2.1] at ho
  rw [← HL.out.2.2.1]
  obtain ⟨ay, cy, rfl, ry, -⟩ := ho.rs tyD
  have l5 := H4.out.1.below ho.frame
  have CG := Get_any l5.at_ (front := []) HS.out.2 (l5.max HM.out.1 HM.out.2).is (by decide) c (by have := HC.out.1; omega)
  rw [← HC.out.2] at CG
  change Calls _ _ #[ptr p, .string ⟨#[]⟩, .string CS] w5 (fun e w' => e = .returned (.tuple #[.agg (idA (getK S [] c).1), .int .i64 (getK S [] c).2]) ∧ Below w5.heap.size w5 w') at CG
  have H5 := Lib.hid (And.intro l5 (And.intro (H4.out.2.1.below ho.frame) (And.intro (H4.out.2.2.below ho.frame) ry)))
  obtain ⟨gi, hgi⟩ : ∃ g, g = (getK S [] c).1 := ⟨_, rfl⟩
  obtain ⟨ge, hge⟩ : ∃ g, g = (getK S [] c).2 := ⟨_, rfl⟩
  rw [← hgi, ← hge] at CG
  have HGK := Lib.hid (And.intro hgi hge)
  obtain ⟨IG, hIG⟩ : ∃ I, I = idA gi := ⟨_, rfl⟩
  rw [← hIG] at CG
  have HIG := Lib.hid hIG
  obtain ⟨nl, hnl⟩ : ∃ n, n = LL.length := ⟨_, rfl⟩
  rw [← hnl]
  have HNL := Lib.hid hnl
  clear hpost ho ry l5 hgi hge hIG hnl
  go_wp2_with fail
  refine CG.mono ?_
  clear CG
  rintro e w6 ⟨rfl, hb6⟩
  have g6 := hb6
  have hzb : (w6.alloc (.cells Z0 42)).heap[w6.heap.size]? = some (.cells Z0 42 (0, 0)) := heap_alloc_last _ _ _ rfl
  have zs : Z0.size = IG.size := by rw [HZ.out, HIG.out, idA_size, idA_size]
  have zi : (Tryz.prog.info? 42).map (·.size) = some IG.size := by rw [HIG.out, idA_size]; kernel_rfl
  have z1 : IG.all (·.oneCell') = true := by rw [HIG.out]; exact idA_one _
  have hbx : ((w6.alloc (.cells Z0 42)).setRow w6.heap.size IG).heap[w6.heap.size]? = some (.cells IG 42 (0, 0)) := setRow_heap _ _ _ _ _ _ hzb
  have gA : Below w6.heap.size w6 ((w6.alloc (.cells Z0 42)).setRow w6.heap.size IG) := below_setRow ((Below.refl _ _).alloc (Nat.le_refl _) _) (Nat.le_refl _) _
  have g := hb6.trans (gA.mono hb6.size)
  have l7 := H5.out.1.below g
  have H7 := Lib.hid (And.intro l7 (And.intro (H5.out.2.1.below g) (And.intro (H5.out.2.2.1.below g) (And.intro (H5.out.2.2.2.below g) hbx))))
  clear hb6 g6 gA g hbx l7
  go_upto_region 7 with (refine wpList_store_row rfl 42 _ _ rfl w6.heap.size IG rfl rfl 42 Z0 hzb zi zs z1 ?_)
  clear hzb zi zs z1
  obtain ⟨X11, hX11⟩ : ∃ X, X = w6.heap.size := ⟨_, rfl⟩
  rw [← hX11] at H7 ⊢
  clear hX11
  generalize (w6.alloc (.cells Z0 42)).setRow X11 IG = w7 at *
  have CH := Head_any H7.out.1.at_ (front := []) HS.out.1.ok (by decide) (H7.out.1.max HM.out.1 HM.out.2).is (by decide)
  change Calls _ _ #[ptr p, .string ⟨#[]⟩] w7 (fun e w' => e = .returned (.tuple #[.string (strOf (headK S.files []).1), .agg (idA (headK S.files []).2.1), .int .i64 (headK S.files []).2.2]) ∧ Below w7.heap.size w7 w') at CH
  obtain ⟨hs, hhs⟩ : ∃ x, x = strOf (headK S.files []).1 := ⟨_, rfl⟩
  obtain ⟨hi, hhi⟩ : ∃ x, x = (headK S.files []).2.1 := ⟨_, rfl⟩
  obtain ⟨hg, hhg⟩ : ∃ x, x = (headK S.files []).2.2 := ⟨_, rfl⟩
  rw [← hhs, ← hhi, ← hhg] at CH
  have HHD := Lib.hid (And.intro hhs (And.intro hhi hhg))
  obtain ⟨IH, hIH⟩ : ∃ I, I = idA hi := ⟨_, rfl⟩
  rw [← hIH] at CH
  have HIH := Lib.hid hIH
  clear hhs hhi hhg hIH
  go_wp2_with fail
  refine CH.mono ?_
  clear CH
  rintro e w8 ⟨rfl, hb8⟩
  have hzb : (w8.alloc (.cells Z0 42)).heap[w8.heap.size]? = some (.cells Z0 42 (0, 0)) := heap_alloc_last _ _ _ rfl
  have zs : Z0.size = IH.size := by rw [HZ.out, HIH.out, idA_size, idA_size]
  have zi : (Tryz.prog.info? 42).map (·.size) = some IH.size := by rw [HIH.out, idA_size]; kernel_rfl
  have z1 : IH.all (·.oneCell') = true := by rw [HIH.out]; exact idA_one _
  have hbx : ((w8.alloc (.cells Z0 42)).setRow w8.heap.size IH).heap[w8.heap.size]? = some (.cells IH 42 (0, 0)) := setRow_heap _ _ _ _ _ _ hzb
  have gA : Below w8.heap.size w8 ((w8.alloc (.cells Z0 42)).setRow w8.heap.size IH) := below_setRow ((Below.refl _ _).alloc (Nat.le_refl _) _) (Nat.le_refl _) _
  have g := hb8.trans (gA.mono hb8.size)
  have l9 := H7.out.1.below g
  have H9 := Lib.hid (And.intro l9 (And.intro (H7.out.2.1.below g) (And.intro (H7.out.2.2.1.below g) (And.intro (H7.out.2.2.2.1.below g) (And.intro (blockR_below H7.out.2.2.2.2 g) hbx)))))
  clear hb8 gA g hbx l9
  go_upto_region 8 with (refine wpList_store_row rfl 42 _ _ rfl w8.heap.size IH rfl rfl 42 Z0 hzb zi zs z1 ?_)
  clear hzb zi zs z1
  obtain ⟨X14, hX14⟩ : ∃ X, X = w8.heap.size := ⟨_, rfl⟩
  rw [← hX14] at H9 ⊢
  clear hX14
  generalize (w8.alloc (.cells Z0 42)).setRow X14 IH = w9 at *
  have CD := refHead_any H9.out.2.1 (taken_len HS.out.1.ok) (taken_short HS.out.1.ok (by decide))
  rw [doc_head, ← HHD.out.1, ← HHD.out.2.1, ← HHD.out.2.2, ← HIH.out, ← H3.out.2.2] at CD
  go_wp2_with fail
  refine CD.mono ?_
  clear CD
  rintro e w10 ⟨rfl, hb10⟩
  have hzb : (w10.alloc (.cells Z0 41)).heap[w10.heap.size]? = some (.cells Z0 41 (0, 0)) := heap_alloc_last _ _ _ rfl
  have zs : Z0.size = IH.size := by rw [HZ.out, HIH.out, idA_size, idA_size]
  have zi : (Tryz.prog.info? 41).map (·.size) = some IH.size := by rw [HIH.out, idA_size]; kernel_rfl
  have z1 : IH.all (·.oneCell') = true := by rw [HIH.out]; exact idA_one _
  have hbx : ((w10.alloc (.cells Z0 41)).setRow w10.heap.size IH).heap[w10.heap.size]? = some (.cells IH 41 (0, 0)) := setRow_heap _ _ _ _ _ _ hzb
  have gA : Below w10.heap.size w10 ((w10.alloc (.cells Z0 41)).setRow w10.heap.size IH) := below_setRow ((Below.refl _ _).alloc (Nat.le_refl _) _) (Nat.le_refl _) _
  have g := hb10.trans (gA.mono hb10.size)
  have l11 := H9.out.1.below g
  have H11 := Lib.hid (And.intro l11 (And.intro (H9.out.2.1.below g) (And.intro (H9.out.2.2.1.below g) (And.intro (H9.out.2.2.2.1.below g) (And.intro (blockR_below H9.out.2.2.2.2.1 g) (And.intro (blockR_below H9.out.2.2.2.2.2 g) hbx))))))
  clear hb10 gA g hbx l11
  go_upto_region 9 with (refine wpList_store_row rfl 41 _ _ rfl w10.heap.size IH rfl rfl 41 Z0 hzb zi zs z1 ?_)
  clear hzb zi zs z1
  obtain ⟨X17, hX17⟩ : ∃ X, X = w10.heap.size := ⟨_, rfl⟩
  rw [← hX17] at H11 ⊢
  clear hX17
  generalize (w10.alloc (.cells Z0 41)).setRow X17 IH = w11 at *
  have CK := known_any w11 (H11.out.1.max HM.out.1 HM.out.2).is
  have XS1 : (hs.toList != hs.toList) = false := by simp
  have XS3 : (hg != hg) = false := by simp
  cases ok
  · have hA : allK S [] = none := by have h := HL.out.2.2.1; cases hA : allK S [] with | none => rfl | some _ => rw [hA] at h; cases h
    obtain rfl : E = 4 := by rw [HL.out.1, hA]; rfl
    have HA := Lib.hid hA
    clear hA
    go_wp2_with fail
    refine CK.mono ?_
    clear CK
    rintro e w12 ⟨rfl, hb12⟩
    have H12 := Lib.hid (And.intro (H11.out.1.below hb12) (And.intro (H11.out.2.1.below hb12) (And.intro (H11.out.2.2.1.below hb12) (And.intro (H11.out.2.2.2.1.below hb12) (And.intro (blockR_below H11.out.2.2.2.2.1 hb12) (And.intro (blockR_below H11.out.2.2.2.2.2.1 hb12) (blockR_below H11.out.2.2.2.2.2.2 hb12)))))))
    have CA := as_any H12.out.2.2.1 (by have := HL.out.2.2.2.2.1; omega)
    rw [← HNL.out] at CA
    clear hb12
    go_wp2_with fail
    refine CA.mono ?_
    clear CA
    rintro e w13 ⟨v13, rfl, ho⟩
    obtain ⟨aa, ca, rfl, ra, -⟩ := ho.rs tyD
    have hb13 := ho.frame
    have H13 := Lib.hid (And.intro (H12.out.1.below hb13) (And.intro (H12.out.2.1.below hb13) (And.intro (H12.out.2.2.2.1.below hb13) (And.intro (blockR_below H12.out.2.2.2.2.1 hb13) (And.intro (blockR_below H12.out.2.2.2.2.2.1 hb13) (blockR_below H12.out.2.2.2.2.2.2 hb13))))))
    have CSM := same_any ra H13.out.2.2.1 (fun p hp => by have := (HL.out.2.2.2.2.2 p hp).2; exact Nat.le_trans this (by decide)) (fun p hp => by have := (HL.out.2.2.2.2.2 p hp).2; exact Nat.le_trans this (by decide))
    rw [decide_eq_true rfl, ← HNL.out] at CSM
    rw [← HNL.out]
    clear ho ra hb13
    go_wp2_with fail
    refine CSM.mono ?_
    clear CSM
    rintro e w14 ⟨rfl, hb14⟩
    have H14 := Lib.hid (And.intro (H13.out.1.below hb14) (And.intro (H13.out.2.1.below hb14) (And.intro (H13.out.2.2.1.below hb14) (And.intro (blockR_below H13.out.2.2.2.1 hb14) (And.intro (blockR_below H13.out.2.2.2.2.1 hb14) (blockR_below H13.out.2.2.2.2.2 hb14))))))
    clear hb14
    have LA := load_id arrG (by kernel_rfl) hi X14 0 w14 (idBox (by rw [← HIH.out]; exact H14.out.2.2.2.2.1))
    have LBX := load_id arrR (by kernel_rfl) hi X17 0 w14 (idBox (by rw [← HIH.out]; exact H14.out.2.2.2.2.2))
    rw [← HIH.out] at LA LBX
    have EE := fun W => eq_id_run arrR hi hi W
    have EG := fun op x y w => run_eqGuard_agg (P := Tryz.prog) w op 41 x y (idA hi) (idA hi) (by kernel_rfl)
    simp only [decide_true] at EE
    rw [← HIH.out] at EE EG
    have CF := refFind_any (name := c) H14.out.2.2.1 (by have := HL.out.2.2.2.2.1; omega)
    rw [← HNL.out, ← HC.out.2] at CF
    go_wp2_with (first | (refine wpList_load_g rfl _ _ rfl _ _ rfl LA ?_) | (refine wpList_load_g rfl _ _ rfl _ _ rfl LBX ?_))
    refine CF.mono ?_
    clear CF LA LBX EE EG
    rintro e w15 ⟨rfl, rfl⟩
    have CR := refRightN_any c (by have := HC.out.1; omega) w15
    obtain ⟨rr, hrr⟩ : ∃ r, r = rightN c := ⟨_, rfl⟩
    rw [← hrr, ← HC.out.2] at CR
    have HRR := Lib.hid hrr
    clear hrr
    go_wp2_with fail
    refine CR.mono ?_
    clear CR
    rintro e w16 ⟨rfl, rfl⟩
    have LG := load_id arrG (by kernel_rfl) gi X11 0 w16 (idBox (by rw [← HIG.out]; exact H14.out.2.2.2.1))
    rw [← HIG.out] at LG
    cases rr
    · have hgk : gi = id0 ∧ ge = 1 := by rw [HGK.out.1, HGK.out.2]; unfold getK; rw [if_neg (by rw [← HRR.out]; decide)]; exact ⟨rfl, rfl⟩
      obtain ⟨rfl, rfl⟩ := hgk
      have EE := eqI.1 id0 id0
      have EG := fun op a b => eqI.2 op a b id0 id0
      simp only [decide_true] at EE EG
      have hIZ : IG = Z0 := by rw [HIG.out, HZ.out]
      subst hIZ
      rw [← HZ.out] at EE EG
      have H16 := Lib.hid H14.out.1.frame
      go_wp2_with (first | (refine wpList_load_g rfl _ _ rfl _ _ rfl LG ?_) | (refine wpList_build_g rfl _ _ rfl [] _ rfl (b0 _) ?_))
      go_ret
      exact ⟨rfl, H16.out⟩
    · have hgk : gi = id0 ∧ ge = 4 := by rw [HGK.out.1, HGK.out.2]; unfold getK; rw [if_pos HRR.out.symm, HA.out]; exact ⟨rfl, rfl⟩
      obtain ⟨rfl, rfl⟩ := hgk
      have EE := eqI.1 id0 id0
      have EG := fun op a b => eqI.2 op a b id0 id0
      simp only [decide_true] at EE EG
      have hIZ : IG = Z0 := by rw [HIG.out, HZ.out]
      subst hIZ
      rw [← HZ.out] at EE EG
      have H16 := Lib.hid H14.out.1.frame
      go_wp2_with (first | (refine wpList_load_g rfl _ _ rfl _ _ rfl LG ?_) | (refine wpList_build_g rfl _ _ rfl [] _ rfl (b0 _) ?_))
      go_ret
      exact ⟨rfl, H16.out⟩
  · obtain ⟨L, hA⟩ : ∃ L, allK S [] = some L := by have h := HL.out.2.2.1; cases hA : allK S [] with | none => rw [hA] at h; cases h | some L => exact ⟨L, rfl⟩
    obtain rfl : E = 0 := by rw [HL.out.1, hA]; rfl
    obtain rfl : L = LL := by rw [HL.out.2.1, hA]; rfl
    have HA := Lib.hid hA
    clear hA
    go_wp2_with fail
    refine CK.mono ?_
    clear CK
    rintro e w12 ⟨rfl, hb12⟩
    have H12 := Lib.hid (And.intro (H11.out.1.below hb12) (And.intro (H11.out.2.1.below hb12) (And.intro (H11.out.2.2.1.below hb12) (And.intro (H11.out.2.2.2.1.below hb12) (And.intro (blockR_below H11.out.2.2.2.2.1 hb12) (And.intro (blockR_below H11.out.2.2.2.2.2.1 hb12) (blockR_below H11.out.2.2.2.2.2.2 hb12)))))))
    have CA := as_any H12.out.2.2.1 (by have := HL.out.2.2.2.2.1; omega)
    rw [← HNL.out] at CA
    clear hb12
    go_wp2_with fail
    refine CA.mono ?_
    clear CA
    rintro e w13 ⟨v13, rfl, ho⟩
    obtain ⟨aa, ca, rfl, ra, -⟩ := ho.rs tyD
    have hb13 := ho.frame
    have H13 := Lib.hid (And.intro (H12.out.1.below hb13) (And.intro (H12.out.2.1.below hb13) (And.intro (H12.out.2.2.2.1.below hb13) (And.intro (blockR_below H12.out.2.2.2.2.1 hb13) (And.intro (blockR_below H12.out.2.2.2.2.2.1 hb13) (blockR_below H12.out.2.2.2.2.2.2 hb13))))))
    have CSM := same_any ra H13.out.2.2.1 (fun p hp => by have := (HL.out.2.2.2.2.2 p hp).2; exact Nat.le_trans this (by decide)) (fun p hp => by have := (HL.out.2.2.2.2.2 p hp).2; exact Nat.le_trans this (by decide))
    rw [decide_eq_true rfl, ← HNL.out] at CSM
    rw [← HNL.out]
    clear ho ra hb13
    go_wp2_with fail
    refine CSM.mono ?_
    clear CSM
    rintro e w14 ⟨rfl, hb14⟩
    have H14 := Lib.hid (And.intro (H13.out.1.below hb14) (And.intro (H13.out.2.1.below hb14) (And.intro (H13.out.2.2.1.below hb14) (And.intro (blockR_below H13.out.2.2.2.1 hb14) (And.intro (blockR_below H13.out.2.2.2.2.1 hb14) (blockR_below H13.out.2.2.2.2.2 hb14))))))
    clear hb14
    have LA := load_id arrG (by kernel_rfl) hi X14 0 w14 (idBox (by rw [← HIH.out]; exact H14.out.2.2.2.2.1))
    have LBX := load_id arrR (by kernel_rfl) hi X17 0 w14 (idBox (by rw [← HIH.out]; exact H14.out.2.2.2.2.2))
    rw [← HIH.out] at LA LBX
    have EE := fun W => eq_id_run arrR hi hi W
    have EG := fun op x y w => run_eqGuard_agg (P := Tryz.prog) w op 41 x y (idA hi) (idA hi) (by kernel_rfl)
    simp only [decide_true] at EE
    rw [← HIH.out] at EE EG
    have CF := refFind_any (name := c) H14.out.2.2.1 (by have := HL.out.2.2.2.2.1; omega)
    rw [← HNL.out, ← HC.out.2] at CF
    go_wp2_with (first | (refine wpList_load_g rfl _ _ rfl _ _ rfl LA ?_) | (refine wpList_load_g rfl _ _ rfl _ _ rfl LBX ?_))
    refine CF.mono ?_
    clear CF LA LBX EE EG
    rintro e w15 ⟨rfl, rfl⟩
    have CR := refRightN_any c (by have := HC.out.1; omega) w15
    obtain ⟨rr, hrr⟩ : ∃ r, r = rightN c := ⟨_, rfl⟩
    rw [← hrr, ← HC.out.2] at CR
    have HRR := Lib.hid hrr
    clear hrr
    go_wp2_with fail
    refine CR.mono ?_
    clear CR
    rintro e w16 ⟨rfl, rfl⟩
    have LG := load_id arrG (by kernel_rfl) gi X11 0 w16 (idBox (by rw [← HIG.out]; exact H14.out.2.2.2.1))
    rw [← HIG.out] at LG
    cases rr
    · have hgk : gi = id0 ∧ ge = 1 := by rw [HGK.out.1, HGK.out.2]; unfold getK; rw [if_neg (by rw [← HRR.out]; decide)]; exact ⟨rfl, rfl⟩
      obtain ⟨rfl, rfl⟩ := hgk
      have EE := eqI.1 id0 id0
      have EG := fun op a b => eqI.2 op a b id0 id0
      simp only [decide_true] at EE EG
      have hIZ : IG = Z0 := by rw [HIG.out, HZ.out]
      subst hIZ
      rw [← HZ.out] at EE EG
      have H16 := Lib.hid H14.out.1.frame
      go_wp2_with (first | (refine wpList_load_g rfl _ _ rfl _ _ rfl LG ?_) | (refine wpList_build_g rfl _ _ rfl [] _ rfl (b0 _) ?_))
      go_ret
      exact ⟨rfl, H16.out⟩
    · cases hgp : getP L c with
      | none =>
        rw [idx_none hgp]
        have hgk : gi = id0 ∧ ge = 6 := by rw [HGK.out.1, HGK.out.2]; unfold getK; rw [if_pos HRR.out.symm, HA.out]; dsimp only; rw [hgp]; exact ⟨rfl, rfl⟩
        obtain ⟨rfl, rfl⟩ := hgk
        have EE := eqI.1 id0 id0
        have EG := fun op a b => eqI.2 op a b id0 id0
        simp only [decide_true] at EE EG
        have hIZ : IG = Z0 := by rw [HIG.out, HZ.out]
        subst hIZ
        rw [← HZ.out] at EE EG
        have H16 := Lib.hid H14.out.1.frame
        go_wp2_with (first | (refine wpList_load_g rfl _ _ rfl _ _ rfl LG ?_) | (refine wpList_build_g rfl _ _ rfl [] _ rfl (b0 _) ?_))
        go_ret
        exact ⟨rfl, H16.out⟩
      | some i0 =>
        obtain ⟨k2, hk2, hix, hid2⟩ := idx_some HL.out.2.2.2.1 hgp
        rw [hix]
        have hgk : gi = L[k2]!.id ∧ ge = 0 := by rw [HGK.out.1, HGK.out.2]; unfold getK; rw [if_pos HRR.out.symm, HA.out]; dsimp only; rw [hgp]; exact ⟨hid2.symm, rfl⟩
        have HGI := Lib.hid (And.intro hgk.1 hk2)
        obtain rfl : ge = 0 := hgk.2
        have CT := taken_any H14.out.1.at_ HS.out.1.ok (by decide)
        have tneg : decide ((k2 : Int) < 0) = false := decide_eq_false (by omega)
        have hk2n : k2 < nl := by rw [HNL.out]; exact hk2
        have hnl2 : nl ≤ 1000 := by rw [HNL.out]; exact HL.out.2.2.2.2.1
        clear hgk hix hid2 hgp hk2 LG
        go_wp2_with fail
        refine CT.mono ?_
        clear CT
        rintro e w17 ⟨v17, rfl, hof⟩
        obtain ⟨au, cu, rfl, hfu, hb17⟩ := hof.o (own := own) (fun k hk => H14.out.1.not_new hk)
        rw [← H3.out.2.2]
        have H17 := Lib.hid (And.intro (H14.out.1.below hb17) (And.intro (H14.out.2.1.below hb17) (And.intro hfu.fls (And.intro (H14.out.2.2.1.below hb17) (blockR_below H14.out.2.2.2.1 hb17)))))
        clear hof hfu hb17
        go_wp2_with fail
        go_loopw [21] (fun s21 wr => ∃ i : Nat, s21 = .int .i64 (i : Int) ∧ i ≤ N ∧ Below w17.heap.size w17 wr) (fun s21 _ => N - (intOf s21).toNat)
        case atStart => exact ⟨0, rfl, Nat.zero_le _, Below.refl _ _⟩
        case round =>
          obtain ⟨i, rfl, hi2, hbr⟩ := hrel
          have HR := Lib.hid hbr
          clear hbr
          by_cases hin : i < N
          · have t1 : decide ((i : Int) < (N : Int)) = true := decide_eq_true (by omega)
            have t1' : decide (i < N) = true := decide_eq_true hin
            have hil : i < (takenP S []).length := by rw [← H3.out.2.2]; exact hin
            obtain ⟨b1, q1, aa1, cc1, IX1, c10, c11, hsl1⟩ := (H17.out.2.2.1.below HR.out).at (i : Int) i rfl hil
            obtain ⟨b2, q2, aa2, cc2, IX2, c20, c21, hsl2⟩ := (H17.out.2.1.below HR.out).at (i : Int) i rfl hil
            rw [← H3.out.2.2] at IX1 IX2
            have ST1 : ∀ y : Later wr, _ := fun y => (hsl1.below y.2).str
            have ST2 : ∀ y : Later wr, _ := fun y => (hsl2.below y.2).str
            have LP1 : ∀ y : Later wr, (Instr.loadAt 9 (.pointer (some ⟨b1, q1, none⟩))).run Tryz.prog y.1 = .ok (.string (strOf (takenP S [])[i]!.path)) y.1 := fun y => by
              have c := load_later c10 y
              go_simp
            have LP2 : ∀ y : Later wr, (Instr.loadAt 9 (.pointer (some ⟨b2, q2, none⟩))).run Tryz.prog y.1 = .ok (.string (strOf (takenP S [])[i]!.path)) y.1 := fun y => by
              have c := load_later c20 y
              go_simp
            have LB1 : ∀ y : Later wr, (Instr.loadAt 24 (.pointer (some ⟨b1, q1 + 1, none⟩))).run Tryz.prog y.1 = .ok (.slice aa1 (takenP S [])[i]!.bytes.length cc1) y.1 := fun y => by
              have c := load_later c11 y
              go_simp
            have LB2 : ∀ y : Later wr, (Instr.loadAt 24 (.pointer (some ⟨b2, q2 + 1, none⟩))).run Tryz.prog y.1 = .ok (.slice aa2 (takenP S [])[i]!.bytes.length cc2) y.1 := fun y => by
              have c := load_later c21 y
              go_simp
            change ∀ y : Later wr, (convert 24 9 (.slice aa1 (takenP S [])[i]!.bytes.length cc1)).run Tryz.prog y.1 = .ok (.string (strOf (takenP S [])[i]!.bytes)) y.1 at ST1
            change ∀ y : Later wr, (convert 24 9 (.slice aa2 (takenP S [])[i]!.bytes.length cc2)).run Tryz.prog y.1 = .ok (.string (strOf (takenP S [])[i]!.bytes)) y.1 at ST2
            clear c10 c11 c20 c21 hsl1 hsl2 hil
            have X1 : ((strOf (takenP S [])[i]!.path).toList != (strOf (takenP S [])[i]!.path).toList) = false := by simp
            have X2 : ((strOf (takenP S [])[i]!.bytes).toList != (strOf (takenP S [])[i]!.bytes).toList) = false := by simp
            generalize strOf (takenP S [])[i]!.path = PP at *
            generalize strOf (takenP S [])[i]!.bytes = BB at *
            generalize (takenP S [])[i]!.bytes.length = bl at *
            go_upto_region 22 with (fail)
            refine wp_region_mg [(0, 0), (1, 0), (2, 0), (3, 0), (4, 0), (5, 0), (6, 0), (7, 0), (8, 0), (9, 0), (10, 0), (11, 0), (12, 0), (13, 0), (14, 0), (15, 0), (16, 0), (17, 0), (18, 0), (19, 0), (20, 0), (21, 0), (22, 0), (23, 0), (24, 0), (25, 0)] (by kernel_rfl) (by kernel_rfl) ?_
            iterate 26 (first | (refine mg_load rfl rfl _ _ rfl _ _ rfl LP1 ?_) | (refine mg_load rfl rfl _ _ rfl _ _ rfl LP2 ?_) | (refine mg_load rfl rfl _ _ rfl _ _ rfl LB1 ?_) | (refine mg_load rfl rfl _ _ rfl _ _ rfl LB2 ?_) | (refine mg_convert rfl rfl _ _ _ rfl _ _ rfl ST1 ?_) | (refine mg_convert rfl rfl _ _ _ rfl _ _ rfl ST2 ?_) | (refine mg_calm rfl (fun K hK => ?_); go_simp; (refine hK _ ?_; clear hK K)))
            refine mg_nil fun w18 hw18 => ?_
            have HR9 := Lib.hid (HR.out.trans (Below.mono hw18 HR.out.size))
            clear hw18 LP1 LP2 LB1 LB2 ST1 ST2
            go_wp2_with fail
            go_roundw
            case rel => exact ⟨i + 1, by go_num, by omega, HR9.out⟩
            case measure => simp [intOf]; omega
          · obtain rfl : i = N := by omega
            have t1 : decide ((i : Int) < (i : Int)) = false := decide_eq_false (by omega)
            have t1' : decide (i < i) = false := decide_eq_false (by omega)
            obtain ⟨bq, qq, IX, R, -⟩ := (H17.out.2.2.2.1.below HR.out).at tyD (k2 : Int) k2 rfl HGI.out.2
            rw [← HNL.out] at IX
            have LY : ∀ y : Later wr, (Instr.loadAt 41 (.pointer (some ⟨bq, qq + 1, none⟩))).run Tryz.prog y.1 = .ok (.agg IG) y.1 := fun y => by
              rw [HIG.out, HGI.out.1]; exact load_idD R y
            have LG : ∀ y : Later wr, (Instr.loadAt 42 (.pointer (some ⟨X11, 0, none⟩))).run Tryz.prog y.1 = .ok (.agg IG) y.1 := fun y => by
              have h1 := blockR_below (blockR_below H17.out.2.2.2.2 HR.out) y.2
              rw [HIG.out] at h1 ⊢
              exact load_id arrG (by kernel_rfl) gi X11 0 y.1 (idBox h1)
            have EE := eqD20.1 gi gi
            have EG := fun op a b => eqD20.2 op a b gi gi
            simp only [decide_true] at EE EG
            rw [← HIG.out] at EE EG
            have H18 := Lib.hid (H17.out.1.below HR.out).frame
            clear R
            go_upto_region 24 with (fail)
            refine wp_region_mg [(0, 0), (1, 0), (2, 0), (3, 0), (4, 0), (5, 0), (6, 0), (7, 0), (8, 0), (9, 0), (10, 0), (11, 0)] (by kernel_rfl) (by kernel_rfl) ?_
            iterate 12 (first | (refine mg_load rfl rfl _ _ rfl _ _ rfl LG ?_) | (refine mg_load rfl rfl _ _ rfl _ _ rfl LY ?_) | (refine mg_calm rfl (fun K hK => ?_); go_simp; (refine hK _ ?_; clear hK K)))
            refine mg_nil fun w19 hw19 => ?_
            have H19 := Lib.hid (H18.out.trans (Below.mono hw19 H18.out.size))
            clear hw19
            go_wp2_with fail
            go_ret
            exact ⟨rfl, H19.out⟩
end Go.Proofs.YtponfkfeflnilaaGreatDoor
