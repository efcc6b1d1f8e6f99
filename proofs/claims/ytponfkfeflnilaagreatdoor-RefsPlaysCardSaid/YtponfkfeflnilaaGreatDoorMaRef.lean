/-
  The document's Parse of packed refs: the walk.
  law14's As and few, the document's Same: the walks.
  How an argument that is a slice of the document's refs is opened.
-/
import Derived.Test.YtponfkfeflnilaaGreatDoorMaPkB
import Derived.Test.YtponfkfeflnilaaGreatDoorMaPkA
import Derived.Test.YtponfkfeflnilaaGreatDoorMaOne
import Derived.Deep.Slices
import Derived.Deep.Strs
import Derived.Deep.Fields
import Derived.ChangeSame
import Derived.Deep.Grids
namespace Go.Proofs.YtponfkfeflnilaaGreatDoor
open Go.RowKit Go.Mix Go.WideMaps

set_option maxRecDepth 100000 in
set_option maxHeartbeats 4000000 in
theorem refParsePk_any (s : Bytes) (hlen : s.length ≤ 100000) (w : World) :
    Calls Tryz.prog 13 #[.string (strOf s)] w (ReadPost 62 w s (.bool true) (.bool false)) := by
  obtain ⟨Z, hZ⟩ : ∃ Z, Z = idA id0 := ⟨_, rfl⟩
  have z : ∀ w, (zeroValue 41).run Tryz.prog w = .ok (.agg Z) w := fun w => by rw [hZ]; kernel_rfl
  have HZ := Lib.hid hZ
  have SX := fun (i : Nat) (I : Int) (hI : I = (i : Int)) (c : UInt8) (hc : s[i]? = some c) (W : World) => str_at Tryz.underlying9 s I hI hc W
  have SM := fun (i : Nat) (I J : Int) (hI : I = (i : Int)) (hJ : J = ((i + 1 : Nat) : Int)) (hi : i + 1 ≤ s.length) (W : World) => str_mid Tryz.underlying9 s (n := 1) I J hI hJ hi W
  have hsz := strOf_size s
  obtain ⟨n, hn⟩ : ∃ n, n = s.length := ⟨_, rfl⟩
  have HN := Lib.hid (And.intro hn hlen)
  obtain ⟨S, hS⟩ : ∃ S, S = strOf s := ⟨_, rfl⟩
  rw [← hn] at hsz
  rw [← hS] at SX SM hsz ⊢
  have HSX := Lib.hid (And.intro SX SM)
  have HE : Hid (strOf [] = ⟨#[]⟩) := Lib.hid rfl
  have hF0 := Below.refl w.heap.size w
  have hn1 : n ≤ 100000 := by omega
  clear hn hZ hlen SX SM hS
  go_enter Tryz.func13, Tryz.ntmps13
  go_wp2_with fail
  go_loopw [4, 5, 6, 7, 8] (fun s4 s5 s6 _ _ wr => ∃ (acc : List RefP) (one : Bytes) (t i : Nat), s5 = .string (strOf one) ∧ s6 = .int .i64 (i : Int) ∧ t ≤ i ∧ i ≤ n ∧ one = (s.drop t).take (i - t) ∧ (10 : UInt8) ∉ one ∧ readK s.length s = (readK (s.drop t).length (s.drop t)).map (acc ++ ·) ∧ acc.length ≤ t ∧ (∀ p ∈ acc, p.name.length ≤ s.length) ∧ OwnR encP 21 62 w wr s4 acc) (fun _ _ s6 _ _ _ => n - (intOf s6).toNat)
  case atStart => exact ⟨[], [], 0, 0, by rw [HE.out], rfl, Nat.le_refl _, Nat.zero_le _, by simp, by simp, by simp, Nat.le_refl _, fun _ h => (by simp at h), OwnR.nil hF0⟩
  case round =>
    clear hF0
    obtain ⟨acc, one, t, i, rfl, rfl, hti, hin, hone, h10, hread, hal, hnm, hrow⟩ := hrel
    obtain ⟨r, hr⟩ : ∃ r, r = s.drop t := ⟨_, rfl⟩
    rw [← hr] at hone hread
    have hol : one.length = i - t := by rw [hone, List.length_take, hr, List.length_drop, ← HN.out.1]; omega
    have HR := Lib.hid (And.intro hr (And.intro hone (And.intro h10 (And.intro hread (And.intro hal (And.intro hnm hrow))))))
    clear hr hone h10 hread hal hnm hrow
    by_cases hlt : i < n
    · have t1 : decide ((i : Int) < (n : Int)) = true := decide_eq_true (by omega)
      have t1' : decide (i < n) = true := decide_eq_true hlt
      obtain ⟨c, hc⟩ : ∃ c, s[i]? = some c := ⟨s[i]'(by rw [← HN.out.1]; exact hlt), List.getElem?_eq_getElem _⟩
      have IX := fun W => HSX.out.1 i (i : Int) rfl c hc W
      have hrc : r[i - t]? = some c := by rw [HR.out.1, List.getElem?_drop, show t + (i - t) = i by omega]; exact hc
      by_cases hc10 : c = 10
      case neg =>
        have t2 : ((c.toNat : Int) != 10) = true := by
          rw [bne_iff_ne]; intro h; exact hc10 (UInt8.toNat_inj.1 (by show c.toNat = 10; omega))
        have SL := fun W => HSX.out.2 i (i : Int) ((i : Int) + 1) rfl (by omega) (by rw [← HN.out.1]; omega) W
        rw [show (s.drop i).take 1 = [c] by
          obtain ⟨hl2, hcc⟩ := List.getElem?_eq_some_iff.1 hc
          rw [List.drop_eq_getElem_cons hl2, hcc]; rfl] at SL
        have SA := fun W => str_add one [c] (by omega) (by simp) W
        obtain ⟨PT, hPT⟩ : ∃ X, X = strOf one := ⟨_, rfl⟩
        obtain ⟨PC, hPC⟩ : ∃ X, X = strOf (one ++ [c]) := ⟨_, rfl⟩
        rw [← hPT, ← hPC] at SA
        rw [← hPT]
        generalize strOf [c] = C1 at *
        have HX := Lib.hid (And.intro hPC (And.intro hc10 hrc))
        clear hPT hPC hc hc10 hrc
        go_wp2_with (first | (refine wpList_index_at rfl _ _ _ rfl _ _ _ rfl rfl (IX _) ?_) | (refine wpList_slice_at rfl _ _ _ _ _ rfl _ _ _ _ _ rfl rfl rfl rfl (SL _) ?_))
        go_roundw
        case rel =>
          refine ⟨acc, one ++ [c], t, i + 1, by rw [HX.out.1], by go_num, by omega, by omega, ?_, ?_, by rw [← HR.out.1]; exact HR.out.2.2.2.1, HR.out.2.2.2.2.1, HR.out.2.2.2.2.2.1, HR.out.2.2.2.2.2.2⟩
          · rw [← HR.out.1, HR.out.2.1, show i + 1 - t = (i - t) + 1 by omega]
            obtain ⟨hl2, hcc⟩ := List.getElem?_eq_some_iff.1 HX.out.2.2
            rw [List.take_succ_eq_append_getElem hl2, hcc]
          · intro hm
            rcases List.mem_append.1 hm with hm | hm
            · exact HR.out.2.2.1 hm
            · rw [List.mem_singleton] at hm; exact HX.out.2.1 hm.symm
        case measure => simp [intOf]; omega
      subst hc10
      have t2 : (((10 : UInt8).toNat : Int) != 10) = false := rfl
      -- a line's end
      obtain ⟨k, hk⟩ : ∃ k, k = i - t := ⟨_, rfl⟩
      rw [← hk] at hol hrc
      have hkr : k < r.length := (List.getElem?_eq_some_iff.1 hrc).1
      have hF : FirstAt r 10 k := ⟨by omega, fun j hj e => HR.out.2.2.1 (List.mem_of_getElem? (i := j) (by rw [HR.out.2.1, ← hk, List.getElem?_take, if_pos hj]; exact e)), .inr hrc⟩
      have hst := stepK_at hF hkr
      have hr0 : r ≠ [] := by intro h; rw [h] at hkr; simp at hkr
      have HNO : Hid (stepK r = none → parsePk s = none) := Lib.hid fun hh => parsePk_acc HR.out.2.2.2.1 hh hr0
      have e40 : ∀ j, j < k → r[j]? = one[j]? := fun j hj => by rw [HR.out.2.1, ← hk, List.getElem?_take, if_pos hj]
      have hosz := strOf_size one
      rw [hol] at hosz
      have IX1 := fun (d : UInt8) (hd : one[40]? = some d) (W : World) => str_at Tryz.underlying9 one (i := 40) (40 : Int) rfl hd W
      have TK := fun (h : 40 ≤ one.length) (W : World) => str_to Tryz.underlying9 one (i := 40) h W
      have TF := fun (h : 41 ≤ one.length) (W : World) => str_from Tryz.underlying9 one (i := 41) h W
      have HI := Lib.hid (And.intro IX1 (And.intro TK TF))
      have HK := Lib.hid (And.intro hk (And.intro hkr (And.intro hst (And.intro e40 hol))))
      obtain ⟨PT, hPT⟩ : ∃ X, X = strOf one := ⟨_, rfl⟩
      have HI2 := HI.out
      rw [← hPT] at HI2 hosz ⊢
      have HI3 := Lib.hid HI2
      clear hPT HI HI2 IX1 TK TF hk hkr hst hr0 e40 hrc hc hF hol
      by_cases hk41 : 41 ≤ k
      case neg =>
        have HP := Lib.hid (HNO.out (by rw [HK.out.2.2.1, if_neg (by omega)]))
        have t3 : decide ((k : Int) < 41) = true := decide_eq_true (by omega)
        have t3' : decide (k < 41) = true := decide_eq_true (by omega)
        go_wp2_with (first | (refine wpList_index_at rfl _ _ _ rfl _ _ _ rfl rfl (IX _) ?_))
        go_ret2
        exact .inr ⟨HP.out, rfl, HR.out.2.2.2.2.2.2.frame⟩
      have t3 : decide ((k : Int) < 41) = false := decide_eq_false (by omega)
      have t3' : decide (k < 41) = false := decide_eq_false (by omega)
      obtain ⟨d, hd⟩ : ∃ d, one[40]? = some d := ⟨one[40]'(by have := HK.out.2.2.2.2; omega), List.getElem?_eq_getElem _⟩
      have IX1 := HI3.out.1 d hd
      have hrd : r[40]? = some d := by rw [HK.out.2.2.2.1 40 (by omega)]; exact hd
      by_cases h32 : d = 32
      case neg =>
        have HP := Lib.hid (HNO.out (by rw [HK.out.2.2.1, if_neg (by rw [hrd]; intro h; exact h32 (by injection h.2))]))
        have t4 : ((d.toNat : Int) != 32) = true := by
          rw [bne_iff_ne]; intro h; exact h32 (UInt8.toNat_inj.1 (by show d.toNat = 32; omega))
        clear hd hrd h32
        go_wp2_with (first | (refine wpList_index_at rfl _ _ _ rfl _ _ _ rfl rfl (IX _) ?_) | (refine wpList_unguard rfl (wpList_index_at rfl _ _ _ rfl _ _ _ rfl rfl (IX1 _) ?_)))
        go_ret2
        exact .inr ⟨HP.out, rfl, HR.out.2.2.2.2.2.2.frame⟩
      subst h32
      have t4 : (((32 : UInt8).toNat : Int) != 32) = false := rfl
      have TK := HI3.out.2.1 (by have := HK.out.2.2.2.2; omega)
      have TF := HI3.out.2.2 (by have := HK.out.2.2.2.2; omega)
      have hst := HK.out.2.2.1
      rw [if_pos ⟨hk41, hrd⟩] at hst
      have e1 : r.take 40 = one.take 40 := by rw [HR.out.2.1, ← HK.out.1, List.take_take, Nat.min_eq_left (by omega)]
      have e2 : (r.take k).drop 41 = one.drop 41 := by rw [HR.out.2.1, ← HK.out.1]
      have e3 : r.drop (k + 1) = s.drop (i + 1) := by rw [HR.out.1, List.drop_drop]; congr 1; have := HK.out.1; omega
      rw [e1, e2, e3] at hst
      have C6 := fun W => refParse_any (strOf (one.take 40)) W
      change ∀ W, Calls _ _ _ W (fun e w' => e = .returned (.tuple #[.agg (idA (shaX (one.take 40))), .bool (unhex (one.take 40)).isSome]) ∧ Below W.heap.size W w') at C6
      obtain ⟨g, hg⟩ : ∃ g, g = one.take 40 := ⟨_, rfl⟩
      obtain ⟨nm, hnm2⟩ : ∃ g, g = one.drop 41 := ⟨_, rfl⟩
      have hnl : nm.length ≤ n := by rw [hnm2, List.length_drop]; have := HK.out.2.2.2.2; have := HK.out.1; omega
      rw [← hg] at C6 TK hst
      rw [← hnm2] at TF hst
      obtain ⟨x, ok, hxe⟩ : ∃ (x : Id20) (ok : Bool), x = shaX g ∧ ok = (unhex g).isSome := ⟨_, _, rfl, rfl⟩
      rw [← hxe.1, ← hxe.2] at C6
      have HXE := Lib.hid (And.intro hxe (And.intro hst hnl))
      obtain ⟨NS, hNS⟩ : ∃ X, X = strOf nm := ⟨_, rfl⟩
      have HNS := Lib.hid hNS
      rw [← hNS] at TF
      generalize strOf g = GS at *
      clear hd hrd hst e1 e2 e3 hg hnm2 hxe hNS hnl HI3
      go_wp2_with (first | (refine wpList_index_at rfl _ _ _ rfl _ _ _ rfl rfl (IX _) ?_) | (refine wpList_unguard rfl (wpList_index_at rfl _ _ _ rfl _ _ _ rfl rfl (IX1 _) ?_)) | (refine wpList_slice_at rfl _ _ _ _ _ rfl _ _ _ _ _ rfl rfl rfl rfl (TK _) ?_))
      refine (C6 _).mono ?_
      rintro e w6 ⟨rfl, hb6⟩
      clear C6 IX IX1 TK
      have hrow6 := HR.out.2.2.2.2.2.2.later hb6
      have hz7 : (w6.alloc (.cells Z 41)).heap[w6.heap.size]? = some (.cells Z 41 (0, 0)) := heap_alloc_last _ _ _ rfl
      have hg7 : Below w6.heap.size w6 ((w6.alloc (.cells Z 41)).setRow w6.heap.size (idA x)) := below_setRow ((Below.refl _ _).alloc (Nat.le_refl _) _) (Nat.le_refl _) _
      have hk7 : ((w6.alloc (.cells Z 41)).setRow w6.heap.size (idA x)).heap[w6.heap.size]? = some (.cells (idA x) 41 (0, 0)) := setRow_heap _ _ _ _ _ _ hz7
      have zs : Z.size = (idA x).size := by rw [HZ.out]; simp [idA, idc_len]
      have zi : (Tryz.prog.info? 41).map (·.size) = some (idA x).size := by rw [show (idA x).size = 20 by simp [idA, idc_len]]; kernel_rfl
      have z1 : (idA x).all (·.oneCell') = true := all_oneCell_toArray (bcells_one _)
      have HG7 := Lib.hid (And.intro hg7 hk7)
      have HR6 := Lib.hid hrow6
      clear hg7 hk7 hb6 hrow6
      go_upto_region 11 with (refine wpList_store_row rfl 41 _ _ rfl w6.heap.size (idA x) rfl rfl 41 Z hz7 zi zs z1 ?_)
      have hg7 := HG7.out.1
      have hk7 := HG7.out.2
      clear HG7 zs zi z1 hz7
      generalize (w6.alloc (.cells Z 41)).setRow w6.heap.size (idA x) = w7 at *
      obtain ⟨X12, hX12⟩ : ∃ X, X = w6.heap.size := ⟨_, rfl⟩
      rw [← hX12] at hk7 ⊢
      have LI : ∀ y : Later w7, (Instr.loadAt 41 (.pointer (some ⟨X12, 0, none⟩))).run Tryz.prog y.1 = .ok (.agg (idA x)) y.1 := fun y => load_id arrR (by kernel_rfl) x X12 0 y.1 (rangeR_below (idBox hk7) y.2)
      have HB7 := Lib.hid (HR6.out.later hg7)
      clear hg7 hk7 hX12
      have hst := HXE.out.2.1
      cases ok
      case false =>
        have hu : unhex g = none := by
          have := HXE.out.1.2
          cases hq : unhex g with
          | none => rfl
          | some y => rw [hq] at this; cases this
        rw [hu] at hst
        have HP := Lib.hid (HNO.out hst)
        clear hst LI hu
        go_wp2_with fail
        go_ret2
        exact .inr ⟨HP.out, rfl, HB7.out.frame⟩
      obtain ⟨y, hu⟩ : ∃ y, unhex g = some y := by
        have := HXE.out.1.2
        cases hq : unhex g with
        | none => rw [hq] at this; cases this
        | some y => exact ⟨y, rfl⟩
      have hxy : x = y := by rw [HXE.out.1.1]; unfold shaX; rw [hu]; rfl
      rw [hu, ← hxy] at hst
      change stepK r = some (⟨nm, x⟩, s.drop (i + 1)) at hst
      obtain ⟨p, hp⟩ : ∃ p : RefP, p = ⟨nm, x⟩ := ⟨_, rfl⟩
      rw [← hp] at hst
      have B := fun W : World => buildD nm x W
      rw [← HNS.out, ← hp] at B
      have B1 := fun W : World => tyD.slice1 p W
      have HSP := Lib.hid (And.intro (parsePk_next HR.out.2.2.2.1 hst) hp)
      have hacc : acc.length ≤ 100000 := by have := HR.out.2.2.2.2.1; omega
      clear hst hu hxy hp
      go_upto_region 13 with (fail)
      generalize idA x = V1 at *
      refine wp_region_mg [(0, 0), (1, 0), (2, 0), (3, 0), (4, 0), (5, 1), (6, 2), (7, 0)] (by kernel_rfl) (by kernel_rfl) ?_
      iterate 2 (refine mg_calm rfl (fun K hK => ?_); go_simp; (refine hK _ ?_; clear hK K))
      refine mg_slice rfl rfl _ _ _ _ _ rfl _ (some (.int .i64 41)) none none _ rfl rfl rfl rfl TF ?_
      refine mg_load rfl rfl _ _ rfl _ _ rfl LI ?_
      refine mg_build rfl rfl _ _ rfl [(0, .string NS), (1, .agg V1)] _ rfl B ?_
      refine mg_buildSlice rfl rfl rfl _ _ _ rfl [(0, .agg (recA encP p))] (recA encP p) 62 1 1 rfl B1 (fun w8 hw8 => ?_)
      have hp9 := RsAt.one (enc := encP) (L := 21) w8 62 p
      have hrow9 := (HB7.out.later hw8).later ((Below.refl _ _).alloc (Nat.le_refl _) (.cells (recA encP p) 62))
      generalize w8.alloc (.cells (recA encP p) 62) = w9 at *
      clear LI B B1 TF hw8
      refine mg_sync rfl rfl (fun w10 hw10 K hK => ?_)
      have hrow10 := hrow9.later hw10
      have hp10 := hp9.below hw10
      clear hrow9 hp9 hw10
      refine wpList_append_r tyD rfl (.tmp 42) (.tmp 47) rfl _ acc rfl hrow10 (some ⟨w8.heap.size, 0, none⟩) 1 1 [p] rfl rfl hp10 (by simp; omega) ?_
      intro v5 w5 hb5 hgr5 hgr0
      clear hgr5 hgr0 hrow10 hp10
      go_wp2_with fail
      iterate 1 (refine mg_calm rfl (fun K hK => ?_); go_simp; (refine hK _ ?_; clear hK K))
      refine mg_nil fun w12 hw12 => ?_
      have H12 := Lib.hid (hb5.later hw12)
      clear hb5 hw12
      go_wp2_with fail
      go_roundw
      case rel =>
        refine ⟨acc ++ [p], [], i + 1, i + 1, by rw [HE.out], by go_num, Nat.le_refl _, by omega, by simp, by simp, HSP.out.1, ?_, fun q hq => ?_, H12.out⟩
        · have := HR.out.2.2.2.2.1; rw [List.length_append, List.length_singleton]; omega
        · rcases List.mem_append.1 hq with hq | hq
          · exact HR.out.2.2.2.2.2.1 q hq
          · rw [List.mem_singleton] at hq; rw [hq, HSP.out.2]; have := HXE.out.2.2; show nm.length ≤ _; rw [← HN.out.1]; exact this
      case measure => simp [intOf]; omega
    · obtain rfl : i = n := by omega
      have t1 : decide ((i : Int) < (i : Int)) = false := decide_eq_false (by omega)
      have t1' : decide (i < i) = false := decide_eq_false (by omega)
      have hor : one = r := by rw [HR.out.2.1]; exact List.take_of_length_le (by rw [HR.out.1, List.length_drop, ← HN.out.1]; exact Nat.le_refl _)
      by_cases h0 : one = []
      case neg =>
        have E0 : (strOf one).toList.isEmpty = false := by
          rw [strOf_list]; cases hq : one with
          | nil => exact absurd hq h0
          | cons => rfl
        have hst : stepK r = none := by rw [← hor]; exact stepK_end HR.out.2.2.1
        have HP := Lib.hid (parsePk_acc HR.out.2.2.2.1 hst (by rw [← hor]; exact h0))
        generalize strOf one = PT at *
        clear hst hor h0
        go_wp2_with fail
        go_ret2
        exact .inr ⟨HP.out, rfl, HR.out.2.2.2.2.2.2.frame⟩
      have E0 : (strOf one).toList.isEmpty = true := by rw [strOf_list, h0]; rfl
      have hread := HR.out.2.2.2.1
      rw [← hor, h0] at hread
      have HE2 := Lib.hid (parsePk_end hread)
      obtain ⟨ac, cc, rfl, hpa, -⟩ := HR.out.2.2.2.2.2.2.rs tyD
      have C12 := refOrdered_any hpa (by have := HR.out.2.2.2.2.1; omega) (fun p hp => by have := HR.out.2.2.2.2.2.1 p hp; have := HN.out; omega)
      generalize strOf one = PT at *
      obtain ⟨k, hk⟩ : ∃ k, k = acc.length := ⟨_, rfl⟩
      have HK := Lib.hid hk
      rw [← hk] at C12 ⊢
      clear hk hor h0 hread hpa hol
      go_wp2_with fail
      refine C12.mono ?_
      rintro e w3 ⟨rr, rfl, hr, hb3⟩
      have HRR := Lib.hid (And.intro hr hb3)
      clear C12 hr hb3
      cases rr
      · have hno : ¬ OrdP acc := fun h => by have := HRR.out.1.2 h; cases this
        have HPO := Lib.hid (HE2.out.2 hno)
        clear hno
        go_wp2_with fail
        go_ret2
        exact .inr ⟨HPO.out, rfl, HR.out.2.2.2.2.2.2.frame.trans (HRR.out.2.mono HR.out.2.2.2.2.2.2.frame.size)⟩
      · have HPO := Lib.hid (HE2.out.1 (HRR.out.1.1 rfl))
        go_wp2_with fail
        go_ret2
        exact .inl ⟨acc, HPO.out, _, rfl, by rw [HK.out]; exact HR.out.2.2.2.2.2.2.later HRR.out.2⟩
end Go.Proofs.YtponfkfeflnilaaGreatDoor
namespace Go.Proofs.YtponfkfeflnilaaGreatDoor
open Go.RowKit Go.Mix Go.WideMaps

set_option maxRecDepth 100000 in
set_option maxHeartbeats 2000000 in
theorem as_any {w : World} {l : List RefP} {a : Option Addr} {cap : Nat} (hg : RsAt encP 21 w a cap l) (hlen : l.length ≤ 1000000) :
    Calls Tryz.prog 15 #[.slice a l.length cap] w fun e w' => ∃ v, e = .returned v ∧ OwnR encP 21 62 w w' v l := by
  obtain ⟨n, hn⟩ : ∃ n, n = l.length := ⟨_, rfl⟩
  have HN := Lib.hid hn
  have HG := Lib.hid hg
  have HLEN := Lib.hid hlen
  rw [← hn]
  clear hn hg hlen
  have hF0 : Below w.heap.size w w := Below.refl _ _
  go_enter Tryz.func15, Tryz.ntmps15
  go_wp2_with fail
  go_loopw [3, 4] (fun s3 s4 wr => ∃ i : Nat, s4 = .int .i64 (i : Int) ∧ i ≤ n ∧ OwnR encP 21 62 w wr s3 (l.take i)) (fun _ s4 _ => n - (intOf s4).toNat)
  case atStart => exact ⟨0, rfl, Nat.zero_le _, OwnR.nil hF0⟩
  case round =>
    obtain ⟨i, rfl, hi, hrow⟩ := hrel
    by_cases him : i < n
    · have t1 : decide ((i : Int) < (n : Int)) = true := decide_eq_true (by omega)
      have t1' : decide (i < n) = true := decide_eq_true (by omega)
      have hil : i < l.length := by rw [← HN.out]; omega
      obtain ⟨b, q, IX, R, -⟩ := (HG.out.below hrow.frame).at tyP (i : Int) i rfl hil
      rw [← HN.out] at IX
      have HS := Lib.hid (take_succP hil)
      have HL := Lib.hid (show (l.take i).length ≤ 1000000 by have := HLEN.out; rw [List.length_take]; omega)
      have hi6 : i ≤ 1000000 := by have := HLEN.out; omega
      generalize l[i]! = p at *
      generalize l.take i = xs at *
      have L1 : ∀ y : Later wr, (Instr.loadAt 9 (.pointer (some ⟨b, q, none⟩))).run Tryz.prog y.1 = .ok (.string (strOf p.name)) y.1 := fun y => load_name R y
      have L2 : ∀ y : Later wr, (Instr.loadAt 42 (.pointer (some ⟨b, q + 1, none⟩))).run Tryz.prog y.1 = .ok (.agg (idA p.id)) y.1 := fun y => load_idP R y
      have B := fun W : World => buildD p.name p.id W
      have B1 := fun W : World => tyD.slice1 p W
      have HP := Lib.hid (show (⟨p.name, p.id⟩ : RefP) = p from rfl)
      rw [HP.out] at B
      clear R hil
      go_upto_region 5 with (fail)
      refine wp_region_mg [(0, 0), (1, 0), (2, 0), (3, 0), (4, 0), (5, 0), (6, 0), (7, 0), (8, 0), (9, 0), (10, 0), (11, 0), (12, 1), (13, 2), (14, 0)] (by kernel_rfl) (by kernel_rfl) ?_
      iterate 11 (first | (refine mg_load rfl rfl _ _ rfl _ _ rfl L1 ?_) | (refine mg_load rfl rfl _ _ rfl _ _ rfl L2 ?_) | (refine mg_calm rfl (fun K hK => ?_); go_simp; (refine hK _ ?_; clear hK K)))
      refine mg_build rfl rfl _ _ rfl [(0, .string (strOf p.name)), (1, .agg (idA p.id))] _ rfl B ?_
      refine mg_buildSlice rfl rfl rfl _ _ _ rfl [(0, .agg (recA encP p))] (recA encP p) 62 1 1 rfl B1 (fun w8 hw8 => ?_)
      have hp9 := RsAt.one (enc := encP) (L := 21) w8 62 p
      have hrow9 := (hrow.later hw8).later ((Below.refl _ _).alloc (Nat.le_refl _) (.cells (recA encP p) 62))
      generalize w8.alloc (.cells (recA encP p) 62) = w9 at *
      clear L1 L2 IX B B1 hrow hw8
      refine mg_sync rfl rfl (fun w10 hw10 K hK => ?_)
      have hrow10 := hrow9.later hw10
      have hp10 := hp9.below hw10
      clear hrow9 hp9 hw10
      refine wpList_append_r tyD rfl (.tmp 11) (.tmp 23) rfl _ xs rfl hrow10 (some ⟨w8.heap.size, 0, none⟩) 1 1 [p] rfl rfl hp10 (by have := HL.out; simp; omega) ?_
      intro v5 w5 hb5 hgr5 hgr0
      rw [← HS.out] at hb5
      clear hgr5 hgr0 hrow10 hp10
      go_wp2_with fail
      iterate 1 (refine mg_calm rfl (fun K hK => ?_); go_simp; (refine hK _ ?_; clear hK K))
      refine mg_nil fun w12 hw12 => ?_
      have hb12 := hb5.later hw12
      clear hb5 hw12
      go_wp2_with fail
      go_roundw
      case rel => exact ⟨i + 1, by go_num, by omega, hb12⟩
      case measure => simp [intOf]; omega
    · obtain rfl : i = n := by omega
      have e : l.take i = l := by rw [HN.out]; exact List.take_of_length_le (Nat.le_refl _)
      have hres := hrow
      rw [e] at hres
      have HRES := Lib.hid hres
      clear hres hrow
      have t1 : decide ((i : Int) < (i : Int)) = false := decide_eq_false (by omega)
      have t1' : decide (i < i) = false := decide_eq_false (by omega)
      go_wp2_with fail
      go_ret
      exact ⟨_, rfl, HRES.out⟩

/-- The document's entries as the program's: at most forty, with short names. -/
def shortP (p : RefP) : RefP := ⟨p.name.take 250, p.id⟩
def fewP (l : List RefP) : List RefP := (l.take 40).map shortP

set_option maxRecDepth 100000 in
set_option maxHeartbeats 2000000 in
theorem few_any {w : World} {l : List RefP} {a : Option Addr} {cap : Nat} (hg : RsAt encP 21 w a cap l) (hbig : ∀ p ∈ l, p.name.length ≤ 9223372036854775807) :
    Calls Tryz.prog 17 #[.slice a l.length cap] w fun e w' => ∃ v, e = .returned v ∧ OwnR encP 21 88 w w' v (fewP l) := by
  obtain ⟨n, hn⟩ : ∃ n, n = l.length := ⟨_, rfl⟩
  have HN := Lib.hid (And.intro hn hbig)
  have HG := Lib.hid hg
  rw [← hn]
  obtain ⟨m, hm⟩ : ∃ m, m = min n 40 := ⟨_, rfl⟩
  clear hn hg hbig
  have hF0 : Below w.heap.size w w := Below.refl _ _
  go_enter Tryz.func17, Tryz.ntmps17
  go_wp2_with fail
  go_loopw [3, 4] (fun s3 s4 wr => ∃ i : Nat, s4 = .int .i64 (i : Int) ∧ i ≤ m ∧ OwnR encP 21 88 w wr s3 ((l.take i).map shortP)) (fun _ s4 _ => m - (intOf s4).toNat)
  case atStart => exact ⟨0, rfl, Nat.zero_le _, OwnR.nil hF0⟩
  case round =>
    obtain ⟨i, rfl, hi, hrow⟩ := hrel
    by_cases him : i < m
    · have t1 : decide ((i : Int) < (n : Int)) = true := decide_eq_true (by omega)
      have t1' : decide (i < n) = true := decide_eq_true (by omega)
      have t2 : decide ((i : Int) < 40) = true := decide_eq_true (by omega)
      have t2' : decide (i < 40) = true := decide_eq_true (by omega)
      have hil : i < l.length := by rw [← HN.out.1]; omega
      obtain ⟨b, q, IX, R, -⟩ := (HG.out.below hrow.frame).at tyD (i : Int) i rfl hil
      rw [← HN.out.1] at IX
      have hpn : l[i]!.name.length ≤ 9223372036854775807 := HN.out.2 _ (by rw [getElem!_pos l i hil]; exact List.getElem_mem hil)
      have HS := Lib.hid (show (l.take (i + 1)).map shortP = (l.take i).map shortP ++ [shortP l[i]!] by rw [take_succP hil, List.map_append]; rfl)
      have HL := Lib.hid (show ((l.take i).map shortP).length ≤ 40 by rw [List.length_map, List.length_take]; omega)
      generalize l[i]! = p at *
      generalize (l.take i).map shortP = xs at *
      have L1 : ∀ y : Later wr, (Instr.loadAt 9 (.pointer (some ⟨b, q, none⟩))).run Tryz.prog y.1 = .ok (.string (strOf p.name)) y.1 := fun y => load_name R y
      have L2 : ∀ y : Later wr, (Instr.loadAt 41 (.pointer (some ⟨b, q + 1, none⟩))).run Tryz.prog y.1 = .ok (.agg (idA p.id)) y.1 := fun y => load_idD R y
      obtain ⟨k, hk⟩ : ∃ k, k = min p.name.length 250 := ⟨_, rfl⟩
      have MR := min_run (p.name.length : Int) 250 k (by split <;> omega)
      have SL := fun W => str_to Tryz.underlying9 p.name (i := k) (by omega) W
      have htk : p.name.take k = p.name.take 250 := by
        rw [hk]
        rcases Nat.le_total p.name.length 250 with h | h
        · rw [Nat.min_eq_left h, List.take_of_length_le (Nat.le_refl _), List.take_of_length_le h]
        · rw [Nat.min_eq_right h]
      rw [htk] at SL
      have B := fun W : World => buildP (p.name.take 250) p.id W
      have B1 := fun W : World => tyP.slice1 (shortP p) W
      have HPS := Lib.hid (show (⟨p.name.take 250, p.id⟩ : RefP) = shortP p from rfl)
      rw [HPS.out] at B
      have hsz := strOf_size p.name
      obtain ⟨p2, hp2⟩ : ∃ p2, p2 = shortP p := ⟨_, rfl⟩
      rw [← hp2] at B B1
      have HP2 := Lib.hid hp2
      generalize hnl : p.name.length = nl at *
      generalize strOf (p.name.take 250) = S2 at *
      generalize strOf p.name = S1 at *
      clear R hil hk htk hp2 hnl hpn
      go_upto_region 5 with (fail)
      refine wp_region_mg [(0, 0), (1, 0), (2, 0), (3, 0), (4, 0), (5, 0), (6, 0), (7, 0), (8, 0), (9, 0), (10, 0), (11, 0), (12, 0), (13, 0), (14, 0), (15, 0), (16, 0), (17, 0), (18, 0), (19, 0), (20, 1), (21, 2), (22, 0)] (by kernel_rfl) (by kernel_rfl) ?_
      iterate 19 (first | (refine mg_load rfl rfl _ _ rfl _ _ rfl L1 ?_) | (refine mg_load rfl rfl _ _ rfl _ _ rfl L2 ?_) | (refine mg_slice rfl rfl _ _ _ _ _ rfl _ none (some (.int .i64 (k : Int))) none _ rfl rfl rfl rfl SL ?_) | (refine mg_calm rfl (fun K hK => ?_); go_simp; (refine hK _ ?_; clear hK K)))
      refine mg_build rfl rfl _ _ rfl [(0, .string S2), (1, .agg (idA p.id))] _ rfl B ?_
      refine mg_buildSlice rfl rfl rfl _ _ _ rfl [(0, .agg (recA encP p2))] (recA encP p2) 88 1 1 rfl B1 (fun w8 hw8 => ?_)
      have hp9 := RsAt.one (enc := encP) (L := 21) w8 88 p2
      have hrow9 := (hrow.later hw8).later ((Below.refl _ _).alloc (Nat.le_refl _) (.cells (recA encP p2) 88))
      generalize w8.alloc (.cells (recA encP p2) 88) = w9 at *
      clear L1 L2 IX B B1 hrow hw8 MR SL
      refine mg_sync rfl rfl (fun w10 hw10 K hK => ?_)
      have hrow10 := hrow9.later hw10
      have hp10 := hp9.below hw10
      clear hrow9 hp9 hw10
      refine wpList_append_r tyP rfl (.tmp 15) (.tmp 35) rfl _ xs rfl hrow10 (some ⟨w8.heap.size, 0, none⟩) 1 1 [p2] rfl rfl hp10 (by have := HL.out; simp; omega) ?_
      intro v5 w5 hb5 hgr5 hgr0
      rw [HP2.out, ← HS.out] at hb5
      clear hgr5 hgr0 hrow10 hp10
      go_wp2_with fail
      iterate 1 (refine mg_calm rfl (fun K hK => ?_); go_simp; (refine hK _ ?_; clear hK K))
      refine mg_nil fun w12 hw12 => ?_
      have hb12 := hb5.later hw12
      clear hb5 hw12
      go_wp2_with fail
      go_roundw
      case rel => exact ⟨i + 1, by go_num, by omega, hb12⟩
      case measure => simp [intOf]; omega
    · obtain rfl : i = m := by omega
      have e : l.take i = l.take 40 := by
        rw [hm, HN.out.1]
        rcases Nat.lt_or_ge l.length 40 with h | h
        · rw [show min l.length 40 = l.length by omega, List.take_of_length_le (Nat.le_refl _), List.take_of_length_le (by omega)]
        · rw [show min l.length 40 = 40 by omega]
      have hres := hrow
      rw [e] at hres
      have HRES := Lib.hid hres
      clear hres hrow
      by_cases hin : i < n
      · have t1 : decide ((i : Int) < (n : Int)) = true := decide_eq_true (by omega)
        have t1' : decide (i < n) = true := decide_eq_true hin
        have t2 : decide ((i : Int) < 40) = false := decide_eq_false (by omega)
        have t2' : decide (i < 40) = false := decide_eq_false (by omega)
        go_wp2_with fail
        go_ret
        exact ⟨_, rfl, HRES.out⟩
      · have t1 : decide ((i : Int) < (n : Int)) = false := decide_eq_false (by omega)
        have t1' : decide (i < n) = false := decide_eq_false hin
        go_wp2_with fail
        go_ret
        exact ⟨_, rfl, HRES.out⟩

set_option maxRecDepth 100000 in
set_option maxHeartbeats 2000000 in
theorem same_any {w : World} {l m : List RefP} {a b : Option Addr} {ca cb : Nat} (hl : RsAt encP 21 w a ca l) (hm : RsAt encP 21 w b cb m) (wl : ∀ p ∈ l, WfP p) (wm : ∀ p ∈ m, WfP p) :
    Calls Tryz.prog 14 #[.slice a l.length ca, .slice b m.length cb] w fun e w' => e = .returned (.bool (decide (l = m))) ∧ Below w.heap.size w w' := by
  obtain ⟨n, hn⟩ : ∃ n, n = l.length := ⟨_, rfl⟩
  obtain ⟨k, hk⟩ : ∃ n, n = m.length := ⟨_, rfl⟩
  have HN := Lib.hid (And.intro hn hk)
  have HG := Lib.hid (And.intro hl hm)
  have HW := Lib.hid (And.intro wl wm)
  have hnb : n ≤ 9223372036854775807 := by rw [hn]; exact Nat.le_trans hl.le hl.big
  rw [← hn, ← hk]
  clear hn hk hl hm wl wm
  obtain ⟨R, hR⟩ : ∃ R, R = decide (l = m) := ⟨_, rfl⟩
  have HR := Lib.hid hR
  rw [← hR]
  clear hR
  go_enter Tryz.func14, Tryz.ntmps14
  by_cases hnk : n = k
  · subst hnk
    have tt : ((n : Int) != (n : Int)) = false := by simp
    have tt' : (n != n) = false := by simp
    have hF0 : Below w.heap.size w w := Below.refl _ _
    go_wp2_with fail
    go_loopw [5] (fun s5 wr => ∃ i : Nat, s5 = .int .i64 (i : Int) ∧ i ≤ n ∧ l.take i = m.take i ∧ Below w.heap.size w wr) (fun s5 _ => n - (intOf s5).toNat)
    case atStart => exact ⟨0, rfl, Nat.zero_le _, rfl, hF0⟩
    case round =>
      obtain ⟨i, rfl, hi, he, hb⟩ := hrel
      by_cases hin : i < n
      · have t1 : decide ((i : Int) < (n : Int)) = true := decide_eq_true (by omega)
        have t1' : decide (i < n) = true := decide_eq_true (by omega)
        have hil : i < l.length := by rw [← HN.out.1]; omega
        have him : i < m.length := by rw [← HN.out.2]; omega
        obtain ⟨b1, q1, IX1, -, L1⟩ := (HG.out.1.below hb).at tyD (i : Int) i rfl hil
        obtain ⟨b2, q2, IX2, -, L2⟩ := (HG.out.2.below hb).at tyD (i : Int) i rfl him
        rw [← HN.out.1] at IX1
        rw [← HN.out.2] at IX2
        have L1' : ∀ y : Later wr, (Instr.loadAt 62 (.pointer (some ⟨b1, q1, none⟩))).run Tryz.prog y.1 = .ok (.agg (recA encP l[i]!)) y.1 := fun y => L1 y.1 y.2
        have L2' : ∀ y : Later wr, (Instr.loadAt 62 (.pointer (some ⟨b2, q2, none⟩))).run Tryz.prog y.1 = .ok (.agg (recA encP m[i]!)) y.1 := fun y => L2 y.1 y.2
        have E := etD.eq_run l[i]! m[i]! (HW.out.1 _ (by rw [getElem!_pos l i hil]; exact List.getElem_mem hil)) (HW.out.2 _ (by rw [getElem!_pos m i him]; exact List.getElem_mem him))
        have G := fun op x y w => run_eqGuard_agg (P := Tryz.prog) w op 62 x y (recA encP l[i]!) (recA encP m[i]!) etD.ge
        have S1 := take_succP hil
        have S2 := take_succP him
        obtain ⟨d, hd⟩ : ∃ d, d = decide (l[i]! = m[i]!) := ⟨_, rfl⟩
        rw [← hd] at E
        have HS := Lib.hid (And.intro S1 (And.intro S2 (And.intro he hd)))
        have HBR := Lib.hid hb
        clear S1 S2 he L1 L2 hil him hd hb
        generalize l[i]! = p1 at *
        generalize m[i]! = p2 at *
        go_upto_region 6 with (fail)
        refine wp_region_mg [(0, 0), (1, 0), (2, 0), (3, 0), (4, 0), (5, 0), (6, 0), (7, 0), (8, 0)] (by kernel_rfl) (by kernel_rfl) ?_
        iterate 9 (first | (refine mg_load rfl rfl _ _ rfl _ _ rfl L1' ?_) | (refine mg_load rfl rfl _ _ rfl _ _ rfl L2' ?_) | (refine mg_calm rfl (fun K hK => ?_); go_simp; (refine hK _ ?_; clear hK K)))
        refine mg_nil fun w7 hw7 => ?_
        have HB7 := Lib.hid (HBR.out.trans (Below.mono hw7 HBR.out.size))
        clear L1' L2' IX1 IX2 E G hw7
        cases d
        · go_wp2_with fail
          go_ret
          refine ⟨?_, HB7.out⟩
          show Ending.returned (.bool false) = _
          rw [HR.out]
          have hne : ¬ p1 = p2 := of_decide_eq_false HS.out.2.2.2.symm
          rw [decide_eq_false (p := l = m)]
          intro hlm
          obtain ⟨s1, s2, s3, -⟩ := HS.out
          subst hlm
          have := s1.symm.trans s2
          simp at this
          exact hne this
        · go_wp2_with fail
          go_roundw
          case rel =>
            refine ⟨i + 1, by go_num, by omega, ?_, HB7.out⟩
            obtain ⟨s1, s2, s3, s4⟩ := HS.out
            rw [s1, s2, s3, of_decide_eq_true s4.symm]
          case measure => simp [intOf]; omega
      · obtain rfl : i = n := by omega
        have t1 : decide ((i : Int) < (i : Int)) = false := decide_eq_false (by omega)
        have t1' : decide (i < i) = false := decide_eq_false (by omega)
        have heq : l = m := by
          rw [List.take_of_length_le (by rw [← HN.out.1]; exact Nat.le_refl _), List.take_of_length_le (by rw [← HN.out.2]; exact Nat.le_refl _)] at he; exact he
        have hres : R = true := by rw [HR.out]; exact decide_eq_true heq
        clear heq he
        subst hres
        go_wp2_with fail
        go_ret
        exact ⟨rfl, hb⟩
  · have tt : ((n : Int) != (k : Int)) = true := by rw [bne_iff_ne]; omega
    have tt' : (n != k) = true := by rw [bne_iff_ne]; omega
    have hres : R = false := by
      rw [HR.out]; refine decide_eq_false fun h => hnk ?_
      rw [HN.out.1, HN.out.2, h]
    subst hres
    go_wp2_with fail
    go_ret
    exact ⟨rfl, Below.refl _ _⟩
end Go.Proofs.YtponfkfeflnilaaGreatDoor
namespace Go.Proofs.YtponfkfeflnilaaGreatDoor
open Go.RowKit Go.ChangeShapes Go.WideShapes Go.Deep

section
variable {H : Type} {enc' : TypeId × Value → H} {w : World}

theorem plain_of_strR {w : World} {y : Addr} {z : ByteArray} (h : w.cell? y = some (.string z)) : ∃ b o, y = ⟨b, o, none⟩ := by
  obtain ⟨yb, yo, ys⟩ := y
  simp only [World.cell?] at h
  cases ys with
  | none => exact ⟨yb, yo, rfl⟩
  | some z => split at h <;> simp at h
theorem str_lenR (s : ByteArray) (w1 : s.size ≤ maxLen) : s.data.toList.length ≤ 9223372036854775807 := by
  have e : s.data.toList.length = s.size := Array.length_toList
  have e2 : maxLen = 9223372036854775807 := by decide
  rw [e]; rw [e2] at w1; exact w1

set_option maxRecDepth 100000 in
theorem open_refs {a : Option Addr} {len cap fuel : Nat} {x : DataW H × List MemPlace} (h : DataW.trod enc' Tryz.prog w 0 (fun _ => true) true fuel 25 (Value.slice a len cap).cells.toList = some x) :
    ∃ l : List RefP, l.length = len ∧ RsAt encP 21 w a cap l ∧ ∀ p ∈ l, p.name.length ≤ 9223372036854775807 := by
  rcases open_slice Tryz.underlying25 h with ⟨hcs, _⟩ | ⟨y, l, c, m, n, D, Pl, hcs, _, hl, hmx, hm, _, hi⟩
  · simp [Value.cells] at hcs
    obtain ⟨rfl, rfl, rfl⟩ := hcs
    exact ⟨[], rfl, RsAt.nil w, fun _ h => (by simp at h)⟩
  · simp [Value.cells] at hcs
    obtain ⟨rfl, rfl, rfl⟩ := hcs
    have hC : Tryz.prog.cellsOf 62 = 21 := by kernel_rfl
    have hC1 : Tryz.prog.cellsOf 9 = 1 := by kernel_rfl
    have hC2 : Tryz.prog.cellsOf 41 = 20 := by kernel_rfl
    have hml : len ≤ m := by rw [hm]; simp; exact hl
    have hbig : cap ≤ 9223372036854775807 := Nat.le_trans hmx (by decide)
    have key : ∀ i, ∃ p : RefP, i < len → p.name.length ≤ 9223372036854775807 ∧ ∀ j v, (encP p)[j]? = some v → w.cell? ((y.add (i * 21)).add j) = some v := by
      intro i
      by_cases hil : i < len
      · obtain ⟨cs', hc, ht⟩ := hi i (by omega)
        rw [hC] at hc
        obtain ⟨_, hcl, hat⟩ := World.cells?_some hc
        obtain ⟨y0, y1, k, -, -, h0, h1⟩ := trod_struct2 Tryz.underlying62 ht
        simp only [hC1, hC2] at h0 h1
        obtain ⟨s, e1, -, w1⟩ := DataW.trod_string Tryz.underlying9 h0
        obtain ⟨l2, hl2, e2⟩ := trod_bytes Tryz.underlying41 Tryz.underlying5 (by kernel_rfl) hC2 h1
        refine ⟨⟨s.data.toList, ⟨l2, hl2⟩⟩, fun _ => ⟨str_lenR s w1, fun j v hj => ?_⟩⟩
        have hjl : j < 21 := by have := (List.getElem?_eq_some_iff.1 hj).1; rw [encP_len] at this; exact this
        rw [hat j hjl]
        have ecs : cs' = [.string s] ++ bcells l2 := by
          have s3 : cs' = (cs'.drop 0).take 1 ++ (cs'.drop 1).take 20 := by
            rw [List.take_of_length_le (i := 20) (l := List.drop 1 cs') (by rw [List.length_drop]; omega), List.drop_zero, List.take_append_drop]
          rw [s3, e1, e2]
        have es : strOf s.data.toList = s := by cases s; simp [strOf]
        rw [ecs]
        have he : encP ⟨s.data.toList, ⟨l2, hl2⟩⟩ = [.string s] ++ bcells l2 := by unfold encP; rw [es]; rfl
        rw [he] at hj; exact hj
      · exact ⟨default, fun h => absurd h hil⟩
    obtain ⟨F, hF⟩ := Classical.axiomOfChoice key
    have gl : ((List.range len).map F).length = len := by rw [List.length_map, List.length_range]
    refine ⟨(List.range len).map F, gl, ⟨by rw [gl]; exact hl, hbig, (fun h => nomatch h), ?_⟩, fun p hp => ?_⟩
    · by_cases h0 : len = 0
      · subst h0; exact .inl rfl
      · have hp := plain_of_strR ((hF 0 (by omega)).2 0 _ rfl)
        obtain ⟨yb, yo, ys⟩ := y
        have hys : ys = none := by
          obtain ⟨b, o, e⟩ := hp
          revert e
          simp only [Addr.add]
          cases ys <;> simp
        subst hys
        refine .inr ⟨yb, yo, rfl, fun j hj k v hk => ?_⟩
        rw [gl] at hj
        have e1 : ((List.range len).map F)[j]! = F j := by
          rw [getElem!_pos _ j (by rw [gl]; exact hj)]; simp
        rw [e1] at hk
        have := (hF j hj).2 k v hk
        rw [Addr.add_mid, Addr.add_mid] at this
        exact this
    · obtain ⟨i, hi, rfl⟩ := List.mem_map.1 hp
      exact (hF i (List.mem_range.1 hi)).1
end
end Go.Proofs.YtponfkfeflnilaaGreatDoor
