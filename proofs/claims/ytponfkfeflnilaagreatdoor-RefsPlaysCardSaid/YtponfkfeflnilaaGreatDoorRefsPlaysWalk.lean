/-
  RefsPlays: the walk.
-/
import Derived.Test.YtponfkfeflnilaaGreatDoorRefsOthersWalk
import Derived.Test.YtponfkfeflnilaaGreatDoorMaPla
import Derived.Test.YtponfkfeflnilaaGreatDoorMaPlb
import Derived.Test.YtponfkfeflnilaaGreatDoorMaStD
import Derived.Deep.CutRange
import Derived.Deep.CutBlock
namespace Go.Proofs.YtponfkfeflnilaaGreatDoor
open Go.RowKit Go.Mix Go.WideMaps Go.Maps

theorem u64_modP (n : Int) (K : Nat) (h0 : 0 < K) (h1 : K ≤ 9223372036854775807) : ∃ m : Nat, m < K ∧ wrap64 ((IntKind.u64.wrap n).tmod K) = (m : Int) := by
  have hw : IntKind.u64.wrap n = n % 18446744073709551616 := IntKind.wrap_u64 n
  have h2 : 0 ≤ IntKind.u64.wrap n := by rw [hw]; omega
  refine ⟨((IntKind.u64.wrap n).tmod K).toNat, ?_, ?_⟩
  · have := Int.tmod_lt_of_pos (IntKind.u64.wrap n) (b := (K : Int)) (by omega)
    have h3 := Int.tmod_nonneg (K : Int) h2
    omega
  · have := Int.tmod_lt_of_pos (IntKind.u64.wrap n) (b := (K : Int)) (by omega)
    have h3 := Int.tmod_nonneg (K : Int) h2
    unfold wrap64
    omega
theorem setN_no {now : Refs} {name : Bytes} {id : Id20} (h : rightN name = false) : setN now name id = now ∧ setW now name = 1 := by
  unfold setN setW; rw [h]; exact ⟨rfl, rfl⟩
theorem setN_clash {now : Refs} {name : Bytes} {id : Id20} (h : rightN name = true) (hc : clashP now name = true) : setN now name id = now ∧ setW now name = 9 := by
  unfold setN setW; rw [h, hc]; exact ⟨rfl, rfl⟩
theorem setN_put {now : Refs} {name : Bytes} {id : Id20} (h : rightN name = true) (hc : clashP now name = false) : setN now name id = putP now name id ∧ setW now name = 0 := by
  unfold setN setW; rw [h, hc]; exact ⟨rfl, rfl⟩
theorem dropN_no {now : Refs} {name : Bytes} (h : rightN name = false) : dropN now name = now ∧ dropW now name = 1 := by
  unfold dropN dropW; rw [h]; exact ⟨rfl, rfl⟩
theorem dropN_none {now : Refs} {name : Bytes} (h : rightN name = true) (hc : getP now name = none) : dropN now name = now ∧ dropW now name = 6 := by
  unfold dropN dropW; rw [h, hc]; exact ⟨rfl, rfl⟩
theorem dropN_some {now : Refs} {name : Bytes} {i : Id20} (h : rightN name = true) (hc : getP now name = some i) : dropN now name = delP now name ∧ dropW now name = 0 := by
  unfold dropN dropW; rw [h, hc]; exact ⟨rfl, rfl⟩
theorem idx_at {L : Refs} {name : Bytes} : (getP L name = none ∧ idxN name L = -1) ∨ (∃ i, getP L name = some i) ∧ ∃ k : Nat, idxN name L = (k : Int) := by
  cases h : getP L name with
  | none =>
    refine .inl ⟨rfl, idxN_none fun k hk => ?_⟩
    have h1 := getP_none.1 h L[k]! (by rw [getElem!_pos L k hk]; exact List.getElem_mem hk)
    unfold hasN
    exact decide_eq_false h1
  | some i =>
    obtain ⟨k, -, h1, -⟩ := idxN_hit (name := name) (l := L) (by rw [any_get, h]; rfl)
    exact .inr ⟨⟨i, rfl⟩, k, h1⟩
theorem ints_blk {w : World} {a : Option Addr} {c : Nat} {l : List Int} (h : RsAt encI 1 w a c l) (hl : l ≠ []) : ∀ x, a = some x → x.block < w.heap.size := fun x hx => by
  rcases h.cells with h0 | ⟨b, o, e, hc⟩
  · exact absurd h0 hl
  · rw [e] at hx
    injection hx with hx
    subst hx
    have h0 := hc 0 (List.length_pos_iff.2 hl) 0 _ rfl
    exact lt_of_cell h0

set_option maxRecDepth 100000 in
set_option maxHeartbeats 64000000 in
theorem refsPlays_walk (a0 : Option Addr) (len0 cap0 : Nat) (l : List PA) (w : World) (hl0 : l.length = len0) (w0 : RsAt encQ 24 w a0 cap0 l) (x0 : ∀ p ∈ l, PAIs w p) (hm : MaxIs w) :
    Calls Tryz.prog 8 #[.slice a0 len0 cap0] w fun e w' => e = .returned (.bool true) ∧ Below w.heap.size w w' := by
  subst hl0
  obtain ⟨n, hn⟩ : ∃ n, n = l.length := ⟨_, rfl⟩
  obtain ⟨M, hM⟩ : ∃ M, M = min n 40 := ⟨_, rfl⟩
  have HH := Lib.hid (And.intro w0 (And.intro hn x0))
  have HM := Lib.hid (And.intro hm hm.lt)
  rw [← hn]
  have hM40 : M ≤ 40 := by omega
  obtain ⟨Z0, hZ0⟩ : ∃ Z, Z = idA id0 := ⟨_, rfl⟩
  have z : ∀ w, (zeroValue 42).run Tryz.prog w = .ok (.agg Z0) w := fun w => by rw [hZ0]; kernel_rfl
  have HZ := Lib.hid hZ0
  obtain ⟨ZA, hZA⟩ : ∃ Z, Z = recA encQ pa0 := ⟨_, rfl⟩
  have zA : ∀ w, (zeroValue 72).run Tryz.prog w = .ok (.agg ZA) w := fun w => by rw [hZA]; kernel_rfl
  have HZA := Lib.hid (show ZA.size = 24 by rw [hZA]; simp [recA, encQ_len])
  clear hn w0 x0 hm hZ0 hZA
  go_enter Tryz.func8, Tryz.ntmps8
  go_wp2_with fail
  refine (new_live 1048576 w).mono ?_
  rintro e w1 ⟨p, own0, rfl, l1⟩
  have H1 := Lib.hid l1
  clear l1
  go_wp2_with fail
  go_loopw [4, 5, 6, 7, 8, 9, 10, 11, 12, 13, 14, 15, 16, 17, 18, 19] (fun s4 s5 s6 s7 _ _ _ _ _ _ _ _ _ _ _ _ wr => ∃ (i : Nat) (own : Owns) (S : StP) (now : Refs) (head : Bytes) (dn : Bool) (a : Option Addr) (c nn : Nat) (hd0 : ByteArray), s4 = .slice a nn c ∧ s5 = .string hd0 ∧ s6 = .bool dn ∧ s7 = .int .i64 (i : Int) ∧ i ≤ M ∧ nn = now.length ∧ hd0 = strOf head ∧ PlayI i S now head dn ∧ RsO own wr a c now ∧ Live w.heap.size w own wr p S) (fun _ _ _ s7 _ _ _ _ _ _ _ _ _ _ _ _ _ => M - (intOf s7).toNat)
  case atStart => exact ⟨0, own0, newS 1048576, [], [], false, none, 0, 0, _, rfl, rfl, rfl, rfl, Nat.zero_le _, rfl, rfl, play_new, ⟨RsAt.nil _, fun _ h => (by cases h)⟩, H1.out⟩
  case round =>
    obtain ⟨i, own, S, now, head, dn, a, c, nn, hd0, rfl, rfl, rfl, rfl, hi, hnn, hhd0, hpl, hrs, hlv⟩ := hrel
    have HP := Lib.hid (And.intro hpl (And.intro hrs (And.intro hlv (And.intro hnn hhd0))))
    clear hpl hrs hlv hnn hhd0
    by_cases him : i < M
    · have t1 : decide ((i : Int) < (n : Int)) = true := decide_eq_true (by omega)
      have t1' : decide (i < n) = true := decide_eq_true (by omega)
      have t2 : decide ((i : Int) < 40) = true := decide_eq_true (by omega)
      have t2' : decide (i < 40) = true := decide_eq_true (by omega)
      have hil : i < l.length := by rw [← HH.out.2.1]; omega
      obtain ⟨b, q, IX, -, LD⟩ := (HH.out.1.below HP.out.2.2.1.frame).at tyQ (i : Int) i rfl hil
      rw [← HH.out.2.1] at IX
      have hxi := HH.out.2.2 l[i]! (by rw [getElem!_pos l i hil]; exact List.getElem_mem hil)
      have LD0 := LD wr (Below.refl _ _)
      obtain ⟨x, hx⟩ : ∃ x, x = l[i]! := ⟨_, rfl⟩
      rw [← hx] at LD0 hxi
      have hzb : (wr.alloc (.cells ZA 72)).heap[wr.heap.size]? = some (.cells ZA 72 (0, 0)) := heap_alloc_last _ _ _ rfl
      have zs : ZA.size = (recA encQ x).size := by rw [HZA.out]; simp [recA, encQ_len]
      have zi : (Tryz.prog.info? 72).map (·.size) = some (recA encQ x).size := by rw [show (recA encQ x).size = 24 by simp [recA, encQ_len]]; exact tyQ.ie
      have z1 : (recA encQ x).all (·.oneCell') = true := all_oneCell_toArray (encQ_one _)
      have hbx : ((wr.alloc (.cells ZA 72)).setRow wr.heap.size (recA encQ x)).heap[wr.heap.size]? = some (.cells (recA encQ x) 72 (0, 0)) := setRow_heap _ _ _ _ _ _ hzb
      have gA : Below wr.heap.size wr ((wr.alloc (.cells ZA 72)).setRow wr.heap.size (recA encQ x)) := below_setRow ((Below.refl _ _).alloc (Nat.le_refl _) _) (Nat.le_refl _) _
      have hnoG : own wr.heap.size = none := HP.out.2.2.1.not_new (Nat.le_refl _)
      have HA := Lib.hid (And.intro hbx (And.intro gA (And.intro hnoG (Nat.le_refl wr.heap.size))))
      obtain ⟨XV, hXV⟩ : ∃ X, X = recA encQ x := ⟨_, rfl⟩
      rw [← hXV] at LD0 HA zs zi z1
      have HXI := Lib.hid (And.intro hxi hXV)
      clear LD hx hil hbx gA hnoG hxi hXV
      go_upto_region 9 with (first | (refine wpList_load_at rfl _ _ rfl _ _ rfl LD0 ?_) | (refine wpList_store_row rfl 72 _ _ rfl wr.heap.size XV rfl rfl 72 ZA hzb zi zs z1 ?_))
      clear LD0 IX hzb zs zi z1
      obtain ⟨G, hG⟩ : ∃ G, G = wr.heap.size := ⟨_, rfl⟩
      obtain ⟨wA, hwA⟩ : ∃ u, u = (wr.alloc (.cells ZA 72)).setRow wr.heap.size XV := ⟨_, rfl⟩
      rw [← hwA] at HA ⊢
      rw [← hG] at HA ⊢
      have hGle : wr.heap.size ≤ G := Nat.le_of_eq hG.symm
      have HGL := Lib.hid hGle
      have hbx := HA.out.1
      rw [HXI.out.2] at hbx
      obtain ⟨-, c1, -, -, -⟩ := pa_cells (recBoxQ hbx)
      have f1 := free_blk hbx 1
      obtain ⟨pl, hpl⟩ : ∃ p, p = x.name.length := ⟨_, rfl⟩
      obtain ⟨k, hk⟩ : ∃ k, k = min pl 250 := ⟨_, rfl⟩
      have M1 := min_run (pl : Int) 250 k (by split <;> omega)
      have S1 := str_to Tryz.underlying9 x.name (i := k) (by omega)
      have zsz : (strOf x.name).size = pl := by rw [strOf_size, hpl]
      obtain ⟨nm, hnm⟩ : ∃ m, m = x.name.take k := ⟨_, rfl⟩
      have hnl : nm.length ≤ 250 := by rw [hnm, List.length_take]; omega
      rw [← hnm] at S1
      have hbx2 := Go.heap_setCell_same wA G 1 _ _ (.string (strOf nm)) hbx
      rw [setName x nm] at hbx2
      have gB := (below_setCell HA.out.2.1 (Nat.le_refl G) (k := 1) (.string (strOf nm))).mono hGle
      obtain ⟨NM, hNM⟩ : ∃ N, N = strOf nm := ⟨_, rfl⟩
      rw [← hNM] at S1 hbx2 gB
      simp only [Nat.zero_add] at c1
      have HB0 := Lib.hid (And.intro hbx2 gB)
      have HNM := Lib.hid (And.intro hNM hnl)
      clear hG hwA hGle hbx hbx2 gB hpl hk hnm hNM hnl
      generalize strOf x.name = XN at *
      go_upto_region 10 with (first | (refine wpList_slice_at rfl _ _ _ _ _ rfl _ _ _ _ _ rfl rfl rfl rfl (S1 _) ?_))
      clear c1 f1 M1 S1 zsz
      generalize wA.setCell ⟨G, 1, none⟩ (.string NM) = wB at *
      obtain ⟨y, hy⟩ : ∃ y : PA, y = { x with name := nm } := ⟨_, rfl⟩
      have hbx2 := HB0.out.1
      rw [← hy] at hbx2
      have HB := Lib.hid (And.intro (HP.out.2.2.1.below HB0.out.2) (And.intro (HP.out.2.1.below HB0.out.2) (show BxO own wB G (recA encQ y) 72 from ⟨hbx2, HA.out.2.2.1⟩)))
      obtain ⟨c0, c1, cid, c22, c23⟩ := pa_cells (recBoxQ hbx2)
      simp only [Nat.zero_add] at c0 c1 cid c22 c23
      have e1 : y.name = nm := by rw [hy]
      have e2 : y.kind = x.kind ∧ y.id = x.id ∧ y.num = x.num ∧ y.ka = x.ka ∧ y.kn = x.kn ∧ y.kc = x.kc := by rw [hy]; exact ⟨rfl, rfl, rfl, rfl, rfl, rfl⟩
      rw [e1, ← HNM.out.1] at c1
      rw [e2.1] at c0
      rw [e2.2.1] at cid
      rw [e2.2.2.1] at c22
      rw [e2.2.2.2.1, e2.2.2.2.2.1, e2.2.2.2.2.2] at c23
      have HCid := Lib.hid cid
      clear hbx2 HB0 HA hy e1 e2 cid
      have CF := refFind_any (name := nm) HB.out.2.1.at_ (by have := HP.out.1.len; omega)
      rw [← HP.out.2.2.2.1, ← HNM.out.1] at CF
      obtain ⟨AT, hAT⟩ : ∃ A, A = idxN nm now := ⟨_, rfl⟩
      rw [← hAT] at CF
      have HAT := Lib.hid hAT
      obtain ⟨k6, hk6, ek⟩ := u64_modP x.kind 6 (by decide) (by decide)
      change wrap64 ((IntKind.u64.wrap x.kind).tmod 6) = _ at ek
      obtain ⟨kk, hkk⟩ : ∃ z : Int, z = (k6 : Int) := ⟨_, rfl⟩
      rw [← hkk] at ek
      have HKK := Lib.hid (And.intro hk6 hkk)
      clear hk6 hkk
      obtain ⟨kd, hkd⟩ : ∃ k, k = x.kind := ⟨_, rfl⟩
      rw [← hkd] at c0 ek
      obtain ⟨nu, hnu⟩ : ∃ k, k = x.num := ⟨_, rfl⟩
      rw [← hnu] at c22
      clear hAT hkd hnu
      go_wp2_with fail
      refine CF.mono ?_
      clear CF
      rintro e wF ⟨rfl, rfl⟩
      have hshort := HP.out.1.short (by omega)
      have hWf : ∀ r ∈ now, WfP r := fun r hr => by have := (hshort.2 r hr).2; exact Nat.le_trans this (by decide)
      have HSH := Lib.hid (And.intro hshort hWf)
      clear hshort hWf
      go_upto_block 2 with (fail)
      simp only [ek]
      go_cut [6, 9, 10, 11, 14] from 21 to 194 (fun s6 s9 s10 s11 s14 wc => ∃ (own' : Owns) (S' : StP) (next : Refs) (want : Int) (nh : Bytes) (dn' : Bool) (an : Option Addr) (cn nx : Nat) (sh : ByteArray) (e : Int), s6 = .bool dn' ∧ s9 = .slice an nx cn ∧ s10 = .int .i64 want ∧ s11 = .string sh ∧ s14 = .int .i64 e ∧ nx = next.length ∧ sh = strOf nh ∧ StepO i now head (S', e) next want nh dn' ∧ RsO own' wc an cn next ∧ RsO own' wc a c now ∧ Live w.heap.size w own' wc p S' ∧ ∀ r ∈ next, WfP r)
      case first =>
        have hk7 : kk = 0 ∨ kk = 1 ∨ kk = 2 ∨ kk = 3 ∨ kk = 4 ∨ kk = 5 := by have h1 := HKK.out.1; have h2 := HKK.out.2; omega
        clear ek c0 HKK
        rcases hk7 with rfl | rfl | rfl | rfl | rfl | rfl
        · as_aux_lemma =>
            have CR := refRightN_any nm (by have := HNM.out.2; omega) wF
            obtain ⟨rr, hrr⟩ : ∃ r, r = rightN nm := ⟨_, rfl⟩
            rw [← hrr, ← HNM.out.1] at CR
            have HRR := Lib.hid hrr
            clear hrr
            go_wp2_with fail
            refine CR.mono ?_
            clear CR
            rintro e wG ⟨rfl, rfl⟩
            cases rr
            · have LI := load_id arrG (by kernel_rfl) x.id G 2 wG (rangeR_below HCid.out (Below.refl _ _))
              have CS := Set_any HB.out.1.at_ (front := []) (HP.out.1.base.refs (by omega)) (HB.out.1.max HM.out.1 HM.out.2).is (by decide) nm (by have := HNM.out.2; omega) x.id
              change Calls _ _ #[ptr p, .string ⟨#[]⟩, .string (strOf nm), _] wG (fun e w' => Left own wG p (setK S [] nm x.id) e w') at CS
              rw [← HNM.out.1] at CS
              have hst := step_set HP.out.1 (by omega) nm x.id
              rw [(setN_no (id := x.id) HRR.out.symm).1, (setN_no (id := x.id) HRR.out.symm).2] at hst
              have HST := Lib.hid hst
              obtain ⟨IDV, hIDV⟩ : ∃ V, V = idA x.id := ⟨_, rfl⟩
              rw [← hIDV] at LI CS
              obtain ⟨r, hr⟩ : ∃ r, r = setK S [] nm x.id := ⟨_, rfl⟩
              rw [← hr] at HST CS
              clear hst hr hIDV
              go_wp2_with (refine wpList_load_at rfl _ _ rfl _ _ rfl LI ?_)
              refine CS.mono ?_
              clear CS LI
              rintro e w5 ⟨rfl, own5, hst5, ht5⟩
              have H5 := Lib.hid (And.intro (HB.out.1.turn hst5 ht5) (And.intro (HB.out.2.1.turn ht5) (HB.out.2.1.turn ht5)))
              clear hst5 ht5
              go_wp2_with fail
              go_meet
              exact ⟨own5, r.1, _, _, head, dn, a, c, nn, hd0, r.2, rfl, rfl, rfl, rfl, rfl, HP.out.2.2.2.1, HP.out.2.2.2.2, HST.out, H5.out.2.2, H5.out.2.1, H5.out.1, HSH.out.2⟩
            · have CC := clash_any (name := nm) HB.out.2.1.at_ (by have := HP.out.1.len; omega) (by have := HNM.out.2; omega) (fun r hr => HSH.out.2 r hr)
              rw [← HP.out.2.2.2.1, ← HNM.out.1] at CC
              obtain ⟨cc, hcc⟩ : ∃ r, r = clashP now nm := ⟨_, rfl⟩
              rw [← hcc] at CC
              have HCC := Lib.hid hcc
              clear hcc
              go_wp2_with fail
              refine CC.mono ?_
              clear CC
              rintro e wH ⟨rfl, rfl⟩
              cases cc
              · have LI0 := load_id arrG (by kernel_rfl) x.id G 2 wH HCid.out
                have BD := fun W : World => buildD nm x.id W
                have CP := putW_any ⟨nm, x.id⟩ HB.out.2.1.at_ (by have := HP.out.1.len; omega)
                rw [putD_eq HSH.out.1.1, ← HP.out.2.2.2.1] at CP
                rw [← HNM.out.1] at BD
                obtain ⟨IDV, hIDV⟩ : ∃ V, V = idA x.id := ⟨_, rfl⟩
                rw [← hIDV] at LI0 BD
                obtain ⟨RV, hRV⟩ : ∃ R, R = recA encP ⟨nm, x.id⟩ := ⟨_, rfl⟩
                rw [← hRV] at CP BD
                clear hIDV hRV
                go_wp2_with (first | (refine wpList_load_at rfl _ _ rfl _ _ rfl LI0 ?_) | (refine wpList_build_at rfl _ _ rfl [(0, .string NM), (1, .agg IDV)] _ rfl (BD _) ?_))
                refine CP.mono ?_
                clear CP LI0 BD
                rintro e wP ⟨vP, rfl, ho⟩
                obtain ⟨an, cn, rfl, rn⟩ := ho.rso (own := own) tyD (fun k hk => HB.out.1.not_new hk)
                have HBP := Lib.hid (And.intro (HB.out.1.below ho.frame) (And.intro (HB.out.2.1.below ho.frame) (And.intro rn (And.intro ho.frame (blockR_below HB.out.2.2.box ho.frame)))))
                clear ho rn
                obtain ⟨nx, hnx⟩ : ∃ n, n = (putP now nm x.id).length := ⟨_, rfl⟩
                rw [← hnx]
                have HNX := Lib.hid hnx
                have c1P : wP.cell? ⟨G, 1, none⟩ = some (.string NM) := (HBP.out.2.2.2.1.cell (lt_of_cell c1)).trans c1
                clear hnx
                have LI := load_id arrG (by kernel_rfl) x.id G 2 wP (rangeR_below HCid.out HBP.out.2.2.2.1)
                have CS := Set_any HBP.out.1.at_ (front := []) (HP.out.1.base.refs (by omega)) (HBP.out.1.max HM.out.1 HM.out.2).is (by decide) nm (by have := HNM.out.2; omega) x.id
                change Calls _ _ #[ptr p, .string ⟨#[]⟩, .string (strOf nm), _] wP (fun e w' => Left own wP p (setK S [] nm x.id) e w') at CS
                rw [← HNM.out.1] at CS
                have hst := step_set HP.out.1 (by omega) nm x.id
                rw [(setN_put (id := x.id) HRR.out.symm HCC.out.symm).1, (setN_put (id := x.id) HRR.out.symm HCC.out.symm).2] at hst
                have HST := Lib.hid hst
                obtain ⟨IDV, hIDV⟩ : ∃ V, V = idA x.id := ⟨_, rfl⟩
                rw [← hIDV] at LI CS
                obtain ⟨r, hr⟩ : ∃ r, r = setK S [] nm x.id := ⟨_, rfl⟩
                rw [← hr] at HST CS
                clear hst hr hIDV
                go_wp2_with (refine wpList_load_at rfl _ _ rfl _ _ rfl LI ?_)
                refine CS.mono ?_
                clear CS LI
                rintro e w5 ⟨rfl, own5, hst5, ht5⟩
                have H5 := Lib.hid (And.intro (HBP.out.1.turn hst5 ht5) (And.intro (HBP.out.2.1.turn ht5) (HBP.out.2.2.1.turn ht5)))
                clear hst5 ht5
                go_wp2_with fail
                go_meet
                exact ⟨own5, r.1, _, _, head, dn, an, cn, nx, hd0, r.2, rfl, rfl, rfl, rfl, rfl, HNX.out, HP.out.2.2.2.2, HST.out, H5.out.2.2, H5.out.2.1, H5.out.1, fun r hr => by rcases mem_putP hr with rfl | hr; exact Nat.le_trans HNM.out.2 (by decide); exact HSH.out.2 r hr⟩
              · have LI := load_id arrG (by kernel_rfl) x.id G 2 wH (rangeR_below HCid.out (Below.refl _ _))
                have CS := Set_any HB.out.1.at_ (front := []) (HP.out.1.base.refs (by omega)) (HB.out.1.max HM.out.1 HM.out.2).is (by decide) nm (by have := HNM.out.2; omega) x.id
                change Calls _ _ #[ptr p, .string ⟨#[]⟩, .string (strOf nm), _] wH (fun e w' => Left own wH p (setK S [] nm x.id) e w') at CS
                rw [← HNM.out.1] at CS
                have hst := step_set HP.out.1 (by omega) nm x.id
                rw [(setN_clash (id := x.id) HRR.out.symm HCC.out.symm).1, (setN_clash (id := x.id) HRR.out.symm HCC.out.symm).2] at hst
                have HST := Lib.hid hst
                obtain ⟨IDV, hIDV⟩ : ∃ V, V = idA x.id := ⟨_, rfl⟩
                rw [← hIDV] at LI CS
                obtain ⟨r, hr⟩ : ∃ r, r = setK S [] nm x.id := ⟨_, rfl⟩
                rw [← hr] at HST CS
                clear hst hr hIDV
                go_wp2_with (refine wpList_load_at rfl _ _ rfl _ _ rfl LI ?_)
                refine CS.mono ?_
                clear CS LI
                rintro e w5 ⟨rfl, own5, hst5, ht5⟩
                have H5 := Lib.hid (And.intro (HB.out.1.turn hst5 ht5) (And.intro (HB.out.2.1.turn ht5) (HB.out.2.1.turn ht5)))
                clear hst5 ht5
                go_wp2_with fail
                go_meet
                exact ⟨own5, r.1, _, _, head, dn, a, c, nn, hd0, r.2, rfl, rfl, rfl, rfl, rfl, HP.out.2.2.2.1, HP.out.2.2.2.2, HST.out, H5.out.2.2, H5.out.2.1, H5.out.1, HSH.out.2⟩
        · as_aux_lemma =>
            have CR := refRightN_any nm (by have := HNM.out.2; omega) wF
            obtain ⟨rr, hrr⟩ : ∃ r, r = rightN nm := ⟨_, rfl⟩
            rw [← hrr, ← HNM.out.1] at CR
            have HRR := Lib.hid hrr
            clear hrr
            go_wp2_with fail
            refine CR.mono ?_
            clear CR
            rintro e wG ⟨rfl, rfl⟩
            cases rr
            · have hst := step_drop HP.out.1 (by omega) nm
              rw [(dropN_no (now := now) HRR.out.symm).1, (dropN_no (now := now) HRR.out.symm).2] at hst
              have CS := Drop_any HB.out.1.at_ (front := []) (HP.out.1.base.refs (by omega)) (HB.out.1.max HM.out.1 HM.out.2) (by decide) nm (by have := HNM.out.2; omega)
              change Calls _ _ #[ptr p, .string ⟨#[]⟩, .string (strOf nm)] wG (fun e w' => Left own wG p (dropS S [] nm) e w') at CS
              rw [← HNM.out.1] at CS
              have HST := Lib.hid hst
              clear hst
              obtain ⟨r, hr⟩ : ∃ r, r = dropS S [] nm := ⟨_, rfl⟩
              rw [← hr] at HST CS
              clear hr
              go_wp2_with fail
              refine CS.mono ?_
              clear CS
              rintro e w5 ⟨rfl, own5, hst5, ht5⟩
              have H5 := Lib.hid (And.intro (HB.out.1.turn hst5 ht5) (And.intro (HB.out.2.1.turn ht5) (HB.out.2.1.turn ht5)))
              clear hst5 ht5
              go_wp2_with fail
              go_meet
              exact ⟨own5, r.1, _, _, head, dn, a, c, nn, hd0, r.2, rfl, rfl, rfl, rfl, rfl, HP.out.2.2.2.1, HP.out.2.2.2.2, HST.out, H5.out.2.2, H5.out.2.1, H5.out.1, HSH.out.2⟩
            · rcases idx_at (L := now) (name := nm) with ⟨hg, hix⟩ | ⟨⟨j0, hg⟩, kx, hix⟩
              · have hAT2 : AT = -1 := HAT.out.trans hix
                have tA : decide (AT < 0) = true := decide_eq_true (by omega)
                have HGN := Lib.hid hg
                clear hg hix hAT2
                have hst := step_drop HP.out.1 (by omega) nm
                rw [(dropN_none HRR.out.symm HGN.out).1, (dropN_none HRR.out.symm HGN.out).2] at hst
                have CS := Drop_any HB.out.1.at_ (front := []) (HP.out.1.base.refs (by omega)) (HB.out.1.max HM.out.1 HM.out.2) (by decide) nm (by have := HNM.out.2; omega)
                change Calls _ _ #[ptr p, .string ⟨#[]⟩, .string (strOf nm)] wG (fun e w' => Left own wG p (dropS S [] nm) e w') at CS
                rw [← HNM.out.1] at CS
                have HST := Lib.hid hst
                clear hst
                obtain ⟨r, hr⟩ : ∃ r, r = dropS S [] nm := ⟨_, rfl⟩
                rw [← hr] at HST CS
                clear hr
                go_wp2_with fail
                refine CS.mono ?_
                clear CS
                rintro e w5 ⟨rfl, own5, hst5, ht5⟩
                have H5 := Lib.hid (And.intro (HB.out.1.turn hst5 ht5) (And.intro (HB.out.2.1.turn ht5) (HB.out.2.1.turn ht5)))
                clear hst5 ht5
                go_wp2_with fail
                go_meet
                exact ⟨own5, r.1, _, _, head, dn, a, c, nn, hd0, r.2, rfl, rfl, rfl, rfl, rfl, HP.out.2.2.2.1, HP.out.2.2.2.2, HST.out, H5.out.2.2, H5.out.2.1, H5.out.1, HSH.out.2⟩
              · have hAT2 : AT = (kx : Int) := HAT.out.trans hix
                have tA : decide (AT < 0) = false := decide_eq_false (by omega)
                have HGN := Lib.hid hg
                have CL := refLess_any (name := nm) HB.out.2.1.at_ (by have := HP.out.1.len; omega)
                rw [← HP.out.2.2.2.1, ← HNM.out.1] at CL
                clear hg hix hAT2
                go_wp2_with fail
                refine CL.mono ?_
                clear CL
                rintro e wP ⟨vP, rfl, ho⟩
                rw [filter_del] at ho
                obtain ⟨an, cn, rfl, rn⟩ := ho.rso (own := own) tyD (fun k hk => HB.out.1.not_new hk)
                have HBP := Lib.hid (And.intro (HB.out.1.below ho.frame) (And.intro (HB.out.2.1.below ho.frame) rn))
                have c1P : wP.cell? ⟨G, 1, none⟩ = some (.string NM) := (ho.frame.cell (lt_of_cell c1)).trans c1
                clear ho rn
                obtain ⟨nx, hnx⟩ : ∃ n, n = (delP now nm).length := ⟨_, rfl⟩
                rw [← hnx]
                have HNX := Lib.hid hnx
                clear hnx
                have hst := step_drop HP.out.1 (by omega) nm
                rw [(dropN_some HRR.out.symm HGN.out).1, (dropN_some HRR.out.symm HGN.out).2] at hst
                have CS := Drop_any HBP.out.1.at_ (front := []) (HP.out.1.base.refs (by omega)) (HBP.out.1.max HM.out.1 HM.out.2) (by decide) nm (by have := HNM.out.2; omega)
                change Calls _ _ #[ptr p, .string ⟨#[]⟩, .string (strOf nm)] wP (fun e w' => Left own wP p (dropS S [] nm) e w') at CS
                rw [← HNM.out.1] at CS
                have HST := Lib.hid hst
                clear hst
                obtain ⟨r, hr⟩ : ∃ r, r = dropS S [] nm := ⟨_, rfl⟩
                rw [← hr] at HST CS
                clear hr
                go_wp2_with fail
                refine CS.mono ?_
                clear CS
                rintro e w5 ⟨rfl, own5, hst5, ht5⟩
                have H5 := Lib.hid (And.intro (HBP.out.1.turn hst5 ht5) (And.intro (HBP.out.2.1.turn ht5) (HBP.out.2.2.turn ht5)))
                clear hst5 ht5
                go_wp2_with fail
                go_meet
                exact ⟨own5, r.1, _, _, head, dn, an, cn, nx, hd0, r.2, rfl, rfl, rfl, rfl, rfl, HNX.out, HP.out.2.2.2.2, HST.out, H5.out.2.2, H5.out.2.1, H5.out.1, fun r hr => HSH.out.2 r (List.mem_filter.1 hr).1⟩
        · as_aux_lemma =>
            have hst := step_pack HP.out.1 (by omega)
            have CS := Pack_any (Z1 := (i + 1) * 10010) HB.out.1.at_ (front := []) (HP.out.1.base.refs (by omega)) (HB.out.1.max HM.out.1 HM.out.2) (by decide) (fun L hL => by
              have hL2 : allK S [] = some L := hL
              rw [HP.out.1.all] at hL2
              injection hL2 with hL2
              subst hL2
              exact (HP.out.1.base.lay (by omega) (name := packedT) (b := textP now) (by decide) (by decide) (.inr (.inl rfl)) (text_small HP.out.1 (by omega)) (HP.out.1.freeH (.inr rfl))).1.refs (by omega))
            change Calls _ _ #[ptr p, .string ⟨#[]⟩] wF (fun e w' => Left own wF p (packS S []) e w') at CS
            have HST := Lib.hid hst
            clear hst
            obtain ⟨r, hr⟩ : ∃ r, r = packS S [] := ⟨_, rfl⟩
            rw [← hr] at HST CS
            clear hr
            go_wp2_with fail
            refine CS.mono ?_
            clear CS
            rintro e w5 ⟨rfl, own5, hst5, ht5⟩
            have H5 := Lib.hid (And.intro (HB.out.1.turn hst5 ht5) (And.intro (HB.out.2.1.turn ht5) (HB.out.2.1.turn ht5)))
            clear hst5 ht5
            go_wp2_with fail
            go_meet
            exact ⟨own5, r.1, _, _, head, dn, a, c, nn, hd0, r.2, rfl, rfl, rfl, rfl, rfl, HP.out.2.2.2.1, HP.out.2.2.2.2, HST.out, H5.out.2.2, H5.out.2.1, H5.out.1, HSH.out.2⟩
        · as_aux_lemma =>
            have CR := refRightN_any nm (by have := HNM.out.2; omega) wF
            obtain ⟨rr, hrr⟩ : ∃ r, r = rightN nm := ⟨_, rfl⟩
            rw [← hrr, ← HNM.out.1] at CR
            have HRR := Lib.hid hrr
            clear hrr
            go_wp2_with fail
            refine CR.mono ?_
            clear CR
            rintro e wG ⟨rfl, rfl⟩
            cases rr
            · have hst := step_head HP.out.1 (by omega) nm
              rw [show headN head nm = head by unfold headN; rw [← HRR.out]; rfl, show headW nm = 1 by unfold headW; rw [← HRR.out]; rfl] at hst
              have CS := SetHead_any HB.out.1.at_ (front := []) HP.out.1.base.ok (by omega) (HB.out.1.max HM.out.1 HM.out.2).is (by decide) nm (by have := HNM.out.2; omega)
              change Calls _ _ #[ptr p, .string ⟨#[]⟩, .string (strOf nm)] wG (fun e w' => Left own wG p (setHeadS S [] nm) e w') at CS
              rw [← HNM.out.1] at CS
              have HST := Lib.hid hst
              clear hst
              obtain ⟨r, hr⟩ : ∃ r, r = setHeadS S [] nm := ⟨_, rfl⟩
              rw [← hr] at HST CS
              clear hr
              go_wp2_with fail
              refine CS.mono ?_
              clear CS
              rintro e w5 ⟨rfl, own5, hst5, ht5⟩
              have H5 := Lib.hid (And.intro (HB.out.1.turn hst5 ht5) (And.intro (HB.out.2.1.turn ht5) (HB.out.2.1.turn ht5)))
              clear hst5 ht5
              go_wp2_with fail
              go_meet
              exact ⟨own5, r.1, _, _, head, dn, a, c, nn, hd0, r.2, rfl, rfl, rfl, rfl, rfl, HP.out.2.2.2.1, HP.out.2.2.2.2, HST.out, H5.out.2.2, H5.out.2.1, H5.out.1, HSH.out.2⟩
            · have hst := step_head HP.out.1 (by omega) nm
              rw [show headN head nm = nm by unfold headN; rw [← HRR.out]; rfl, show headW nm = 0 by unfold headW; rw [← HRR.out]; rfl] at hst
              have CS := SetHead_any HB.out.1.at_ (front := []) HP.out.1.base.ok (by omega) (HB.out.1.max HM.out.1 HM.out.2).is (by decide) nm (by have := HNM.out.2; omega)
              change Calls _ _ #[ptr p, .string ⟨#[]⟩, .string (strOf nm)] wG (fun e w' => Left own wG p (setHeadS S [] nm) e w') at CS
              rw [← HNM.out.1] at CS
              have HST := Lib.hid hst
              clear hst
              obtain ⟨r, hr⟩ : ∃ r, r = setHeadS S [] nm := ⟨_, rfl⟩
              rw [← hr] at HST CS
              clear hr
              go_wp2_with fail
              refine CS.mono ?_
              clear CS
              rintro e w5 ⟨rfl, own5, hst5, ht5⟩
              have H5 := Lib.hid (And.intro (HB.out.1.turn hst5 ht5) (And.intro (HB.out.2.1.turn ht5) (HB.out.2.1.turn ht5)))
              clear hst5 ht5
              go_wp2_with fail
              go_meet
              exact ⟨own5, r.1, _, _, nm, dn, a, c, nn, NM, r.2, rfl, rfl, rfl, rfl, rfl, HP.out.2.2.2.1, HNM.out.1, HST.out, H5.out.2.2, H5.out.2.1, H5.out.1, HSH.out.2⟩
        · as_aux_lemma =>
            obtain ⟨k12, hk12, ek2⟩ := u64_modP nu 12 (by decide) (by decide)
            change wrap64 ((IntKind.u64.wrap nu).tmod 12) = _ at ek2
            obtain ⟨q1, hq1⟩ : ∃ q : Int, q = 1 + (k12 : Int) := ⟨_, rfl⟩
            have wA1 : IntKind.i64.wrap (1 + (k12 : Int)) = q1 := by rw [IntKind.wrap_i64]; omega
            have CS := arm_at HB.out.1.at_ q1
            have HST := Lib.hid (step_arm HP.out.1 q1 (by omega))
            clear hq1
            go_wp2_with fail
            refine CS.mono ?_
            clear CS wA1 ek2
            rintro e w5 ⟨rfl, own5, hst5, ht5⟩
            have H5 := Lib.hid (And.intro (HB.out.1.turn hst5 ht5) (HB.out.2.1.turn ht5))
            clear hst5 ht5
            go_wp2_with fail
            go_meet
            exact ⟨own5, armS S q1, now, 0, head, true, a, c, nn, hd0, 0, rfl, rfl, rfl, rfl, rfl, HP.out.2.2.2.1, HP.out.2.2.2.2, .inl ⟨rfl, HST.out⟩, H5.out.2, H5.out.2, H5.out.1, HSH.out.2⟩
        · as_aux_lemma =>
            obtain ⟨K, hK, hrK⟩ := HXI.out.1.keep
            have hrK2 := hrK.below HB.out.1.frame
            obtain ⟨j, hj⟩ : ∃ j, j = min K.length 20 := ⟨_, rfl⟩
            have MR := min_run (x.kn : Int) 20 j (by rw [hK]; split <;> omega)
            have SK := hrK2.to1 tyI (j := j) (by omega) (j : Int) rfl
            rw [← hK] at SK
            have hjl : j = (K.take j).length := by rw [List.length_take]; omega
            have CS := crash_at2 HB.out.1.at_ HP.out.1.base.ok (by omega) (hrK2.take j) hjl (by omega) (fun hne y hy => HB.out.1.not_old (ints_blk (hrK.take j) hne y hy))
            have HST := Lib.hid (step_crash HP.out.1 (K.take j))
            obtain ⟨SC, hSC⟩ : ∃ T, T = crashS S (K.take j) := ⟨_, rfl⟩
            rw [← hSC] at HST CS
            generalize x.ka = ka at *
            generalize x.kc = kc at *
            generalize x.kn = kn at *
            clear hK hrK hrK2 hj hjl hSC
            go_wp2_with fail
            refine CS.mono ?_
            clear CS MR SK
            rintro e w5 ⟨rfl, own5, hst5, ht5⟩
            have H5 := Lib.hid (And.intro (HB.out.1.turn hst5 ht5) (HB.out.2.1.turn ht5))
            clear hst5 ht5
            go_wp2_with fail
            go_meet
            exact ⟨own5, SC, now, 0, head, false, a, c, nn, hd0, 0, rfl, rfl, rfl, rfl, rfl, HP.out.2.2.2.1, HP.out.2.2.2.2, .inl ⟨rfl, HST.out⟩, H5.out.2, H5.out.2, H5.out.1, HSH.out.2⟩
      case rest =>
        obtain ⟨own', S', next, want, nh, dn', an, cn, nx, sh, e, rfl, rfl, rfl, rfl, rfl, hnx, hsh, hstep, hrn, hro, hlv2, hwn⟩ := hcut
        have HWN := Lib.hid hwn
        have HQ := Lib.hid (And.intro hnx hsh)
        clear hwn hnx hsh
        clear ek c0 c1 c22 c23
        rcases hstep with ⟨he, hp⟩ | ⟨he, hw, hd, now', head', hn', hh', hp⟩
        · as_aux_lemma =>
          obtain rfl : e = want := he
          have tw : (e != e) = false := by simp
          have tw2 : (e == e) = true := by simp
          have hri := hp.base.refs (by omega)
          have CL := List_any hlv2.at_ (front := []) hri (hlv2.max HM.out.1 HM.out.2).is (by decide)
          change Calls _ _ #[ptr p, .string ⟨#[]⟩] wc (fun e w' => ∃ v, e = .returned (.tuple #[v, .int .i64 (errO (allK S' []))]) ∧ OwnR encP 21 88 wc w' v ((allK S' []).getD [])) at CL
          rw [hp.all] at CL
          change Calls _ _ #[ptr p, .string ⟨#[]⟩] wc (fun e w' => ∃ v, e = .returned (.tuple #[v, .int .i64 0]) ∧ OwnR encP 21 88 wc w' v next) at CL
          obtain ⟨DH, hDH⟩ : ∃ D, D = decide (nh = []) := ⟨_, rfl⟩
          obtain ⟨gE, hgE⟩ : ∃ g : Int, g = if DH then 6 else 0 := ⟨_, rfl⟩
          have hhk : headK S'.files [] = (nh, id0, gE) := by
            rw [hp.hd, hgE, hDH]
            by_cases h0 : nh = []
            · rw [if_pos h0, decide_eq_true h0, h0]; rfl
            · rw [if_neg h0, decide_eq_false h0]; rfl
          obtain ⟨SX, hSX⟩ : ∃ X, X = strOf nh := ⟨_, rfl⟩
          have EH : SX.toList.isEmpty = DH := by rw [hSX, hDH]; exact strOf_empty _
          have EH2 : (SX.toList == []) = DH := by rw [hSX, hDH]; exact strOf_eq _ _
          have t4 : (gE == 4) = false := by rw [hgE]; cases DH <;> rfl
          have t6 : (gE == 6) = DH := by rw [hgE]; cases DH <;> rfl
          have XD : (DH != DH) = false := by cases DH <;> rfl
          have HE := Lib.hid (And.intro hp (And.intro hhk hSX))
          have HW := Lib.hid (And.intro hlv2 (And.intro hrn hro))
          clear hri hhk hgE hDH hSX hp hlv2 hrn hro
          obtain rfl : sh = SX := by rw [HQ.out.2, HE.out.2.2]
          go_wp2_with fail
          refine CL.mono ?_
          clear CL
          rintro e wd ⟨vd, rfl, ho⟩
          obtain ⟨ax, cx, rfl, rx, -⟩ := ho.rs tyP
          have HD := Lib.hid (And.intro (HW.out.1.below ho.frame) (And.intro (HW.out.2.1.below ho.frame) (And.intro (HW.out.2.2.below ho.frame) rx)))
          have CH := Head_any HD.out.1.at_ (front := []) HE.out.1.base.ok (by omega) (HD.out.1.max HM.out.1 HM.out.2).is (by decide)
          change Calls _ _ #[ptr p, .string ⟨#[]⟩] wd (fun e w' => e = .returned (.tuple #[.string (strOf (headK S'.files []).1), .agg (idA (headK S'.files []).2.1), .int .i64 (headK S'.files []).2.2]) ∧ Below wd.heap.size wd w') at CH
          rw [HE.out.2.1, ← HZ.out, ← HE.out.2.2] at CH
          clear ho rx
          obtain ⟨lx, hlx⟩ : ∃ n, n = List.length (α := RefP) next := ⟨_, rfl⟩
          rw [← hlx]
          obtain rfl : nx = lx := by rw [HQ.out.1, hlx]
          have HLX := Lib.hid hlx
          clear hlx
          go_wp2_with fail
          refine CH.mono ?_
          clear CH
          rintro e we ⟨rfl, hbe⟩
          have hzb : (we.alloc (.cells Z0 42)).heap[we.heap.size]? = some (.cells Z0 42 (0, 0)) := heap_alloc_last _ _ _ rfl
          have zi : (Tryz.prog.info? 42).map (·.size) = some Z0.size := by rw [HZ.out, idA_size]; kernel_rfl
          have z1 : Z0.all (·.oneCell') = true := by rw [HZ.out]; exact idA_one _
          have gD : Below we.heap.size we ((we.alloc (.cells Z0 42)).setRow we.heap.size Z0) := below_setRow ((Below.refl _ _).alloc (Nat.le_refl _) _) (Nat.le_refl _) _
          have gE2 := hbe.trans (gD.mono hbe.size)
          have HF := Lib.hid (And.intro (HD.out.1.below gE2) (And.intro (HD.out.2.1.below gE2) (And.intro (HD.out.2.2.1.below gE2) (HD.out.2.2.2.below gE2))))
          have hwfx := HE.out.1.short (by omega)
          have hWX : ∀ r ∈ next, WfP r := fun r hr => by have := (hwfx.2 r hr).2; exact Nat.le_trans this (by decide)
          have HWX := Lib.hid hWX
          have CA := as_any HF.out.2.2.2 (by have := HE.out.1.len; omega)
          rw [← HLX.out] at CA
          clear hbe gD gE2 hwfx hWX
          go_wp2_with (refine wpList_store_row rfl 42 _ _ rfl we.heap.size Z0 rfl rfl 42 Z0 hzb zi rfl z1 ?_)
          refine CA.mono ?_
          clear CA hzb zi z1 t4 t6 XD EH EH2
          rintro e wf ⟨vf, rfl, ho⟩
          obtain ⟨af, cf, rfl, rf, -⟩ := ho.rs tyD
          have HG2 := Lib.hid (And.intro (HF.out.1.below ho.frame) (And.intro (HF.out.2.1.below ho.frame) rf))
          have CSM := same_any HG2.out.2.2 HG2.out.2.1.at_ HWX.out HWX.out
          rw [decide_eq_true rfl, ← HLX.out] at CSM
          rw [← HLX.out]
          have XS : (sh.toList != sh.toList) = false := by simp
          clear ho rf
          go_wp2_with fail
          refine CSM.mono ?_
          clear CSM
          rintro e2 wg ⟨rfl, hbg⟩
          have HFIN := Lib.hid (And.intro (HG2.out.1.below hbg) (HG2.out.2.1.below hbg))
          clear hbg
          go_wp2_with fail
          go_roundw
          case rel => exact ⟨i + 1, own', S', next, nh, dn', an, cn, nx, sh, rfl, rfl, rfl, by go_num, by omega, HLX.out, HE.out.2.2, HE.out.1, HFIN.out.2, HFIN.out.1⟩
          case measure => simp [intOf]; omega
        · as_aux_lemma =>
          obtain rfl : e = 8 := he
          obtain rfl : want = 0 := hw
          subst hd
          have HO := Lib.hid (And.intro hn' hh')
          clear hn' hh'
          have hri := hp.base.refs (by omega)
          have CL := List_any hlv2.at_ (front := []) hri (hlv2.max HM.out.1 HM.out.2).is (by decide)
          change Calls _ _ #[ptr p, .string ⟨#[]⟩] wc (fun e w' => ∃ v, e = .returned (.tuple #[v, .int .i64 (errO (allK S' []))]) ∧ OwnR encP 21 88 wc w' v ((allK S' []).getD [])) at CL
          rw [hp.all] at CL
          change Calls _ _ #[ptr p, .string ⟨#[]⟩] wc (fun e w' => ∃ v, e = .returned (.tuple #[v, .int .i64 0]) ∧ OwnR encP 21 88 wc w' v now') at CL
          obtain ⟨DH, hDH⟩ : ∃ D, D = decide (head' = []) := ⟨_, rfl⟩
          obtain ⟨gE, hgE⟩ : ∃ g : Int, g = if DH then 6 else 0 := ⟨_, rfl⟩
          have hhk : headK S'.files [] = (head', id0, gE) := by
            rw [hp.hd, hgE, hDH]
            by_cases h0 : head' = []
            · rw [if_pos h0, decide_eq_true h0, h0]; rfl
            · rw [if_neg h0, decide_eq_false h0]; rfl
          obtain ⟨SX, hSX⟩ : ∃ X, X = strOf head' := ⟨_, rfl⟩
          have EH : SX.toList.isEmpty = DH := by rw [hSX, hDH]; exact strOf_empty _
          have EH2 : (SX.toList == []) = DH := by rw [hSX, hDH]; exact strOf_eq _ _
          have t4 : (gE == 4) = false := by rw [hgE]; cases DH <;> rfl
          have t6 : (gE == 6) = DH := by rw [hgE]; cases DH <;> rfl
          have XD : (DH != DH) = false := by cases DH <;> rfl
          have HE := Lib.hid (And.intro hp (And.intro hhk hSX))
          have HW := Lib.hid (And.intro hlv2 (And.intro hrn hro))
          clear hri hhk hgE hDH hSX hp hlv2 hrn hro
          go_wp2_with fail
          refine CL.mono ?_
          clear CL
          rintro e wd ⟨vd, rfl, ho⟩
          obtain ⟨ax, cx, rfl, rx, -⟩ := ho.rs tyP
          have HD := Lib.hid (And.intro (HW.out.1.below ho.frame) (And.intro (HW.out.2.1.below ho.frame) (And.intro (HW.out.2.2.below ho.frame) rx)))
          have CH := Head_any HD.out.1.at_ (front := []) HE.out.1.base.ok (by omega) (HD.out.1.max HM.out.1 HM.out.2).is (by decide)
          change Calls _ _ #[ptr p, .string ⟨#[]⟩] wd (fun e w' => e = .returned (.tuple #[.string (strOf (headK S'.files []).1), .agg (idA (headK S'.files []).2.1), .int .i64 (headK S'.files []).2.2]) ∧ Below wd.heap.size wd w') at CH
          rw [HE.out.2.1, ← HZ.out, ← HE.out.2.2] at CH
          clear ho rx
          obtain ⟨lx, hlx⟩ : ∃ n, n = List.length (α := RefP) now' := ⟨_, rfl⟩
          rw [← hlx]
          have HLX := Lib.hid hlx
          clear hlx
          go_wp2_with fail
          refine CH.mono ?_
          clear CH
          rintro e we ⟨rfl, hbe⟩
          have hzb : (we.alloc (.cells Z0 42)).heap[we.heap.size]? = some (.cells Z0 42 (0, 0)) := heap_alloc_last _ _ _ rfl
          have zi : (Tryz.prog.info? 42).map (·.size) = some Z0.size := by rw [HZ.out, idA_size]; kernel_rfl
          have z1 : Z0.all (·.oneCell') = true := by rw [HZ.out]; exact idA_one _
          have gD : Below we.heap.size we ((we.alloc (.cells Z0 42)).setRow we.heap.size Z0) := below_setRow ((Below.refl _ _).alloc (Nat.le_refl _) _) (Nat.le_refl _) _
          have gE2 := hbe.trans (gD.mono hbe.size)
          have HF := Lib.hid (And.intro (HD.out.1.below gE2) (And.intro (HD.out.2.1.below gE2) (And.intro (HD.out.2.2.1.below gE2) (HD.out.2.2.2.below gE2))))
          have hwfx := HE.out.1.short (by omega)
          have hWX : ∀ r ∈ now', WfP r := fun r hr => by have := (hwfx.2 r hr).2; exact Nat.le_trans this (by decide)
          have HWX := Lib.hid hWX
          have CA := as_any HF.out.2.2.2 (by have := HE.out.1.len; omega)
          rw [← HLX.out] at CA
          clear hbe gD gE2 hwfx hWX
          go_wp2_with (refine wpList_store_row rfl 42 _ _ rfl we.heap.size Z0 rfl rfl 42 Z0 hzb zi rfl z1 ?_)
          refine CA.mono ?_
          clear CA hzb zi z1 t4 t6 XD EH EH2
          rintro e wf ⟨vf, rfl, ho⟩
          obtain ⟨af, cf, rfl, rf, -⟩ := ho.rs tyD
          have HG2 := Lib.hid (And.intro (HF.out.1.below ho.frame) (And.intro (HF.out.2.1.below ho.frame) (And.intro (HF.out.2.2.1.below ho.frame) (And.intro (HF.out.2.2.2.below ho.frame) rf))))
          have hWn : ∀ r ∈ next, WfP r := HWN.out
          have CSM := same_any HG2.out.2.2.2.2 HG2.out.2.1.at_ HWX.out hWn
          rw [← HLX.out, ← HQ.out.1] at CSM
          rw [← HLX.out]
          clear ho rf hWn
          by_cases hnn2 : now' = next
          · obtain rfl : nx = lx := by rw [HQ.out.1, HLX.out, hnn2]
            rw [decide_eq_true hnn2] at CSM
            have HNN := Lib.hid hnn2
            clear hnn2
            go_wp2_with fail
            refine CSM.mono ?_
            clear CSM
            rintro e2 wg ⟨rfl, hbg⟩
            have HJ := Lib.hid (And.intro (HG2.out.1.below hbg) (And.intro (show RsO own' wg an cn now' by rw [HNN.out]; exact HG2.out.2.1.below hbg) (And.intro trivial (And.intro (HG2.out.2.2.2.1.below hbg) trivial))))
            clear hbg
            by_cases hh2 : head' = nh
            · obtain rfl : sh = SX := by rw [HQ.out.2, HE.out.2.2, hh2]
              have XH : (sh.toList == sh.toList) = true := by simp
              have XS : (sh.toList != sh.toList) = false := by simp
              clear hh2
              have CA2 := as_any HJ.out.2.2.2.1 (by have := HE.out.1.len; omega)
              rw [← HLX.out] at CA2
              go_wp2_with fail
              refine CA2.mono ?_
              clear CA2
              rintro e3 wk ⟨vk, rfl, ho⟩
              obtain ⟨ak, ck, rfl, rk, -⟩ := ho.rs tyD
              have HK2 := Lib.hid (And.intro (HJ.out.1.below ho.frame) (And.intro (HJ.out.2.1.below ho.frame) rk))
              have CSM2 := same_any HK2.out.2.2 HK2.out.2.1.at_ HWX.out HWX.out
              rw [decide_eq_true rfl, ← HLX.out] at CSM2
              rw [← HLX.out]
              clear ho rk
              go_wp2_with fail
              refine CSM2.mono ?_
              clear CSM2
              rintro e4 wm ⟨rfl, hbm⟩
              have HFIN := Lib.hid (And.intro (HK2.out.1.below hbm) (HK2.out.2.1.below hbm))
              clear hbm
              go_wp2_with fail
              go_roundw
              case rel => exact ⟨i + 1, own', S', now', head', true, an, cn, nx, sh, rfl, rfl, rfl, by go_num, by omega, HLX.out, HE.out.2.2, HE.out.1, HFIN.out.2, HFIN.out.1⟩
              case measure => simp [intOf]; omega
            · have hh3 : head' = head := by rcases HO.out.2 with h | h; exact h; exact absurd h hh2
              obtain rfl : hd0 = SX := by rw [HP.out.2.2.2.2, HE.out.2.2, hh3]
              have XH : (hd0.toList == sh.toList) = false := by
                rw [HP.out.2.2.2.2, HQ.out.2, strOf_list nh]
                refine (strOf_eq _ _).trans (decide_eq_false ?_)
                rw [← hh3]; exact hh2
              have XS : (hd0.toList != hd0.toList) = false := by simp
              clear hh2 hh3
              have CA2 := as_any HJ.out.2.2.2.1 (by have := HE.out.1.len; omega)
              rw [← HLX.out] at CA2
              go_wp2_with fail
              refine CA2.mono ?_
              clear CA2
              rintro e3 wk ⟨vk, rfl, ho⟩
              obtain ⟨ak, ck, rfl, rk, -⟩ := ho.rs tyD
              have HK2 := Lib.hid (And.intro (HJ.out.1.below ho.frame) (And.intro (HJ.out.2.1.below ho.frame) rk))
              have CSM2 := same_any HK2.out.2.2 HK2.out.2.1.at_ HWX.out HWX.out
              rw [decide_eq_true rfl, ← HLX.out] at CSM2
              rw [← HLX.out]
              clear ho rk
              go_wp2_with fail
              refine CSM2.mono ?_
              clear CSM2
              rintro e4 wm ⟨rfl, hbm⟩
              have HFIN := Lib.hid (And.intro (HK2.out.1.below hbm) (HK2.out.2.1.below hbm))
              clear hbm
              go_wp2_with fail
              go_roundw
              case rel => exact ⟨i + 1, own', S', now', head', true, an, cn, nx, hd0, rfl, rfl, rfl, by go_num, by omega, HLX.out, HE.out.2.2, HE.out.1, HFIN.out.2, HFIN.out.1⟩
              case measure => simp [intOf]; omega
          · have HNN := Lib.hid hnn2
            have hnow : now' = now := by rcases HO.out.1 with h | h; exact h; exact absurd h HNN.out
            obtain rfl : nn = lx := by rw [HP.out.2.2.2.1, HLX.out, hnow]
            rw [decide_eq_false hnn2] at CSM
            have HNO := Lib.hid hnow
            clear hnow hnn2
            go_wp2_with fail
            refine CSM.mono ?_
            clear CSM
            rintro e2 wg ⟨rfl, hbg⟩
            have HJ := Lib.hid (And.intro (HG2.out.1.below hbg) (And.intro (show RsO own' wg a c now' by rw [HNO.out]; exact HG2.out.2.2.1.below hbg) (And.intro trivial (And.intro (HG2.out.2.2.2.1.below hbg) trivial))))
            clear hbg
            by_cases hh2 : head' = nh
            · obtain rfl : sh = SX := by rw [HQ.out.2, HE.out.2.2, hh2]
              have XH : (sh.toList == sh.toList) = true := by simp
              have XS : (sh.toList != sh.toList) = false := by simp
              clear hh2
              have CA2 := as_any HJ.out.2.2.2.1 (by have := HE.out.1.len; omega)
              rw [← HLX.out] at CA2
              go_wp2_with fail
              refine CA2.mono ?_
              clear CA2
              rintro e3 wk ⟨vk, rfl, ho⟩
              obtain ⟨ak, ck, rfl, rk, -⟩ := ho.rs tyD
              have HK2 := Lib.hid (And.intro (HJ.out.1.below ho.frame) (And.intro (HJ.out.2.1.below ho.frame) rk))
              have CSM2 := same_any HK2.out.2.2 HK2.out.2.1.at_ HWX.out HWX.out
              rw [decide_eq_true rfl, ← HLX.out] at CSM2
              rw [← HLX.out]
              clear ho rk
              go_wp2_with fail
              refine CSM2.mono ?_
              clear CSM2
              rintro e4 wm ⟨rfl, hbm⟩
              have HFIN := Lib.hid (And.intro (HK2.out.1.below hbm) (HK2.out.2.1.below hbm))
              clear hbm
              go_wp2_with fail
              go_roundw
              case rel => exact ⟨i + 1, own', S', now', head', true, a, c, nn, sh, rfl, rfl, rfl, by go_num, by omega, HLX.out, HE.out.2.2, HE.out.1, HFIN.out.2, HFIN.out.1⟩
              case measure => simp [intOf]; omega
            · have hh3 : head' = head := by rcases HO.out.2 with h | h; exact h; exact absurd h hh2
              obtain rfl : hd0 = SX := by rw [HP.out.2.2.2.2, HE.out.2.2, hh3]
              have XH : (hd0.toList == sh.toList) = false := by
                rw [HP.out.2.2.2.2, HQ.out.2, strOf_list nh]
                refine (strOf_eq _ _).trans (decide_eq_false ?_)
                rw [← hh3]; exact hh2
              have XS : (hd0.toList != hd0.toList) = false := by simp
              clear hh2 hh3
              have CA2 := as_any HJ.out.2.2.2.1 (by have := HE.out.1.len; omega)
              rw [← HLX.out] at CA2
              go_wp2_with fail
              refine CA2.mono ?_
              clear CA2
              rintro e3 wk ⟨vk, rfl, ho⟩
              obtain ⟨ak, ck, rfl, rk, -⟩ := ho.rs tyD
              have HK2 := Lib.hid (And.intro (HJ.out.1.below ho.frame) (And.intro (HJ.out.2.1.below ho.frame) rk))
              have CSM2 := same_any HK2.out.2.2 HK2.out.2.1.at_ HWX.out HWX.out
              rw [decide_eq_true rfl, ← HLX.out] at CSM2
              rw [← HLX.out]
              clear ho rk
              go_wp2_with fail
              refine CSM2.mono ?_
              clear CSM2
              rintro e4 wm ⟨rfl, hbm⟩
              have HFIN := Lib.hid (And.intro (HK2.out.1.below hbm) (HK2.out.2.1.below hbm))
              clear hbm
              go_wp2_with fail
              go_roundw
              case rel => exact ⟨i + 1, own', S', now', head', true, a, c, nn, hd0, rfl, rfl, rfl, by go_num, by omega, HLX.out, HE.out.2.2, HE.out.1, HFIN.out.2, HFIN.out.1⟩
              case measure => simp [intOf]; omega
    · obtain rfl : i = M := by omega
      have CK := known_any wr (HP.out.2.2.1.max HM.out.1 HM.out.2).is
      have H9 := Lib.hid HP.out.2.2.1
      by_cases hin : i < n
      · have t1 : decide ((i : Int) < (n : Int)) = true := decide_eq_true (by omega)
        have t1' : decide (i < n) = true := decide_eq_true hin
        have t2 : decide ((i : Int) < 40) = false := decide_eq_false (by omega)
        have t2' : decide (i < 40) = false := decide_eq_false (by omega)
        go_wp2_with fail
        refine CK.mono ?_
        clear CK
        rintro e w2 ⟨rfl, hb2⟩
        have HF := Lib.hid (H9.out.below hb2).frame
        clear hb2
        go_wp2_with fail
        go_ret
        exact ⟨rfl, HF.out⟩
      · have t1 : decide ((i : Int) < (n : Int)) = false := decide_eq_false (by omega)
        have t1' : decide (i < n) = false := decide_eq_false hin
        go_wp2_with fail
        refine CK.mono ?_
        clear CK
        rintro e w2 ⟨rfl, hb2⟩
        have HF := Lib.hid (H9.out.below hb2).frame
        clear hb2
        go_wp2_with fail
        go_ret
        exact ⟨rfl, HF.out⟩
end Go.Proofs.YtponfkfeflnilaaGreatDoor
