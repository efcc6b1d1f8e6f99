/-
  (*Store).Crash once more: where nothing is kept, the slice's address may be any.
-/
import Derived.Test.YtponfkfeflnilaaGreatDoorMaStC
import Derived.Outline
namespace Go.Proofs.YtponfkfeflnilaaGreatDoor
open Go.RowKit Go.Mix Go.WideMaps Go.Maps

theorem rs_foreign2 {α : Type} [Inhabited α] {own own' : Owns} {w w' : World} {enc : α → List Value} {L : Nat} {T : Option Own → Prop} {a : Option Addr} {c : Nat} {l : List α} (h : RsAt enc L w a c l) (g : Turn T own own' w w') (hT : ¬ T none) (ho : l ≠ [] → ∀ x, a = some x → own x.block = none) : RsAt enc L w' a c l := by
  by_cases hl : l = []
  · exact ⟨h.le, h.big, h.non, .inl hl⟩
  · exact rs_foreign h g hT (ho hl)

set_option maxRecDepth 100000 in
set_option maxHeartbeats 8000000 in
theorem crash_any2 {own : Owns} {w : World} {p M Z : Nat} {G : Bytes → Nat} {S : StP} (h : StoreIn own w p M G S) (ok : OkS Z S) (hZ : Z ≤ 100000000) {ak : Option Addr} {ck nk : Nat} {K : List Int} (hk : RsAt encI 1 w ak ck K) (hnk : nk = K.length) (hkl : nk ≤ 1000000) (hko : K ≠ [] → ∀ x, ak = some x → own x.block = none) :
    Calls Tryz.prog 38 #[ptr p, .slice ak nk ck] w fun e w' => CrashLeft own w p (crashS S K) e w' := by
  obtain ⟨-, c1, -⟩ := h.cells
  have f1 := h.free 1
  obtain ⟨hs1, ht1⟩ := h.setRoot (k := 1) (v := .int .i64 0) (S' := { S with used := 0 }) rfl rfl
  have hz1 : (w.setCell ⟨p, 1, none⟩ (.int .i64 0)).heap.size = w.heap.size := by simp [World.setCell]
  obtain ⟨w1, hw1⟩ : ∃ w1, w1 = w.setCell ⟨p, 1, none⟩ (.int .i64 0) := ⟨_, rfl⟩
  have HW1 := Lib.hid hw1
  rw [← hw1] at hs1 ht1 hz1
  clear hw1
  obtain ⟨-, -, c2, -⟩ := hs1.cells
  obtain ⟨D, hown, hkp, hsz⟩ := hs1.map.keys ok.sorted
  have hfew := ok.few
  have CK := callsIn_wide.1 (Tryz.keysOfF (some M) w1)
  have CS := callsIn_wide.1 (Tryz.sortedOfF M _ D ptrR w1 hown (by rw [hsz]; unfold maxLen; show S.files.length ≤ _; omega) (by rw [hsz]; show S.files.length * 16 ≤ _; omega))
  have HH := Lib.hid (And.intro h (And.intro ok (And.intro hs1 (And.intro ht1 (And.intro hz1 hkp)))))
  have HK := Lib.hid (And.intro hk (And.intro hnk (And.intro hkl hko)))
  have HZ := Lib.hid hZ
  clear h ok hs1 ht1 hz1 hkp hown hsz hfew hk hnk hkl hko hZ
  go_enter Tryz.func38, Tryz.ntmps38
  go_upto_region 2 with (fail)
  rw [← HW1.out]
  clear c1 f1
  go_wp2_with fail
  refine CK.mono ?_
  clear CK
  rintro e w2 ⟨rfl, rfl⟩
  go_wp2_with fail
  refine CS.mono ?_
  clear CS
  rintro e w3 ⟨v, ss, rfl, hperm, hrow, -, hb⟩
  have hks := keys_sorted HH.out.2.1.sorted hperm HH.out.2.2.2.2.2
  have hlen : ss.length = (keysF S.files).length := by rw [← hks, List.length_mergeSort]
  have hklen : (keysF S.files).length = S.files.length := by unfold keysF; rw [List.length_map]
  rw [hks, hlen] at hrow
  have g3 : Below w1.heap.size w1 w3 := ((Below.refl _ _).alloc (Nat.le_refl _) _).trans (hb.mono (by simp))
  have hvo : ∀ g, v.ownBlock = some g → own g = none := fun g hg => by
    have := (World.ownsRow.lt hrow g hg).1
    have h2 := HH.out.2.2.1.lt g
    simp at this
    cases ho : own g with
    | none => rfl
    | some t => exact absurd (h2 (by rw [ho]; simp)) (by omega)
  have hrow0 : w3.ownsRow 0 9 1 v (keysF S.files).length ((keysF S.files).map strV) := ⟨hrow.1, hrow.2.imp id fun ⟨g, cap, cur, e1, _, r⟩ => ⟨g, cap, cur, e1, Nat.zero_le _, r⟩⟩
  obtain ⟨av, cv, rfl, hkeys⟩ : ∃ a c, v = .slice a (keysF S.files).length c ∧ RsAt encS 1 w3 a c (keysF S.files) := by
    rcases hrow0.2 with ⟨rfl, h0⟩ | ⟨g, cap, cur, rfl, _, hh, hn, hm, _, ht⟩
    · have e0 := List.eq_nil_of_length_eq_zero h0
      rw [e0]
      exact ⟨none, 0, rfl, RsAt.nil w3⟩
    · unfold maxLen at hm
      refine ⟨some ⟨g, 0, none⟩, cap, rfl, ⟨hn, by omega, (fun h => nomatch h), .inr ⟨g, 0, rfl, (tyS.range_flat _ 0).1 fun j u hj => ?_⟩⟩⟩
      rw [flat_texts] at hj
      have hjl : j < ((keysF S.files).map strV).length := (List.getElem?_eq_some_iff.1 hj).1
      rw [List.length_map] at hjl
      have h2 : (cur.toList.take ((keysF S.files).length * 1))[j]? = ((keysF S.files).map strV)[j]? := by rw [ht]
      rw [List.getElem?_take, if_pos (by omega), hj] at h2
      simp only [World.cell?, hh, Nat.zero_add]
      simpa using h2
  obtain ⟨n, hn⟩ : ∃ n, n = S.files.length := ⟨_, rfl⟩
  rw [hklen, ← hn]
  have hn1 : n ≤ 10000 := by rw [hn]; exact HH.out.2.1.few
  have t31 : Turn Any own own w w3 := (turn_root HH.out.2.2.2.1).trans (Turn.below g3 HH.out.2.2.1.lt)
  have H3 := Lib.hid (And.intro (HH.out.2.2.1.below g3) (And.intro t31 (And.intro hkeys (And.intro hvo hn))))
  clear hb g3 hperm hks hlen hrow hrow0 hvo hkeys t31 hklen hn
  go_wp2_with fail
  go_loopw [22] (fun s22 wr => ∃ (i : Nat) (own' : Owns), s22 = .int .i64 (i : Int) ∧ i ≤ n ∧ StoreIn own' wr p M G (midS S K i) ∧ Turn Any own own' w3 wr) (fun s22 _ => n - (intOf s22).toNat)
  case atStart =>
    refine ⟨0, own, rfl, Nat.zero_le _, ?_, Turn.below (Below.refl _ _) H3.out.1.lt⟩
    have e0 : midS S K 0 = { S with used := 0 } := by unfold midS; rw [crashM_none K S.files 0 0 (Nat.le_refl _)]; rfl
    rw [e0]
    exact H3.out.1
  case round =>
    obtain ⟨i, own', rfl, hi, hs, ht⟩ := hrel
    by_cases hin : i < n
    · obtain ⟨wo, rfl⟩ : ∃ wo, wo = wr := ⟨_, rfl⟩
      have t1 : decide ((i : Int) < (n : Int)) = true := decide_eq_true (by omega)
      have t1' : decide (i < n) = true := decide_eq_true (by omega)
      have hil : i < S.files.length := by have := H3.out.2.2.2.2; omega
      obtain ⟨x, f, hxf⟩ : ∃ x f, S.files[i]? = some (x, f) := ⟨S.files[i].1, S.files[i].2, by rw [List.getElem?_eq_getElem hil]⟩
      have hmi : (midS S K i).files[i]? = some (x, f) := by show (crashM K 0 i S.files)[i]? = _; rw [crashM_at K S.files 0 i i (by omega)]; exact hxf
      have hsrt : Sorted (midS S K i).files := crashM_sorted K HH.out.2.1.sorted 0 i
      have hgf : getF (midS S K i).files x = some f := getF_of_mem hsrt (List.mem_of_getElem? hmi)
      have hkil : i < (keysF S.files).length := by unfold keysF; rw [List.length_map]; exact hil
      have hkx : (keysF S.files)[i]! = x := by
        have h1 : (keysF S.files)[i]? = some x := by unfold keysF; rw [List.getElem?_map, hxf]; rfl
        exact List.getElem!_of_getElem? h1
      have hfo := HH.out.2.1.ok (x, f) (List.mem_of_getElem? hxf)
      have hbig := HH.out.2.1.big (x, f) (List.mem_of_getElem? hxf)
      have hks := rs_foreign H3.out.2.2.1 ht (by simp) (fun y hy => H3.out.2.2.2.1 y.block (by rw [hy]; rfl))
      obtain ⟨b, q, IX, -, LD⟩ := hks.at1 tyS (i : Int) i rfl hkil
      have L0 := LD wo (Below.refl _ _)
      rw [hkx] at L0
      unfold strV at L0
      rw [show (keysF S.files).length = n by unfold keysF; rw [List.length_map]; exact H3.out.2.2.2.2.symm] at IX
      have LK := hs.map.look x (by have := hfo.2.1; have h2 : x.length ≤ 255 := this; omega)
      rw [placeV_some hgf] at LK
      obtain ⟨-, -, c2, -⟩ := hs.cells
      obtain ⟨v1, v2, v3, L, p1, s1, s2, hrow, ho3, hall⟩ := (hs.file x f hgf).ex
      obtain ⟨a3, c3, rfl, hrs⟩ := rows_rs tyC hrow
      have hLn := hall.length
      have k2 := cell_blk p1 2 _ rfl
      obtain ⟨n3, hn3⟩ : ∃ n3, n3 = L.length := ⟨_, rfl⟩
      rw [← hn3] at k2
      have hn3b : n3 ≤ 100000000 := by have h1 : f.since.length ≤ Z := hfo.2.2.2.2; have := HZ.out; omega
      have HS := Lib.hid (And.intro hs (And.intro ht (And.intro hgf (And.intro hfo (And.intro hbig (And.intro p1 (And.intro hrs (And.intro hLn (And.intro hn3 (And.intro hmi (And.intro hsrt hxf)))))))))))
      clear hil hmi hsrt hgf hkil hkx hfo hbig hks LD s1 s2 hrow ho3 hall p1 hrs hLn hn3 hxf hs ht
      obtain ⟨B, hB⟩ : ∃ B, B = decide ((i : Int) < (nk : Int)) := ⟨_, rfl⟩
      have t2 : decide ((i : Int) < (nk : Int)) = B := hB.symm
      have t2' : decide (i < nk) = B := by rw [hB, Bool.eq_iff_iff, decide_eq_true_eq, decide_eq_true_eq]; omega
      have HB := Lib.hid hB
      clear hB
      go_upto_if 36 with (first | (refine wpList_load_at rfl _ _ rfl _ _ rfl L0 ?_))
      go_cut [7] (fun s7 wx => s7 = .int .i64 ((keepK K i f : Nat) : Int) ∧ Below wo.heap.size wo wx)
      case first =>
        clear L0 IX t2 t2'
        cases B
        case true =>
          have hik : i < nk := by have := of_decide_eq_true HB.out.symm; omega
          have hikl : i < K.length := by rw [← HK.out.2.1]; exact hik
          have hkk := rs_foreign2 (rs_foreign2 HK.out.1 H3.out.2.1 (by simp) HK.out.2.2.2) HS.out.2.1 (by simp) HK.out.2.2.2
          obtain ⟨b2, q2, IX2, -, LD2⟩ := hkk.at1 tyI (i : Int) i rfl hikl
          rw [← HK.out.2.1] at IX2
          obtain ⟨kv, hkv⟩ : ∃ kv, kv = K[i]! := ⟨_, rfl⟩
          rw [← hkv] at LD2
          have LK2 : ∀ y : Later wo, (Instr.loadAt 3 (.pointer (some ⟨b2, q2, none⟩))).run Tryz.prog y.1 = .ok (.int .i64 kv) y.1 := fun y => LD2 y.1 y.2
          have LS2 : ∀ y : Later wo, y.1.cell? ⟨G x, 2, none⟩ = some (.slice a3 n3 c3) := fun y => load_later k2 y
          obtain ⟨m1, hm1⟩ : ∃ m1, m1 = max kv 0 := ⟨_, rfl⟩
          obtain ⟨m2, hm2⟩ : ∃ m2, m2 = min m1 (n3 : Int) := ⟨_, rfl⟩
          have MX := max_run kv 0 m1 hm1
          have MN := min_runI m1 (n3 : Int) m2 hm2
          have hres : m2 = ((keepK K i f : Nat) : Int) := by
            unfold keepK
            rw [if_pos hikl, ← hkv, hm2, hm1]
            have h1 := HS.out.2.2.2.2.2.2.2.2.1
            have h2 := HS.out.2.2.2.2.2.2.2.1
            rw [h1, h2]
            omega
          have HR := Lib.hid hres
          clear hkk LD2 hkv hm1 hm2 hres hik hikl
          go_upto_region 8 with (fail)
          refine wp_region_mg [(0, 0), (1, 0), (2, 0), (3, 0), (4, 0), (5, 0), (6, 0), (7, 0), (8, 0), (9, 0), (10, 0), (11, 0)] (by kernel_rfl) (by kernel_rfl) ?_
          iterate 3 (refine mg_calm rfl (fun K hK => ?_); go_simp; (refine hK _ ?_; clear hK K))
          refine mg_load rfl rfl _ _ rfl _ _ rfl LK2 ?_
          iterate 8 (refine mg_calm rfl (fun K hK => ?_); go_simp; (refine hK _ ?_; clear hK K))
          refine mg_nil fun w5 hw5 => ?_
          have H5 := Lib.hid hw5
          clear hw5
          go_wp2_with fail
          go_meet
          exact ⟨by rw [HR.out], H5.out⟩
        case false =>
          have hik : ¬ i < nk := by have := of_decide_eq_false HB.out.symm; omega
          have e0 : keepK K i f = 0 := by unfold keepK; rw [if_neg (by have := HK.out.2.1; omega)]
          have HE := Lib.hid e0
          clear e0 hik
          go_wp2_with fail
          go_meet
          exact ⟨by rw [HE.out]; rfl, Below.refl _ _⟩
      case rest =>
        obtain ⟨rfl, hwc⟩ := hcut
        have hkf : keepK K i f ≤ f.since.length := by unfold keepK; split <;> omega
        obtain ⟨k, hk⟩ : ∃ k, k = keepK K i f := ⟨_, rfl⟩
        rw [← hk] at hkf ⊢
        have hs := HS.out.1.below hwc
        obtain ⟨-, -, c2, -⟩ := hs.cells
        have hlt := lt_of_block HS.out.2.2.2.2.2.1
        have p2 := (hwc.block _ hlt).trans HS.out.2.2.2.2.2.1
        have k2 := cell_blk p2 2 _ rfl
        rw [← HS.out.2.2.2.2.2.2.2.2.1] at k2
        have SL := RsAt.to HS.out.2.2.2.2.2.2.1 tyC (j := k) (by have := HS.out.2.2.2.2.2.2.2.1; omega) (k : Int) rfl
        rw [← HS.out.2.2.2.2.2.2.2.2.1] at SL
        have hkb : k ≤ 100000000 := by have := HS.out.2.2.2.2.2.2.2.2.1; have := HS.out.2.2.2.2.2.2.2.1; omega
        have HC := Lib.hid (And.intro hs (And.intro p2 (And.intro hkf (And.intro hk (HS.out.2.1.trans (Turn.below (T := Any) hwc HS.out.1.lt))))))
        clear hs hlt p2 hkf hk hwc L0 IX LK t2 t2'
        go_wp2_with fail
        go_loopw [55] (fun s55 wy => ∃ (j : Nat) (own2 : Owns) (v1 v2 : Value), s55 = .int .i64 (j : Int) ∧ j ≤ k ∧ StoreIn own2 wy p M G { midS S K i with files := putF (midS S K i).files x { f with kept := runs f.kept (f.since.take j) } } ∧ Turn Any own own2 w3 wy ∧ wy.heap[G x]? = some (.cells #[v1, v2, .slice a3 L.length c3] 132 (0, 0))) (fun s55 _ => k - (intOf s55).toNat)
        case atStart =>
          refine ⟨0, own', v1, v2, rfl, Nat.zero_le _, ?_, HC.out.2.2.2.2, HC.out.2.1⟩
          have e0 : putF (midS S K i).files x { f with kept := runs f.kept (f.since.take 0) } = (midS S K i).files := putF_same HS.out.2.2.2.2.2.2.2.2.2.2.1 HS.out.2.2.1
          rw [e0]
          exact HC.out.1
        case round =>
          obtain ⟨j, own2, u1, u2, rfl, hj, hs, ht, hp⟩ := hrel
          have hgf2 : getF ({ midS S K i with files := putF (midS S K i).files x { f with kept := runs f.kept (f.since.take j) } } : StP).files x = some { f with kept := runs f.kept (f.since.take j) } := by show getF (putF _ x _) x = _; rw [getF_put, if_pos rfl]
          have hf2 := hs.file x _ hgf2
          obtain ⟨y1, y2, y3, L2, r1, r2, ⟨a5, c5, rfl, s5, o5⟩, r4, r5, r6⟩ := hf2.ex
          have hpp := hp
          rw [r1] at hpp
          injection hpp with hpp
          injection hpp with hpp
          simp only [Array.mk.injEq, List.cons.injEq, and_true] at hpp
          obtain ⟨rfl, rfl, rfl⟩ := hpp
          obtain ⟨m5, hm5⟩ : ∃ m5, m5 = (runs f.kept (f.since.take j)).length := ⟨_, rfl⟩
          rw [← hm5] at r1
          have k0 := cell_blk r1 0 _ rfl
          have k1 := cell_blk r1 1 _ rfl
          have k2 := cell_blk r1 2 _ rfl
          have hm5Z : m5 ≤ 100000000 := by have h1 : (runs f.kept (f.since.take j)).length ≤ Z := HS.out.2.2.2.2.1 j; have := HZ.out; omega
          by_cases hjk : j < k
          · have t3 : decide ((j : Int) < (k : Int)) = true := decide_eq_true (by omega)
            have t3' : decide (j < k) = true := decide_eq_true (by omega)
            obtain ⟨a4, c4, e4, hrs2⟩ := rows_rs tyC r4
            injection e4 with e5 e6 e7
            subst e5 e7
            clear e6
            have hL2 := r6.length
            have hjs : j < f.since.length := by have := HC.out.2.2.1; omega
            have hjL : j < L2.length := by rw [hL2]; exact hjs
            have hkL : (L2.take k).length = k := by rw [List.length_take]; have := HC.out.2.2.1; rw [hL2]; show min k f.since.length = k; omega
            obtain ⟨b6, q6, IX6, -, LD6⟩ := (hrs2.take k).at tyC (j : Int) j rfl (by rw [hkL]; exact hjk)
            rw [hkL] at IX6
            have L6 := LD6 wr (Below.refl _ _)
            obtain ⟨ca, hca⟩ : ∃ ca, ca = (L2.take k)[j]! := ⟨_, rfl⟩
            have hci : ChgIs own2 wr ca f.since[j] := by
              rw [hca, getElem!_pos _ j (by rw [hkL]; exact hjk), List.getElem_take]
              exact r6.at hjL hjs
            rw [← hca] at L6
            obtain ⟨abx, cbx, ebx, sbx, obx⟩ := hci.b
            injection ebx with eb1 eb2 eb3
            subst eb1 eb3
            obtain ⟨Zv, hZv⟩ : ∃ Zv, Zv = recA encC (⟨0, 0, none, 0, 0⟩ : ChgA) := ⟨_, rfl⟩
            have z : ∀ w, (zeroValue 134).run Tryz.prog w = .ok (.agg Zv) w := fun w => by rw [hZv]; kernel_rfl
            have zs : Zv.size = (recA encC ca).size := by rw [hZv]; rfl
            have zi : (Tryz.prog.info? 134).map (·.size) = some (recA encC ca).size := tyC.ie
            have z1 : (recA encC ca).all (·.oneCell') = true := all_oneCell_toArray (tyC.one _)
            have hzb : (wr.alloc (.cells Zv 134)).heap[wr.heap.size]? = some (.cells Zv 134 (0, 0)) := heap_alloc_last _ _ _ rfl
            have gA : Below wr.heap.size wr ((wr.alloc (.cells Zv 134)).setRow wr.heap.size (recA encC ca)) := below_setRow ((Below.refl _ _).alloc (Nat.le_refl _) _) (Nat.le_refl _) _
            have hbox : ((wr.alloc (.cells Zv 134)).setRow wr.heap.size (recA encC ca)).heap[wr.heap.size]? = some (.cells (recA encC ca) 134 (0, 0)) := setRow_heap _ _ _ _ _ _ hzb
            have hfit := fitsAll_at HS.out.2.2.2.1.1.fits hjs
            have hpl := HS.out.2.2.2.1.1.plain _ (List.getElem_mem hjs)
            have hrn : runs f.kept (f.since.take (j + 1)) = f.since[j].on (runs f.kept (f.since.take j)) := runs_at _ hjs
            have hbn : f.since[j].b.length ≤ 1000000000000 := by
              have h1 := chg_len (x := runs f.kept (f.since.take j)) hpl
              rw [← hrn] at h1
              have h2 : (runs f.kept (f.since.take (j + 1))).length ≤ Z := HS.out.2.2.2.2.1 (j + 1)
              have := HZ.out
              omega
            obtain ⟨cj, hcj⟩ : ∃ cj, cj = f.since[j] := ⟨_, rfl⟩
            rw [← hcj] at hci hfit hrn hbn sbx eb2
            have HA := Lib.hid (And.intro gA (And.intro hbox (And.intro hs (And.intro ht (And.intro hf2 (And.intro r1 (And.intro hci (And.intro hfit (And.intro hrn (And.intro hbn (And.intro s5 (And.intro hm5 (And.intro hm5Z (And.intro sbx eb2))))))))))))))
            generalize hRC : recA encC ca = RC at *
            have HRC := Lib.hid hRC
            clear hgf2 hf2 r1 r2 r4 r5 r6 hs ht hp k0 k2 hm5 hrs2 hL2 hjs hjL hkL LD6 hca hci sbx obx eb2 hZv hfit hpl hrn hbn hcj s5 o5 hRC gA hbox
            go_upto_region 12 with (first | (refine wpList_load_at rfl _ _ rfl _ _ rfl L6 ?_) | (refine wpList_store_row rfl 134 _ _ rfl wr.heap.size RC rfl rfl 134 Zv hzb zi zs z1 ?_))
            have gA := HA.out.1
            have hbox := HA.out.2.1
            obtain ⟨X, hX⟩ : ∃ X, X = wr.heap.size := ⟨_, rfl⟩
            have HX := Lib.hid hX
            clear IX6 L6 zs zi z1 hzb z
            generalize (wr.alloc (.cells Zv 134)).setRow wr.heap.size RC = w5 at *
            rw [← hX] at hbox ⊢
            clear hX
            have k1 : w5.cell? ⟨G x, 1, none⟩ = some (.slice a5 m5 c5) := (gA.cell (p := ⟨G x, 1, none⟩) (lt_of_cell k1)).trans k1
            have LB : ∀ y : Later w5, (Instr.loadAt 134 (.pointer (some ⟨X, 0, none⟩))).run Tryz.prog y.1 = .ok (.agg RC) y.1 := fun y => by
              rw [← HRC.out] at hbox ⊢
              exact tyC.load ca _ _ _ (rangeR_below (recBox hbox) y.2)
            have L1 : ∀ y : Later w5, (Instr.loadAt 24 (.pointer (some ⟨G x, 1, none⟩))).run Tryz.prog y.1 = .ok (.slice a5 m5 c5) y.1 := fun y => by
              have c := load_later k1 y
              go_simp
            clear hbox k1
            refine wp_region_mg [(0, 0), (1, 0), (2, 0), (3, 0), (4, 0), (5, 0), (6, 1), (7, 0), (8, 0), (9, 2)] (by kernel_rfl) (by kernel_rfl) ?_
            refine mg_calm rfl (fun K hK => ?_); go_simp; (refine hK _ ?_; clear hK K)
            refine mg_load rfl rfl _ _ rfl _ _ rfl LB ?_
            iterate 3 (refine mg_calm rfl (fun K hK => ?_); go_simp; (refine hK _ ?_; clear hK K))
            refine mg_load rfl rfl _ _ rfl _ _ rfl L1 ?_
            refine mg_loud rfl rfl (fun w6 hw6 K hK => ?_)
            have g6 : Below wr.heap.size wr w6 := gA.trans (Below.mono hw6 gA.size)
            have CO := on_any HA.out.2.2.2.2.2.2.1.at_ HA.out.2.2.2.2.2.2.1.cut (HA.out.2.2.2.2.2.2.2.2.2.2.2.2.2.1.below g6) HA.out.2.2.2.2.2.2.2.2.2.2.2.2.2.2 (HA.out.2.2.2.2.2.2.2.2.2.2.1.below g6) HA.out.2.2.2.2.2.2.2.2.2.2.2.1 HA.out.2.2.2.2.2.2.2.1 HA.out.2.2.2.2.2.2.2.2.2.1 (by have := HA.out.2.2.2.2.2.2.2.2.2.2.2.1; have := HA.out.2.2.2.2.2.2.2.2.2.2.2.2.1; show (runs f.kept (f.since.take j)).length ≤ _; omega)
            rw [HRC.out] at CO
            have H6 := Lib.hid g6
            clear g6 gA hw6
            go_wp2_with fail
            refine CO.mono ?_
            clear CO
            rintro e w7 ⟨v, rfl, h7⟩
            obtain ⟨av, mv, cv, rfl⟩ := h7.1.slice
            have H7 := Lib.hid (And.intro (H6.out.trans (h7.2.1.mono H6.out.size)) (h7.rebase H6.out.size H6.out (Nat.le_refl _)).1)
            have g7 := h7.2.1
            clear h7
            go_wp2_with fail
            refine hK _ _ g7 ?_
            clear hK K g7
            iterate 2 (refine mg_calm rfl (fun K hK => ?_); go_simp; (refine hK _ ?_; clear hK K))
            refine mg_sync rfl rfl (fun w8 hw8 K hK => ?_)
            have g8 : Below wr.heap.size wr w8 := H7.out.1.trans (Below.mono hw8 H7.out.1.size)
            have hb8 := (g8.block (G x) (lt_of_block HA.out.2.2.2.2.2.1)).trans HA.out.2.2.2.2.2.1
            have k8 := cell_blk hb8 1 _ rfl
            have f8 := free_blk hb8 1
            have H8 := Lib.hid (And.intro g8 (H7.out.2.below hw8))
            clear g8 hb8 hw8 LB L1
            go_wp2_with fail
            refine mg_nil fun w9 hw9 => ?_
            obtain ⟨hf9, ht9, hp9⟩ := HA.out.2.2.2.2.1.keepK HA.out.2.2.2.2.2.1 HA.out.2.2.1.lt H8.out.1 H8.out.2 (by have := hw9.mono (B' := w8.heap.size) (by simp [World.setCell]); exact this)
            have hs9 := HA.out.2.2.1.filed (x := x) (by show (getF (putF _ x _) x).isSome = true; rw [getF_put, if_pos rfl]; rfl) ht9 hf9
            change StoreIn _ w9 p M G { midS S K i with files := putF (putF (midS S K i).files x { f with kept := runs f.kept (f.since.take j) }) x { f with kept := cj.on (runs f.kept (f.since.take j)) } } at hs9
            rw [putF_put HS.out.2.2.2.2.2.2.2.2.2.2.1, ← HA.out.2.2.2.2.2.2.2.2.1] at hs9
            have HE := Lib.hid (And.intro hs9 (And.intro (HA.out.2.2.2.1.trans (turn_file ht9)) hp9))
            clear hf9 ht9 hp9 hs9 hw9 k8 f8
            go_wp2_with fail
            go_roundw
            case rel => exact ⟨j + 1, _, _, _, by go_num, by omega, HE.out.1, HE.out.2.1, HE.out.2.2⟩
            case measure => simp [intOf]; omega
          · obtain rfl : j = k := by omega
            have t3 : decide ((j : Int) < (j : Int)) = false := decide_eq_false (by omega)
            have t3' : decide (j < j) = false := decide_eq_false (by omega)
            obtain ⟨hf3, ht3⟩ := hf2.crashed hs.lt r1
            have g0 := free_blk r1 0
            have g2 := free_blk r1 2
            have hs3 := hs.filed (x := x) (by rw [hgf2]; rfl) ht3 hf3
            change StoreIn _ _ p M G { midS S K i with files := putF (putF (midS S K i).files x { f with kept := runs f.kept (f.since.take j) }) x (crashF f j) } at hs3
            rw [putF_put HS.out.2.2.2.2.2.2.2.2.2.2.1] at hs3
            have r3 : ((wr.setCell ⟨G x, 0, none⟩ (.slice a5 m5 c5)).setCell ⟨G x, 2, none⟩ (.slice none 0 0)).heap[G x]? = some (.cells #[.slice a5 m5 c5, .slice a5 m5 c5, .slice none 0 0] 132 (0, 0)) := heap_setCell_same _ (G x) 2 _ _ _ (heap_setCell_same _ (G x) 0 _ _ _ r1)
            have HE := Lib.hid (And.intro hs3 (And.intro (ht.trans (turn_file ht3)) (And.intro r3 hm5)))
            clear hgf2 hf2 r1 r2 r4 r5 r6 hs ht hp s5 o5 hm5 hf3 ht3 hs3 r3 hjk
            go_upto_region 15 with (fail)
            clear k0 k1 k2 g0 g2
            generalize (wr.setCell ⟨G x, 0, none⟩ (Value.slice a5 m5 c5)).setCell ⟨G x, 2, none⟩ (Value.slice none 0 0) = w6 at *
            have k1 := HE.out.1.cells.2.1
            have k0 := cell_blk HE.out.2.2.1 0 _ rfl
            obtain ⟨us, hus⟩ : ∃ us, us = (midS S K i).used := ⟨_, rfl⟩
            change w6.cell? ⟨p, 1, none⟩ = some (.int .i64 (midS S K i).used) at k1
            rw [← hus] at k1
            have husb : 0 ≤ us ∧ us ≤ 1000000000000 := by
              have h1 : ∀ q ∈ (crashL K 0 S.files).take i, q.2.now.length ≤ Z := fun q hq => by
                obtain ⟨a, ha⟩ := List.getElem?_of_mem (List.mem_of_mem_take hq)
                have hal : a < S.files.length := by
                  have := (List.getElem?_eq_some_iff.1 ha).1
                  rw [crashL_length] at this
                  exact this
                rw [crashL_at K S.files 0 a S.files[a] (List.getElem?_eq_getElem hal)] at ha
                injection ha with ha
                rw [← ha]
                exact HH.out.2.1.big _ (List.getElem_mem hal) _
              have h2 := sumF_le Z _ h1
              have h3 : ((crashL K 0 S.files).take i).length ≤ 10000 := by rw [List.length_take]; omega
              have h4 : Z * ((crashL K 0 S.files).take i).length ≤ 1000000000000 := Nat.le_trans (Nat.mul_le_mul HZ.out h3) (by decide)
              rw [hus]
              show 0 ≤ ((sumF ((crashL K 0 S.files).take i) : Nat) : Int) ∧ _ ≤ _
              constructor
              · omega
              · show ((sumF ((crashL K 0 S.files).take i) : Nat) : Int) ≤ _
                omega
            have LU : ∀ y : Later w6, y.1.cell? ⟨p, 1, none⟩ = some (.int .i64 us) := fun y => load_later k1 y
            have LN : ∀ y : Later w6, y.1.cell? ⟨G x, 0, none⟩ = some (.slice a5 m5 c5) := fun y => load_later k0 y
            have hwu : IntKind.i64.wrap (us + (m5 : Int)) = us + (m5 : Int) := IntWalk.i64_in _ (by omega)
            have HU := Lib.hid hus
            clear k0 k1 hus
            refine wp_region_mg [(0, 0), (1, 0), (2, 0), (3, 0), (4, 0), (5, 0), (6, 0), (7, 0), (8, 0), (9, 0), (10, 0), (11, 0), (12, 2)] (by kernel_rfl) (by kernel_rfl) ?_
            iterate 12 (refine mg_calm rfl (fun K hK => ?_); go_simp; (refine hK _ ?_; clear hK K))
            refine mg_sync rfl rfl (fun w7 hw7 K hK => ?_)
            have hs7 := HE.out.1.below hw7
            have q1 := hs7.cells.2.1
            have g1 := hs7.free 1
            have HW7 := Lib.hid hw7
            clear LU LN hw7
            go_wp2_with fail
            refine mg_nil fun w8 hw8 => ?_
            obtain ⟨hs8, ht8⟩ := hs7.setRoot (k := 1) (v := .int .i64 (us + (m5 : Int))) (S' := { midS S K i with used := us + (m5 : Int), files := putF (midS S K i).files x (crashF f j) }) rfl rfl
            have hs9 := hs8.below hw8
            have e1 : ({ midS S K i with used := us + (m5 : Int), files := putF (midS S K i).files x (crashF f j) } : StP) = midS S K (i + 1) := by
              have hxf := HS.out.2.2.2.2.2.2.2.2.2.2.2
              have hj2 : j = keepK K i f := HC.out.2.2.2.1
              have e2 := crashM_step K S.files 0 i (x, f) hxf
              have e3 : putF (midS S K i).files x (crashF f j) = crashM K 0 (i + 1) S.files := by
                rw [putF_at HS.out.2.2.2.2.2.2.2.2.2.2.1 HS.out.2.2.2.2.2.2.2.2.2.1 (crashF f j), hj2]
                rw [Nat.zero_add] at e2
                exact e2.symm
              have e4 := sum_step (crashL K 0 S.files) i _ (crashL_at K S.files 0 i (x, f) hxf)
              rw [Nat.zero_add, ← hj2] at e4
              have e5 : us + (m5 : Int) = ((sumF ((crashL K 0 S.files).take (i + 1)) : Nat) : Int) := by
                rw [e4, HU.out, HE.out.2.2.2]
                show ((sumF ((crashL K 0 S.files).take i) : Nat) : Int) + _ = _
                rw [Int.natCast_add]
                rfl
              rw [e3, e5]
              rfl
            rw [e1] at hs9
            have HE9 := Lib.hid (And.intro hs9 (((HE.out.2.1.trans (Turn.below HW7.out HE.out.1.lt)).trans (turn_root ht8)).trans (Turn.below hw8 hs8.lt)))
            clear hs7 q1 g1 hs8 ht8 hs9 e1 hw8 hwu
            go_wp2_with fail
            go_roundw
            case rel => exact ⟨i + 1, _, by go_num, by omega, HE9.out.1, HE9.out.2⟩
            case measure => simp [intOf]; omega
    · obtain rfl : i = n := by omega
      have t1 : decide ((i : Int) < (i : Int)) = false := decide_eq_false (by omega)
      have t1' : decide (i < i) = false := decide_eq_false (by omega)
      obtain ⟨-, -, -, q3, q4, -⟩ := hs.cells
      have f3 := hs.free 3
      have f4 := hs.free 4
      have HS := Lib.hid (And.intro hs ht)
      clear hs ht hin
      go_wp2_with fail
      refine bodyPost_end (results_none rfl _ _ _) rfl ?_
      obtain ⟨h1, u1⟩ := HS.out.1.setRoot (k := 3) (v := .bool false) (S' := { midS S K i with armed := false }) rfl rfl
      obtain ⟨h2, u2⟩ := h1.setRoot (k := 4) (v := .bool false) (S' := { midS S K i with armed := false, down := false }) rfl rfl
      refine ⟨rfl, own', ⟨M, G, ?_⟩, ((H3.out.2.1.trans HS.out.2).trans (turn_root u1)).trans (turn_root u2)⟩
      have e1 : crashS S K = { midS S K i with armed := false, down := false } := by
        unfold crashS midS
        rw [crashM_all K S.files 0 i (by have := H3.out.2.2.2.2; omega), List.take_of_length_le (by rw [crashL_length]; have := H3.out.2.2.2.2; omega)]
      rw [e1]
      exact h2

theorem crash_at2 {own : Owns} {w : World} {p Z : Nat} {S : StP} (h : StoreAt own w p S) (ok : OkS Z S) (hZ : Z ≤ 100000000) {ak : Option Addr} {ck nk : Nat} {K : List Int} (hk : RsAt encI 1 w ak ck K) (hnk : nk = K.length) (hkl : nk ≤ 1000000) (hko : K ≠ [] → ∀ x, ak = some x → own x.block = none) :
    Calls Tryz.prog 38 #[ptr p, .slice ak nk ck] w fun e w' => CrashLeft own w p (crashS S K) e w' := by
  obtain ⟨M, G, h⟩ := h
  exact crash_any2 h ok hZ hk hnk hkl hko
end Go.Proofs.YtponfkfeflnilaaGreatDoor
