/-
  The law WalkRules, walked.
-/
import Derived.Test.YtkkfolfplpafhaaWalkReachesWalk
import Derived.Test.YtkkfolfplpafhaaRulesPure
import Derived.Test.YtkkfolfplpafhaaWalkSomeWalk
import Derived.Deep.QuietTactic
import Derived.BigQuiet
namespace Go.Proofs.Ytkkfolfplpafhaa
open Go.RowKit Go.Mix

theorem icells_rep (n : Nat) : List.replicate n (Value.int .i64 0) = icells (List.replicate n 0) := by simp [icells]
theorem closed_take {g : List (List Int)} {l : List Nat} (h : AheadL g l) (k : Nat) (hk : k ≤ l.length) : closedG g (natsZ (l.take k)) = true := by
  unfold closedG
  rw [List.all_eq_true]
  intro x hx
  obtain ⟨o, ho, rfl⟩ := List.mem_map.1 hx
  obtain ⟨i, hi, hio⟩ := mem_getDN ho
  have hlt : (l.take k).length = k := by rw [List.length_take]; omega
  rw [hlt] at hi
  rw [getD_takeN hi] at hio
  unfold okX
  rw [Bool.or_eq_true]
  refine .inr ?_
  rw [List.all_eq_true]
  intro p hp
  unfold okP
  obtain ⟨j, hj, hjp⟩ := h i (by omega) p (by rw [hio]; exact hp)
  rw [Bool.or_eq_true]
  refine .inr (decide_eq_true (List.mem_map.2 ⟨l.getD j 0, ?_, hjp⟩))
  rw [← getD_takeN (show j < k by omega)]
  exact getD_memN (by omega)

/-- A graph and a node more. -/
theorem GraphAt.more {w : World} {a a' ax : Option Addr} {cap cap' cx : Nat} {g : List (List Int)} {es : List (Option Addr × Nat)} {r : List Int} (h : GraphAt w a cap g es) (hr : Cells w ax (zcells r)) (hrl : r.length ≤ cx) (hrn : ax = none → cx = 0)
    (hle : g.length + 1 ≤ cap') (hnon : a' = none → cap' = 0) (hc : Cells w a' (gcells g es ++ [.slice ax r.length cx])) :
    GraphAt w a' cap' (g ++ [r]) (((List.range g.length).map fun i => es.getD i (none, 0)) ++ [(ax, cx)]) := by
  have hml : (g ++ [r]).length = g.length + 1 := by simp
  have gl : ∀ i, i < g.length → (g ++ [r]).getD i [] = g.getD i [] := fun i hi => getD_app_l hi
  have ge : (g ++ [r]).getD g.length [] = r := getD_app_e
  have el : ((List.range g.length).map fun i => es.getD i (none, 0)).length = g.length := by simp
  have e1 : ∀ i, i < g.length → (((List.range g.length).map fun i => es.getD i (none, 0)) ++ [(ax, cx)]).getD i (none, 0) = es.getD i (none, 0) := fun i hi => by
    rw [getD_app_l (by rw [el]; exact hi), List.getD_eq_getElem?_getD, List.getElem?_map, List.getElem?_range hi]; rfl
  have e2 : (((List.range g.length).map fun i => es.getD i (none, 0)) ++ [(ax, cx)]).getD g.length (none, 0) = (ax, cx) := by
    have := getD_app_e (l := (List.range g.length).map fun i => es.getD i (none, 0)) (x := (ax, cx)) (d := ((none, 0) : Option Addr × Nat))
    rw [el] at this
    exact this
  refine ⟨by rw [hml]; exact hle, hnon, ?_, fun i hi => ?_, fun i hi => ?_, fun i hi => ?_⟩
  · have e : gcells (g ++ [r]) (((List.range g.length).map fun i => es.getD i (none, 0)) ++ [(ax, cx)]) = gcells g es ++ [.slice ax r.length cx] := by
      unfold gcells
      rw [hml, List.range_succ, List.map_append]
      congr 1
      · refine List.map_congr_left fun i hi => ?_
        rw [e1 i (List.mem_range.1 hi), gl i (List.mem_range.1 hi)]
      · simp only [List.map_cons, List.map_nil]
        rw [e2, ge]
    rw [e]; exact hc
  · rw [hml] at hi
    by_cases hig : i < g.length
    · rw [e1 i hig, gl i hig]; exact h.ints i hig
    · have : i = g.length := by omega
      subst this
      rw [e2, ge]; exact hr
  · rw [hml] at hi
    by_cases hig : i < g.length
    · rw [e1 i hig, gl i hig]; exact h.caps i hig
    · have : i = g.length := by omega
      subst this
      rw [e2, ge]; exact hrl
  · rw [hml] at hi
    by_cases hig : i < g.length
    · rw [e1 i hig]; exact h.nons i hig
    · have : i = g.length := by omega
      subst this
      rw [e2]; exact hrn

set_option maxRecDepth 100000 in
set_option maxHeartbeats 4000000 in
theorem walkRules_walk (a : Option Addr) (len cap : Nat) (g : List (List Int)) (es : List (Option Addr × Nat)) (n : Int) (w : World) (hl : g.length = len) (hg : GraphAt w a cap g es) (_hw : (Lit.int .i64 n).wf = true) :
    Calls Try.prog 7 #[.slice a len cap, .int .i64 n] w fun e w' => e = .returned (.bool true) ∧ Below w.heap.size w w' := by
  subst hl
  have C1 := right_any hg
  have hok := rightG_ok g
  have hr30 : (rightG g).length ≤ 30 := by rw [rightG_len, fewG_len]; omega
  have hRG : RightG (rightG g) := fun i hi z hz => rightG_right g i hi z hz
  clear hg
  generalize rightG g = G at *
  obtain ⟨l, hl, hll, hln, hlb⟩ := order_right hRG
  have HOK := Lib.hid hok
  have HRG := Lib.hid hRG
  have HO := Lib.hid hl
  have HLL := Lib.hid hll
  have HLN := Lib.hid hln
  have HLB := Lib.hid hlb
  obtain ⟨m, hm⟩ : ∃ m, m = G.length := ⟨_, rfl⟩
  have HMG := Lib.hid hm
  obtain ⟨em, hkm⟩ := u64_mod n (m + 1) (by omega) (by omega)
  rw [← hm] at C1 hr30
  obtain ⟨k, hk⟩ : ∃ k, k = modN n (m + 1) := ⟨_, rfl⟩
  rw [← hk] at em hkm
  have en : IntKind.u64.wrap ((m + 1 : Nat) : Int) = ((m + 1 : Nat) : Int) := by rw [IntKind.wrap_u64]; omega
  have HEM := Lib.hid (show wrap64 ((IntKind.u64.wrap n).tmod ((m : Int) + 1)) = (k : Int) from em)
  have HEN := Lib.hid (show IntKind.u64.wrap ((m : Int) + 1) = (m : Int) + 1 from en)
  clear hok hRG hl hll hln hlb hm em en hk
  go_enter Try.func7, Try.ntmps7
  go_wp2_with fail
  refine C1.mono ?_
  rintro e w1 ⟨a1, c1, es1, rfl, hR, g1⟩
  have HG := Lib.hid (fun (W : World) (h : Below w1.heap.size w1 W) => hR.below h)
  have HGL := Lib.hid (And.intro hR.le hR.non)
  have C2 := order_any hR HOK.out.1 HOK.out.2
  rw [← HMG.out] at C2
  have HC2 := Lib.hid C2
  clear C1 C2 hR
  go_wp2_with fail
  refine Calls.mono HC2.out ?_
  intro e w2 hO
  unfold OrderEnds at hO
  rw [HO.out] at hO
  obtain ⟨v2, rfl, hr2⟩ := hO
  have g2 := hr2.frame.toBelow (fun _ hk => hk)
  have HG01 := Lib.hid g1
  obtain ⟨a2, c2, hv2, hc2, hle2, -, hn2⟩ := hr2.slice
  rw [icells_length, HLL.out, ← HMG.out] at hv2 hle2
  subst hv2
  have HX := Lib.hid (fun (W : World) (h : Below w2.heap.size w2 W) => hc2.below h)
  have HXN := Lib.hid (And.intro hle2 hn2)
  clear HC2 g1 hr2 hc2 hle2 hn2
  have hmm : ((m : Int) != (m : Int)) = false := by simp
  go_wp2_with fail
  refine (known22_any _).mono ?_
  rintro e w3 ⟨rfl, g3⟩
  have F3 : FrameS (· < w2.heap.size) w2 w3 := FrameS.ofBelow g3 (Nat.le_refl _)
  go_upto_region 6 with (at_make; refine wpList_make_row (S := (· < w2.heap.size)) (w0 := w2) elemInt rfl rfl _ _ rfl .i64 .i64 _ _ m rfl rfl rfl rfl (by omega) (by omega) F3 ?_; intro w4 hrow4 hgr4)
  rw [icells_rep] at hrow4
  obtain ⟨B, hB⟩ : ∃ B, B = w3.heap.size := ⟨_, rfl⟩
  have hBS : w2.heap.size ≤ B := by rw [hB]; exact g3.size
  rw [← hB] at hrow4 ⊢
  have HA0 := Lib.hid (show AtOK l (List.replicate m 0) m 0 from ⟨by simp, fun j hj => by omega⟩)
  clear hB hgr4 g3 F3 hmm
  go_wp2_with fail
  go_loopw [9] (fun s9 wr => ∃ (i : Nat) (A : List Nat), s9 = .int .i64 (i : Int) ∧ i ≤ m ∧ Row (· < w2.heap.size) 3 w2 wr (.slice (some ⟨B, 0, none⟩) m m) (icells A) ∧ AtOK l A m i) (fun s9 _ => m - (intOf s9).toNat)
  case atStart => exact ⟨0, _, rfl, Nat.zero_le _, hrow4, HA0.out⟩
  case round =>
    clear hrow4
    obtain ⟨i, A, rfl, hi, hrow, hat⟩ := hrel
    have HAT := Lib.hid hat
    have hAl := hat.1
    clear hat
    by_cases him : i < m
    · have t1 : decide ((i : Int) < (m : Int)) = true := decide_eq_true (by omega)
      have t1' : decide (i < m) = true := decide_eq_true him
      have hil : i < l.length := by rw [HLL.out, ← HMG.out]; exact him
      obtain ⟨XK, XC⟩ := ints_at (HX.out _ (hrow.frame.toBelow fun _ hk => hk)) c2 (by rw [HLL.out, ← HMG.out]; omega) (i : Int) i rfl hil
      rw [HLL.out, ← HMG.out] at XK
      have hxm : l.getD i 0 < m := by rw [HMG.out]; exact HLB.out _ (getD_memN hil)
      have HST := Lib.hid (HAT.out.step HLN.out hil hxm)
      clear hil
      generalize l.getD i 0 = x at *
      have v1 : decide ((x : Int) < 0) = false := decide_eq_false (by omega)
      have v2 : decide ((m : Int) ≤ (x : Int)) = false := decide_eq_false (by omega)
      have v2' : decide (m ≤ x) = false := decide_eq_false (by omega)
      rw [← hAl] at hrow
      obtain ⟨AK, AC, AF, -⟩ := hrow.idx (by omega) (x : Int) x rfl (by omega)
      have AC0 := AC ⟨wr, Grow.refl _⟩
      simp only at AC0
      have hrow9 := (hrow.stored x (.int .i64 (i : Int))).1
      rw [icells_set] at hrow9
      rw [hAl] at AK hrow9 hrow
      clear hAl AC
      generalize A.getD x 0 = Ax at *
      go_wp2_with fail
      go_roundw
      case rel => exact ⟨i + 1, _, by go_num, by omega, hrow9, HST.out⟩
      case measure => simp [intOf]; omega
    · obtain rfl : i = m := by omega
      have t1 : decide ((i : Int) < (i : Int)) = false := decide_eq_false (by omega)
      have t1' : decide (i < i) = false := decide_eq_false (by omega)
      have HBH := Lib.hid (fun (q : Nat) (hq : q < G.length) (z : Int) (hz : z ∈ G.getD q []) => AtOK.behind (A := A) HO.out (by rw [← HMG.out, HLL.out, ← HMG.out]; exact HAT.out) hq hz)
      have HROW := Lib.hid hrow
      have H21 := Lib.hid (show Below w1.heap.size w1 w2 from g2)
      have hwr0 : Below w2.heap.size w2 wr := hrow.frame.toBelow fun _ hk => hk
      have HWR := Lib.hid (fun (W : World) (h : Below wr.heap.size wr W) => g2.trans (Below.mono (hwr0.trans (Below.mono h hwr0.size)) g2.size))
      have HWQ := Lib.hid (fun (W : World) (h : Below wr.heap.size wr W) => hwr0.trans (Below.mono h hwr0.size))
      obtain ⟨wo, hwo⟩ : ∃ wo, wo = wr := ⟨_, rfl⟩
      have hb00 : Below wo.heap.size wo wr := by rw [hwo]; exact Below.refl _ _
      rw [← hwo] at HROW HWR HWQ
      clear HAT hrow hwr0 hwo
      go_wp2_with fail
      go_loopw [10] (fun s10 wr => ∃ q : Nat, s10 = .int .i64 (q : Int) ∧ q ≤ i ∧ Below wo.heap.size wo wr) (fun s10 _ => i - (intOf s10).toNat)
      case atStart => exact ⟨0, rfl, Nat.zero_le _, hb00⟩
      case round =>
        clear hb00
        obtain ⟨q, rfl, hq, hb1⟩ := hrel
        by_cases hqm : q < i
        · have u1 : decide ((q : Int) < (i : Int)) = true := decide_eq_true (by omega)
          have u1' : decide (q < i) = true := decide_eq_true hqm
          have hqg : q < G.length := by rw [← HMG.out]; exact hqm
          have HGA := Lib.hid (fun (W : World) (h : Below wo.heap.size wo W) => (show _ ∧ _ from (HG.out W (HWR.out W h)).at (q : Int) q rfl hqg))
          obtain ⟨GK, GC⟩ := HGA.out _ hb1
          rw [← HMG.out] at GK
          have HGI := Lib.hid (fun (W : World) (h : Below wo.heap.size wo W) => (HG.out W (HWR.out W h)).ints q hqg)
          have HBQ := Lib.hid (HBH.out q hqg)
          have hgl := HOK.out.2 q
          have hAr : Row (· < w2.heap.size) 3 w2 wo (.slice (some ⟨B, 0, none⟩) A.length i) (icells A) := by rw [hAl]; exact HROW.out
          obtain ⟨QK, QC, -, -⟩ := hAr.idx (by omega) (q : Int) q rfl (by omega)
          rw [hAl] at QK
          have HQC := Lib.hid QC
          clear QC
          clear hqg
          obtain ⟨q1, hq1⟩ : ∃ c, c = (es1.getD q (none, 0)).1 := ⟨_, rfl⟩
          obtain ⟨q2, hq2⟩ : ∃ c, c = (es1.getD q (none, 0)).2 := ⟨_, rfl⟩
          rw [← hq1] at GC HGI HGA
          rw [← hq2] at GC HGA
          clear hq1 hq2
          generalize G.getD q [] = r at *
          obtain ⟨rl, hrl⟩ : ∃ rl, rl = r.length := ⟨_, rfl⟩
          rw [← hrl] at GC hgl HGA
          have HRN := Lib.hid hrl
          clear hrl
          go_wp2_with fail
          go_loopw [11] (fun s11 wr => ∃ j : Nat, s11 = .int .i64 (j : Int) ∧ j ≤ rl ∧ Below wo.heap.size wo wr) (fun s11 _ => rl - (intOf s11).toNat)
          case atStart => exact ⟨0, rfl, Nat.zero_le _, hb1⟩
          case round =>
            clear hb1 GC
            obtain ⟨j, rfl, hj, hb1⟩ := hrel
            have GC := (HGA.out _ hb1).2
            by_cases hjl : j < rl
            · have y1 : decide ((j : Int) < (rl : Int)) = true := decide_eq_true (by omega)
              have y1' : decide (j < rl) = true := decide_eq_true hjl
              have hjr : j < r.length := by rw [← HRN.out]; exact hjl
              obtain ⟨JK, JC⟩ := zs_at (HGI.out _ hb1) q2 (j : Int) j rfl hjr
              rw [← HRN.out] at JK
              obtain ⟨p, hzp, hpg, hlt⟩ := HBQ.out _ (getD_memI hjr)
              rw [hzp] at JC
              rw [← HMG.out] at hpg
              obtain ⟨PK, PC, -, -⟩ := hAr.idx (by omega) (p : Int) p rfl (by omega)
              rw [hAl] at PK
              have QC0 := HQC.out ⟨wr, hb1⟩
              have PC0 := PC ⟨wr, hb1⟩
              simp only at QC0 PC0
              have z1 : decide (((A.getD q 0 : Nat) : Int) ≤ ((A.getD p 0 : Nat) : Int)) = false := decide_eq_false (by omega)
              have z1' : decide (A.getD q 0 ≤ A.getD p 0) = false := decide_eq_false (by omega)
              clear hzp hjr
              generalize A.getD q 0 = Aq at *
              generalize A.getD p 0 = Ap at *
              clear PC
              go_upto_region 18 with (fail)
              go_quiet (fail)
              go_wp2_with fail
              go_roundw
              case rel => exact ⟨j + 1, by go_num, by omega, below_drewN hb1 _⟩
              case measure => simp [intOf]; omega
            · obtain rfl : j = rl := by omega
              have y1 : decide ((j : Int) < (j : Int)) = false := decide_eq_false (by omega)
              have y1' : decide (j < j) = false := decide_eq_false (by omega)
              go_wp2_with fail
              go_roundw
              case rel => exact ⟨q + 1, by go_num, by omega, hb1⟩
              case measure => simp [intOf]; omega
        · obtain rfl : q = i := by omega
          have u1 : decide ((q : Int) < (q : Int)) = false := decide_eq_false (by omega)
          have u1' : decide (q < q) = false := decide_eq_false (by omega)
          have HW := Lib.hid (fun (W : World) (h : Below wr.heap.size wr W) => HWR.out W (hb1.trans (Below.mono h hb1.size)))
          have HQ := Lib.hid (fun (W : World) (h : Below wr.heap.size wr W) => HWQ.out W (hb1.trans (Below.mono h hb1.size)))
          have C5 := heads_any (HG.out wr (HW.out _ (Below.refl _ _))) HOK.out.1 HOK.out.2
          rw [← HMG.out] at C5
          have HC5 := Lib.hid C5
          clear C5 hb1 HROW HBH hAl
          go_wp2_with fail
          refine Calls.mono HC5.out ?_
          intro e w5 hO
          unfold HeadsEnds at hO
          rw [HO.out] at hO
          obtain ⟨v5, rfl, hr5⟩ := hO
          have g5 := hr5.frame.toBelow (fun _ hk => hk)
          obtain ⟨a5, c5, hv5, hc5, hle5, -, hn5⟩ := hr5.slice
          rw [icells_z] at hc5
          rw [icells_length, ← natsZ_len] at hv5 hle5
          subst hv5
          have hHL : (natsZ (headsL G)).length ≤ 1000 := by rw [natsZ_len]; exact Nat.le_trans (headsL_len G) HOK.out.1
          have C6 := reach_any (cb := c5) (HG.out w5 (HW.out _ g5)) HOK.out.1 HOK.out.2 hc5 hHL hle5 hn5
          rw [← HMG.out] at C6
          have HC6 := Lib.hid C6
          have HAL := Lib.hid (show reachL G (natsZ (headsL G)) = List.range q by rw [HMG.out]; exact heads_all HRG.out)
          have HHI := Lib.hid (show ∀ z ∈ natsZ (headsL G), 0 ≤ z ∧ z < (G.length : Int) from heads_in G)
          clear C6 hr5 hc5 hle5 hn5 HC5
          generalize natsZ (headsL G) = H at *
          go_wp2_with fail
          refine Calls.mono HC6.out ?_
          intro e w6 hO
          have hO2 : ∃ v, e = .returned (.tuple #[v, .int .i64 0]) ∧ Row (· < w5.heap.size) 3 w5 w6 v (icells (reachL G H)) := by
            rcases hO with ⟨-, h⟩ | ⟨h, -⟩
            · exact h
            · exact absurd ⟨by rw [HO.out]; rfl, HHI.out⟩ h
          obtain ⟨v6, rfl, hr6⟩ := hO2
          have g6 := g5.trans (Below.mono (hr6.frame.toBelow (fun _ hk => hk)) g5.size)
          obtain ⟨a6, c6, hv6, -, -, -, -⟩ := hr6.slice
          rw [icells_length, HAL.out, List.length_range] at hv6
          subst hv6
          have HW6 := Lib.hid (fun (W : World) (h : Below w6.heap.size w6 W) => HW.out W (g6.trans (Below.mono h g6.size)))
          have HQ6 := Lib.hid (fun (W : World) (h : Below w6.heap.size w6 W) => HQ.out W (g6.trans (Below.mono h g6.size)))
          have hF6 : FrameS (· < w6.heap.size) w6 w6 := FrameS.refl fun _ hk => hk
          have hm6 := Row.made (e := 24) hF6
          have gal : Below w6.heap.size w6 (w6.alloc (.cells #[] 24)) := (Below.refl _ _).alloc (Nat.le_refl _) _
          have hgc := (HG.out _ (HW6.out _ gal)).rows
          have HGN := Lib.hid (show (gcells G es1).length = q by rw [gcells_length, ← HMG.out])
          have HG1 := Lib.hid (show ∀ u ∈ gcells G es1, u.oneCell' = true from fun u hu => by
            unfold gcells at hu
            obtain ⟨i, -, rfl⟩ := List.mem_map.1 hu
            rfl)
          clear hO hr6 HC6 g5 g6 hF6 gal hHL
          go_upto_region 23 with (fail)
          simp only [HEM.out]
          clear HEM HEN
          obtain ⟨G1, hG1⟩ : ∃ G1, G1 = gcells G es1 := ⟨_, rfl⟩
          have HG1E := Lib.hid hG1
          rw [← hG1] at HGN HG1 hgc
          clear hG1
          go_wp2_with (first
            | (at_builtin; refine wpList_append_row elemRow rfl (.tmp 119) (.tmp 120) rfl _ [] rfl hm6 a1 c1 G1 (by rw [HGN.out]; rfl) hgc HG1.out HGL.out.2 (by rw [HGN.out]; simp only [List.length_nil]; omega) (by rw [HGN.out]; simp only [List.length_nil]; omega) ?_; intro v7 w7 hb7 hgr7; rw [List.nil_append] at hb7)
            | (at_builtin; refine wpList_append_fresh elemRow rfl (.tmp 121) (.tmp 123) rfl _ _ rfl hb7 _ [.slice a2 q c2] rfl 1 1 rfl rfl (by simp [Value.oneCell']) (by rw [HGN.out]; simp only [List.length_singleton]; omega) (by rw [HGN.out]; simp only [List.length_singleton]; omega) ?_; intro v8 w8 hb8 hgr8))
          have g8 := hb8.frame.toBelow (fun _ hk => hk)
          obtain ⟨a8, c8, hv8, hc8, hle8, -, hn8⟩ := hb8.slice
          have hl8 : (G1 ++ [Value.slice a2 q c2]).length = q + 1 := by rw [List.length_append, HGN.out]; rfl
          rw [hl8] at hv8 hle8
          subst hv8
          have hw8 := HW6.out _ g8
          have hX8 : Cells w8 a2 (zcells (natsZ l)) := by
            rw [← icells_z]
            exact HX.out _ (HQ6.out _ g8)
          have hnl : (natsZ l).length = q := by rw [natsZ_len, HLL.out, ← HMG.out]
          rw [HG1E.out] at hc8
          have hM := GraphAt.more (a' := a8) (cap' := c8) (ax := a2) (cx := c2) (HG.out _ hw8) hX8 (by rw [hnl]; exact HXN.out.1) HXN.out.2 (by rw [← HMG.out]; exact hle8) hn8 (by rw [hnl]; exact hc8)
          have hml : (G ++ [natsZ l]).length = q + 1 := by rw [List.length_append, ← HMG.out]; rfl
          have hmk : ∀ k, ((G ++ [natsZ l]).getD k []).length ≤ 1000 := fun k => by
            rcases Nat.lt_trichotomy k G.length with h | h | h
            · rw [getD_app_l h]; exact HOK.out.2 k
            · rw [h, getD_app_e, hnl]; omega
            · rw [List.getD_eq_getElem?_getD, List.getElem?_eq_none (by rw [List.length_append, List.length_singleton]; omega)]; simp
          have C9 := order_any hM (by rw [hml]; omega) hmk
          rw [hml] at C9
          have HC9 := Lib.hid C9
          have HOM := Lib.hid (show orderG (G ++ [natsZ l]) = some (l ++ [q]) by rw [HMG.out]; exact order_more HRG.out HO.out)
          clear C9 hM hmk hml hX8 hw8 hl8 hc8 hb8 hb7 hgr7 hgr8 hm6 hgc hnl
          go_wp2_with fail
          refine Calls.mono HC9.out ?_
          intro e w9 hO
          unfold OrderEnds at hO
          rw [HOM.out] at hO
          obtain ⟨v9, rfl, hr9⟩ := hO
          have g9 := g8.trans (Below.mono (hr9.frame.toBelow (fun _ hk => hk)) g8.size)
          obtain ⟨a9, c9, hv9, hc9, hle9, -, hn9⟩ := hr9.slice
          have hl9 : (icells (l ++ [q])).length = q + 1 := by rw [icells_length, List.length_append, HLL.out, ← HMG.out]; rfl
          rw [hl9] at hv9 hle9
          subst hv9
          have HY := Lib.hid (show Cells w9 a9 (zcells (natsZ l)) by
            have := hc9.take q
            rw [← icells_z]
            have e : (icells (l ++ [q])).take q = icells l := by
              unfold icells
              rw [List.map_append, List.take_left' (by rw [List.length_map, HLL.out, ← HMG.out])]
            rw [e] at this
            exact this)
          have hW9 := HW6.out _ g9
          have SLy : ∀ W : World, (Instr.slice 24 (.slice a9 (q + 1) c9) none (some (.int .i64 (q : Int))) none).run Try.prog W = .ok (.slice a9 q c9) W := fun W =>
            run_slice_to (P := Try.prog) 24 Try.underlying24 a9 (q + 1) c9 q (by omega) hn9 sizeOf_int W
          have SLx : ∀ W : World, (Instr.slice 24 (.slice a2 q c2) none (some (.int .i64 (k : Int))) none).run Try.prog W = .ok (.slice a2 k c2) W := fun W =>
            run_slice_to (P := Try.prog) 24 Try.underlying24 a2 q c2 k (by have := HXN.out.1; omega) HXN.out.2 sizeOf_int W
          have u1 : ((q : Int) == (q : Int)) = true := by simp
          have u2 : (((q : Int) + 1) == ((q : Int) + 1)) = true := by simp
          have hx9 := HX.out w9 (HQ6.out _ g9)
          have hkl : (natsZ (l.take k)).length = k := by rw [natsZ_len, List.length_take, HLL.out, ← HMG.out]; omega
          have C10 := closed_any (cb := c2) (l := natsZ (l.take k)) (HG.out _ hW9) HOK.out.1 HOK.out.2 (by
            rw [← icells_z]
            have := hx9.take k
            have e : (icells l).take k = icells (l.take k) := by simp [icells, List.map_take]
            rw [e] at this
            exact this) (by rw [hkl]; omega) (natsZ_wf fun x hx => by have := HLB.out x (List.mem_of_mem_take hx); have := HOK.out.1; omega)
          rw [closed_take (order_ahead HO.out) k (by rw [HLL.out, ← HMG.out]; omega), hkl, ← HMG.out] at C10
          have HC10 := Lib.hid C10
          clear C10 hkl hx9 hW9 hl9 hc9 hle9 hr9 HC9
          go_wp2_with fail
          refine Calls.mono HC10.out ?_
          rintro e w10 ⟨rfl, g10⟩
          have g11 := g9.trans (Below.mono g10 g9.size)
          have C11 := same_any (w := w10) (a := a9) (b := a2) (s := natsZ l) (l := natsZ l) (ca := c9) (cb := c2) (HY.out.below g10) (by rw [← icells_z]; exact HX.out _ (HQ6.out _ g11)) (by rw [natsZ_len, HLL.out, ← HMG.out]; omega)
          have hde : decide (natsZ l = natsZ l) = true := decide_eq_true rfl
          rw [hde, natsZ_len, HLL.out, ← HMG.out] at C11
          have HC11 := Lib.hid C11
          clear C11 hde HC10
          go_wp2_with fail
          refine Calls.mono HC11.out ?_
          rintro e w11 ⟨rfl, g12⟩
          have g13 := g11.trans (Below.mono g12 g11.size)
          have hend := HG01.out.trans (Below.mono (HW6.out _ g13) HG01.out.size)
          clear HC11 g12 g11
          go_wp2_with fail
          go_ret
          exact ⟨rfl, hend⟩
end Go.Proofs.Ytkkfolfplpafhaa
