/-
  The document's Parse of a manifest: the walk.
  What is printed is read as it was; what is read is printed as it was: plain.
-/
import Derived.Test.YtifoledkmjlmoaaDoorPar18
import Derived.Test.YtifoledkmjlmoaaDoorRefRightM
import Derived.Test.YtifoledkmjlmoaaDoorSha18
import Derived.Test.YtifoledkmjlmoaaDoorCmp18
import Derived.Test.YtifoledkmjlmoaaDoorCat
import Derived.Deep.CutBlock
import Derived.Test.YtifoledkmjlmoaaDoorPrintM
namespace Go.Proofs.YtifoledkmjlmoaaDoor
open Go.RowKit Go.Mix Go.WideMaps

/-- k is where a list has its first c, or its end. -/
structure FirstAt (l : List UInt8) (c : UInt8) (k : Nat) : Prop where
  le : k ≤ l.length
  no : ∀ i, i < k → l[i]? ≠ some c
  at_ : k = l.length ∨ l[k]? = some c
theorem first_cut {l : List UInt8} {c : UInt8} {k : Nat} (h : FirstAt l c k) : cutA l c = l.take k ∧ cutOk l c = decide (k < l.length) ∧ (k < l.length → cutB l c = l.drop (k + 1)) := by
  have hge := Lib.indexByte_ge l c
  by_cases hn : Lib.indexByte l c = -1
  · have h1 := Lib.indexByte_none hn
    have hk : k = l.length := by
      rcases h.at_ with e | e
      · exact e
      · exact absurd e (h1 k)
    have ho : cutOk l c = false := by unfold cutOk; rw [decide_eq_false]; omega
    refine ⟨?_, ?_, fun e => by omega⟩
    · unfold cutA; rw [ho, hk, List.take_length]; rfl
    · rw [ho, hk]; simp
  · obtain ⟨o, ho⟩ : ∃ o : Nat, Lib.indexByte l c = o := ⟨(Lib.indexByte l c).toNat, by omega⟩
    obtain ⟨h1, h2⟩ := Lib.indexByte_some ho
    have hol := (List.getElem?_eq_some_iff.1 h1).1
    have hk : k = o := by
      rcases Nat.lt_trichotomy k o with e | e | e
      · rcases h.at_ with e2 | e2
        · omega
        · exact absurd e2 (h2 k e)
      · exact e
      · exact absurd h1 (h.no o e)
    have hoo : cutOk l c = true := by unfold cutOk; rw [decide_eq_true]; omega
    refine ⟨?_, ?_, fun _ => ?_⟩
    · unfold cutA; rw [hoo, if_pos rfl, ho, hk]; simp
    · rw [hoo, hk]; simp [hol]
    · unfold cutB; rw [hoo, if_pos rfl, ho, hk]; simp
theorem unhex_len40 {s : List UInt8} {x : Id20} (h : unhex s = some x) : s.length = 40 := by
  rcases unhex_cases s with ⟨y, hy, _⟩ | ⟨_, hn⟩
  · rw [hy, hexL_len, y.2]
  · rw [h] at hn; cases hn
theorem stepP_none {r : List UInt8} {k j : Nat} (hk : FirstAt r 10 k) (hj : FirstAt (r.take k) 0 j) (h : k = r.length ∨ k - j < 41) : stepP r = none := by
  obtain ⟨a1, o1, b1⟩ := first_cut hk
  obtain ⟨a2, o2, b2⟩ := first_cut hj
  unfold stepP
  rw [a1, o1, o2]
  by_cases h1 : k < r.length
  · have htl : (r.take k).length = k := by rw [List.length_take]; omega
    by_cases h2 : j < (r.take k).length
    · rw [b2 h2]
      have hne : unhex (((r.take k).drop (j + 1)).take 40) = none := by
        cases hu : unhex (((r.take k).drop (j + 1)).take 40) with
        | none => rfl
        | some x =>
          have := unhex_len40 hu
          rw [List.length_take, List.length_drop, htl] at this
          omega
      rw [hne]; split <;> rfl
    · rw [decide_eq_false h2, Bool.and_false]; rfl
  · rw [decide_eq_false h1, Bool.false_and]; rfl
theorem stepP_some {r : List UInt8} {k j : Nat} (hk : FirstAt r 10 k) (hj : FirstAt (r.take k) 0 j) (h1 : k < r.length) (h2 : 41 ≤ k - j) :
    stepP r = match unhex ((r.drop (j + 1)).take 40) with
      | some x => some (⟨r.take j, x, (r.drop (j + 41)).take (k - j - 41)⟩, r.drop (k + 1))
      | none => none := by
  obtain ⟨a1, o1, b1⟩ := first_cut hk
  obtain ⟨a2, o2, b2⟩ := first_cut hj
  have htl : (r.take k).length = k := by rw [List.length_take]; omega
  have h3 : j < (r.take k).length := by omega
  unfold stepP
  rw [a1, o1, o2, a2, b1 h1, b2 h3, decide_eq_true h1, decide_eq_true h3]
  have e1 : ((r.take k).drop (j + 1)).take 40 = (r.drop (j + 1)).take 40 := by
    rw [List.drop_take, List.take_take, Nat.min_eq_left (by omega)]
  have e2 : ((r.take k).drop (j + 1)).drop 40 = (r.drop (j + 41)).take (k - j - 41) := by
    rw [List.drop_drop, List.drop_take]
    congr 1 <;> omega
  have e3 : (r.take k).take j = r.take j := by rw [List.take_take, Nat.min_eq_left (by omega)]
  rw [e1, e2, e3]
  rfl
theorem wpList_slice_at {P : Program} {ops : Array Oper} {rest : List Oper} {o : Oper} {a : Act} {w : World} {Q : Exit → Act → World → Prop} (hgd : o.guard = none)
    (ty : TypeId) (x : Operand) (lo hi mx : Option Operand) (hop : o.op = .slice ty x lo hi mx) (V : Value) (LO HI MX : Option Value) (v : Value) (hx : a.eval x = V) (h1 : lo.map a.eval = LO) (h2 : hi.map a.eval = HI) (h3 : mx.map a.eval = MX) (hl : (Instr.sliceAt ty V LO HI MX).run P w = .ok v w)
    (h : wpList P ops Q rest (a.put o.dst v) w) : wpList P ops Q (o :: rest) a w :=
  wpList_plain hgd fun _ hK => by
    unfold Oper.wp execOp
    simp only [hop, hx, h1, h2, h3, Sem.run_bind, Sem.run_pure, Result.andThen_ok, hl]
    exact hK _ _ h
theorem str_mid {k : TypeId} (hu : Tryd.prog.underlying k = some .string) (x : List UInt8) {i n : Nat} (I J : Int) (hI : I = (i : Int)) (hJ : J = ((i + n : Nat) : Int)) (hi : i + n ≤ x.length) (W : World) : (Instr.sliceAt k (.string (strOf x)) (some (.int .i64 I)) (some (.int .i64 J)) none).run Tryd.prog W = .ok (.string (strOf ((x.drop i).take n))) W := by
  subst hI hJ
  rw [run_sliceAt_string W k _ _ _ _ hu, run_slice_string W k _ .i64 .i64 (i : Int) ((i + n : Nat) : Int) hu (by omega) (by omega) (by rw [strOf_size]; omega), Int.toNat_natCast, Int.toNat_natCast, ext_mid, List.drop_take, Nat.add_sub_cancel_left]

set_option maxRecDepth 100000 in
set_option maxHeartbeats 4000000 in
theorem refParM_any (b : List UInt8) (hlen : b.length ≤ 100000) (w : World) :
    Calls Tryd.prog 16 #[.string (strOf b)] w fun e w' =>
      (∃ l, readM b.length b = some l ∧ RightM l ∧ ∃ v, e = .returned (.tuple #[v, .bool true]) ∧ OwnR encM 22 54 w w' v l) ∨
      ((readM b.length b = none ∨ ∃ l, readM b.length b = some l ∧ ¬ RightM l) ∧ e = .returned (.tuple #[.slice none 0 0, .bool false]) ∧ Below w.heap.size w w') := by
  obtain ⟨Z, hZ⟩ : ∃ Z, Z = idA id0 := ⟨_, rfl⟩
  have z : ∀ w, (zeroValue 43).run Tryd.prog w = .ok (.agg Z) w := fun w => by rw [hZ]; kernel_rfl
  have HZ := Lib.hid hZ
  have SX := fun (i : Nat) (I : Int) (hI : I = (i : Int)) (c : UInt8) (hc : b[i]? = some c) (W : World) => str_at Tryd.underlying9 b I hI hc W
  have SM := fun (i n : Nat) (I J : Int) (hI : I = (i : Int)) (hJ : J = ((i + n : Nat) : Int)) (hi : i + n ≤ b.length) (W : World) => str_mid Tryd.underlying9 b I J hI hJ hi W
  have hsz : (strOf b).size = b.length := strOf_size b
  obtain ⟨n, hn⟩ : ∃ n, n = b.length := ⟨_, rfl⟩
  have HN := Lib.hid (And.intro hn hlen)
  obtain ⟨S, hS⟩ : ∃ S, S = strOf b := ⟨_, rfl⟩
  rw [← hn] at hsz
  rw [← hS] at SX SM hsz ⊢
  have HSX := Lib.hid SX
  have HSM := Lib.hid SM
  have H0 := Lib.hid (Below.refl w.heap.size w)
  have hn1 : n ≤ 100000 := by omega
  clear hn hZ hlen SX SM hS
  go_enter Tryd.func16, Tryd.ntmps16
  go_wp2_with fail
  go_loopw [4, 5, 6, 7] (fun s4 s5 _ _ wr => ∃ (t : Nat) (pre : List MFile), s5 = .int .i64 (t : Int) ∧ t ≤ n ∧ pre.length ≤ t ∧ (∀ p ∈ pre, p.path.length ≤ n ∧ p.flag.length ≤ n) ∧ readM b.length b = (readM (b.drop t).length (b.drop t)).map (pre ++ ·) ∧ OwnR encM 22 54 w wr s4 pre) (fun _ s5 _ _ _ => n - (intOf s5).toNat)
  case atStart => exact ⟨0, [], rfl, Nat.zero_le _, Nat.le_refl _, fun _ h => (by simp at h), by simp, OwnR.nil H0.out⟩
  case round =>
    obtain ⟨t, pre, rfl, htn, hpl, hnm, hread, hrow⟩ := hrel
    have HR := Lib.hid (And.intro hpl (And.intro hnm (And.intro hread hrow)))
    clear hpl hnm hread hrow
    by_cases htl : t < n
    · have t1 : (t : Int) < (n : Int) := by omega
      obtain ⟨r, hr⟩ : ∃ r, r = b.drop t := ⟨_, rfl⟩
      have hrl : r.length = n - t := by rw [hr, List.length_drop, HN.out.1]
      have hri : ∀ i : Nat, r[i]? = b[t + i]? := fun i => by rw [hr, List.getElem?_drop]
      have HRR := Lib.hid (And.intro hr (And.intro hrl hri))
      clear hr hrl hri
      have EX : Hid (∀ i, i < n → ∃ c, b[i]? = some c) := Lib.hid fun i hi => ⟨b[i]'(by rw [← HN.out.1]; exact hi), List.getElem?_eq_getElem _⟩
      go_upto_block 2 with (fail)
      go_cut [6] from 15 to 26 (fun s6 W => ∃ e : Nat, s6 = .int .i64 (e : Int) ∧ t ≤ e ∧ e ≤ n ∧ FirstAt r 10 (e - t) ∧ W = wr)
      case first =>
        go_wp2_with fail
        go_loopw [6] (fun s6 W => ∃ e : Nat, s6 = .int .i64 (e : Int) ∧ t ≤ e ∧ e ≤ n ∧ (∀ i, i < e - t → r[i]? ≠ some 10) ∧ W = wr) (fun s6 _ => n - (intOf s6).toNat)
        case atStart => exact ⟨t, rfl, Nat.le_refl _, htn, fun i hi => by omega, rfl⟩
        case round =>
          obtain ⟨e, rfl, h1, h2, h3, rfl⟩ := hrel
          have H3 := Lib.hid h3
          clear h3
          by_cases hen : e < n
          · have t2 : (e : Int) < (n : Int) := by omega
            obtain ⟨c, hc⟩ := EX.out e hen
            have IX := fun W => HSX.out e (e : Int) rfl c hc W
            have hrc : r[e - t]? = some c := by rw [HRR.out.2.2, show t + (e - t) = e by omega]; exact hc
            have HC := Lib.hid hrc
            clear hc hrc
            by_cases h10 : c = 10
            · have t3 : ((c.toNat : Int) != 10) = false := by rw [h10]; rfl
              have HT := Lib.hid h10
              clear h10
              go_wp2_with (first | (refine wpList_unguard rfl (wpList_index_at rfl _ _ _ rfl _ _ _ rfl rfl (IX _) ?_)))
              go_meet
              case rel => exact ⟨e, rfl, h1, h2, ⟨by rw [HRR.out.2.1]; omega, H3.out, .inr (by rw [HC.out, HT.out])⟩, rfl⟩
            · have t3 : ((c.toNat : Int) != 10) = true := by
                simp only [bne_iff_ne, ne_eq]
                intro h; exact h10 (UInt8.toNat_inj.1 (by show c.toNat = 10; omega))
              have HT := Lib.hid h10
              clear h10
              go_wp2_with (first | (refine wpList_unguard rfl (wpList_index_at rfl _ _ _ rfl _ _ _ rfl rfl (IX _) ?_)))
              go_roundw
              case rel =>
                refine ⟨e + 1, by go_num, by omega, by omega, fun i hi => ?_, by first | rfl | trivial⟩
                rcases Nat.lt_or_ge i (e - t) with h | h
                · exact H3.out i h
                · obtain rfl : i = e - t := by omega
                  rw [HC.out]; intro h; exact HT.out (by injection h)
              case measure => simp [intOf]; omega
          · have t2 : ¬ (e : Int) < (n : Int) := by omega
            go_wp2_with fail
            go_meet
            case rel => exact ⟨e, rfl, h1, h2, ⟨by rw [HRR.out.2.1]; omega, H3.out, .inl (by rw [HRR.out.2.1]; omega)⟩, rfl⟩
      case rest =>
        obtain ⟨e, rfl, he1, he2, hfe, rfl⟩ := hcut
        have HFE := Lib.hid hfe
        clear hfe
        have H8c : Hid (FirstAt r 10 (e - t)) := HFE
        obtain ⟨k, hk⟩ : ∃ k, k = e - t := ⟨_, rfl⟩
        have hq : r.take k = (r.take (e - t)) := by rw [hk]
        obtain ⟨r1, hr1⟩ : ∃ r1, r1 = r.take (e - t) := ⟨_, rfl⟩
        have hr1l : r1.length = e - t := by rw [hr1, List.length_take, HRR.out.2.1]; omega
        have hr1i : ∀ i, i < e - t → r1[i]? = b[t + i]? := fun i hi => by rw [hr1, List.getElem?_take, if_pos hi, HRR.out.2.2]
        have HR1 := Lib.hid (And.intro hr1 (And.intro hr1l hr1i))
        clear hk hq k hr1 hr1l hr1i
        go_upto_block 4 with (fail)
        go_cut [7] from 28 to 38 (fun s7 W => ∃ q : Nat, s7 = .int .i64 (q : Int) ∧ t ≤ q ∧ q ≤ e ∧ FirstAt r1 0 (q - t) ∧ W = wc)
        case first =>
          go_wp2_with fail
          go_loopw [7] (fun s7 W => ∃ q : Nat, s7 = .int .i64 (q : Int) ∧ t ≤ q ∧ q ≤ e ∧ (∀ i, i < q - t → r1[i]? ≠ some 0) ∧ W = wc) (fun s7 _ => n - (intOf s7).toNat)
          case atStart => exact ⟨t, rfl, Nat.le_refl _, he1, fun i hi => by omega, rfl⟩
          case round =>
            obtain ⟨q, rfl, h1, h2, h3, rfl⟩ := hrel
            have H3 := Lib.hid h3
            clear h3
            by_cases hen : q < e
            · have t2 : (q : Int) < (e : Int) := by omega
              obtain ⟨c, hc⟩ := EX.out q (by omega)
              have IX := fun W => HSX.out q (q : Int) rfl c hc W
              have hrc : r1[q - t]? = some c := by rw [HR1.out.2.2 _ (by omega), show t + (q - t) = q by omega]; exact hc
              have HC := Lib.hid hrc
              clear hc hrc
              by_cases h10 : c = 0
              · have t3 : ((c.toNat : Int) != 0) = false := by rw [h10]; rfl
                have HT := Lib.hid h10
                clear h10
                go_wp2_with (first | (refine wpList_unguard rfl (wpList_index_at rfl _ _ _ rfl _ _ _ rfl rfl (IX _) ?_)))
                go_meet
                case rel => exact ⟨q, rfl, h1, h2, ⟨by rw [HR1.out.2.1]; omega, H3.out, .inr (by rw [HC.out, HT.out])⟩, rfl⟩
              · have t3 : ((c.toNat : Int) != 0) = true := by
                  simp only [bne_iff_ne, ne_eq]
                  intro h; exact h10 (UInt8.toNat_inj.1 (by show c.toNat = 0; omega))
                have HT := Lib.hid h10
                clear h10
                go_wp2_with (first | (refine wpList_unguard rfl (wpList_index_at rfl _ _ _ rfl _ _ _ rfl rfl (IX _) ?_)))
                go_roundw
                case rel =>
                  refine ⟨q + 1, by go_num, by omega, by omega, fun i hi => ?_, by first | rfl | trivial⟩
                  rcases Nat.lt_or_ge i (q - t) with h | h
                  · exact H3.out i h
                  · obtain rfl : i = q - t := by omega
                    rw [HC.out]; intro h; exact HT.out (by injection h)
                case measure => simp [intOf]; omega
            · have t2 : ¬ (q : Int) < (e : Int) := by omega
              go_wp2_with fail
              go_meet
              case rel => exact ⟨q, rfl, h1, h2, ⟨by rw [HR1.out.2.1]; omega, H3.out, .inl (by rw [HR1.out.2.1]; omega)⟩, rfl⟩
        case rest =>
          obtain ⟨q, rfl, hq1, hq2, hfz, rfl⟩ := hcut
          have hfz' : FirstAt (r.take (e - t)) 0 (q - t) := by rw [← HR1.out.1]; exact hfz
          have hr0 : r ≠ [] := fun h => by have := HRR.out.2.1; rw [h] at this; simp at this; omega
          have HFZ := Lib.hid hfz'
          have HR0 := Lib.hid hr0
          have HNONE : Hid (stepP r = none → readM b.length b = none) := Lib.hid fun h => by
            rw [HR.out.2.2.1, ← HRR.out.1, readM_none HR0.out h]; rfl
          clear hfz hfz' hr0
          by_cases hen : e = n
          · have HST := Lib.hid (HNONE.out (stepP_none HFE.out HFZ.out (.inl (by rw [HRR.out.2.1]; omega))))
            have t2 : ((e : Int) == (n : Int)) = true := by rw [hen]; simp
            have t2' : (e == n) = true := by rw [hen]; simp
            clear hen
            go_wp2_with fail
            go_ret2
            exact .inr ⟨.inl HST.out, rfl, HR.out.2.2.2.frame⟩
          have t2 : ((e : Int) == (n : Int)) = false := by rw [beq_eq_false_iff_ne]; omega
          have t2' : (e == n) = false := by rw [beq_eq_false_iff_ne]; omega
          by_cases h41 : e - q < 41
          · have HST := Lib.hid (HNONE.out (stepP_none HFE.out HFZ.out (.inr (by omega))))
            have t3 : (e : Int) - (q : Int) < 41 := by omega
            go_wp2_with fail
            go_ret2
            exact .inr ⟨.inl HST.out, rfl, HR.out.2.2.2.frame⟩
          have t3 : ¬ (e : Int) - (q : Int) < 41 := by omega
          have hst := stepP_some HFE.out HFZ.out (by rw [HRR.out.2.1]; omega) (by omega)
          have e1 : r.drop (q - t + 1) = b.drop (q + 1) := by rw [HRR.out.1, List.drop_drop]; congr 1; omega
          have e2 : r.drop (q - t + 41) = b.drop (q + 41) := by rw [HRR.out.1, List.drop_drop]; congr 1; omega
          have e3 : r.drop (e - t + 1) = b.drop (e + 1) := by rw [HRR.out.1, List.drop_drop]; congr 1; omega
          rw [e1, e2, e3, show e - t - (q - t) - 41 = e - q - 41 by omega] at hst
          have SL1 := fun W => HSM.out (q + 1) 40 ((q : Int) + 1) ((q : Int) + 41) (by omega) (by omega) (by rw [← HN.out.1]; omega) W
          have SL2 := fun W => HSM.out t (q - t) (t : Int) (q : Int) rfl (by omega) (by rw [← HN.out.1]; omega) W
          have SL3 := fun W => HSM.out (q + 41) (e - q - 41) ((q : Int) + 41) (e : Int) (by omega) (by omega) (by rw [← HN.out.1]; omega) W
          rw [← HRR.out.1] at SL2
          have CP := fun W => refParse_any (strOf ((b.drop (q + 1)).take 40)) W
          rw [show (strOf ((b.drop (q + 1)).take 40)).data.toList = (b.drop (q + 1)).take 40 from rfl] at CP
          obtain ⟨hx, hhx⟩ : ∃ x, x = (b.drop (q + 1)).take 40 := ⟨_, rfl⟩
          obtain ⟨pa, hpa⟩ : ∃ x, x = r.take (q - t) := ⟨_, rfl⟩
          obtain ⟨fl, hfl⟩ : ∃ x, x = (b.drop (q + 41)).take (e - q - 41) := ⟨_, rfl⟩
          have hpal : pa.length ≤ n := by rw [hpa, List.length_take, HRR.out.2.1]; omega
          have hfll : fl.length ≤ n := by rw [hfl, List.length_take, List.length_drop, ← HN.out.1]; omega
          rw [← hhx] at SL1 CP hst
          rw [← hpa] at SL2 hst
          rw [← hfl] at SL3 hst
          obtain ⟨X, hX⟩ : ∃ X, X = shaX hx := ⟨_, rfl⟩
          obtain ⟨OK, hOK⟩ : ∃ X, X = (unhex hx).isSome := ⟨_, rfl⟩
          rw [← hX, ← hOK] at CP
          have hcs : (OK = true ∧ stepP r = some (⟨pa, X, fl⟩, b.drop (e + 1))) ∨ (OK = false ∧ stepP r = none) := by
            cases hu : unhex hx with
            | none => right; rw [hu] at hst hOK; exact ⟨hOK, hst⟩
            | some x =>
              left
              rw [hu] at hst hOK
              have : X = x := by rw [hX]; unfold shaX; rw [hu]; rfl
              rw [this]; exact ⟨hOK, hst⟩
          have HCS := Lib.hid (And.intro hcs (And.intro hpal hfll))
          clear hst e1 e2 e3 hhx hpa hfl hpal hfll hX hOK hcs
          generalize strOf hx = SH at *
          obtain ⟨w5, hw5⟩ : ∃ w5 : World, w5 = wc := ⟨_, rfl⟩
          clear hw5 w5
          go_wp2_with (first | (refine wpList_slice_at rfl _ _ _ _ _ rfl _ _ _ _ _ rfl rfl rfl rfl (SL1 _) ?_))
          ((with_reducible refine Calls.mono (CP _) ?_))
          rintro ee w6 ⟨rfl, hw6⟩
          have HW6 := Lib.hid (HR.out.2.2.2.later hw6)
          have hzb : (w6.alloc (.cells Z 43)).heap[w6.heap.size]? = some (.cells Z 43 (0, 0)) := heap_alloc_last _ _ _ rfl
          have zs2 : Z.size = (idA X).size := by rw [HZ.out, idA_size, idA_size]
          have zi2 : (Tryd.prog.info? 43).map (·.size) = some (idA X).size := by rw [idA_size]; kernel_rfl
          have z12 := idA_one X
          have gA : Below w6.heap.size w6 ((w6.alloc (.cells Z 43)).setRow w6.heap.size (idA X)) := below_setRow ((Below.refl _ _).alloc (Nat.le_refl _) _) (Nat.le_refl _) _
          have hbx : ((w6.alloc (.cells Z 43)).setRow w6.heap.size (idA X)).heap[w6.heap.size]? = some (.cells (idA X) 43 (0, 0)) := setRow_heap _ _ _ _ _ _ hzb
          have HA := Lib.hid (And.intro (HW6.out.later gA) hbx)
          clear hw6 gA hbx CP SL1
          go_upto_region 13 with (refine wpList_store_row rfl 43 _ _ rfl w6.heap.size (idA X) rfl rfl 43 Z hzb zi2 zs2 z12 ?_)
          clear hzb zs2 zi2 z12
          obtain ⟨R2, hR2⟩ : ∃ R2, R2 = w6.heap.size := ⟨_, rfl⟩
          have HA2 := HA.out
          rw [← hR2] at HA2 ⊢
          generalize (w6.alloc (.cells Z 43)).setRow R2 (idA X) = w7 at *
          have HB := Lib.hid HA2
          clear hR2 HA2 HA
          cases OK
          · have HST := Lib.hid (HNONE.out (by
              rcases HCS.out.1 with ⟨h, _⟩ | ⟨_, h⟩
              · cases h
              · exact h))
            go_wp2_with fail
            go_ret2
            exact .inr ⟨.inl HST.out, rfl, HB.out.1.frame⟩
          have hst : stepP r = some (⟨pa, X, fl⟩, b.drop (e + 1)) := by
            rcases HCS.out.1 with ⟨_, h⟩ | ⟨h, _⟩
            · exact h
            · cases h
          have L9 : ∀ y : Later w7, (Instr.loadAt 43 (.pointer (some ⟨R2, 0, none⟩))).run Tryd.prog y.1 = .ok (.agg (idA X)) y.1 := fun y => load_id arrR (by kernel_rfl) X R2 0 y.1 (rangeR_below (fun j v hj => by
            rw [cell_of_row _ _ _ _ _ _ HB.out.2, Nat.zero_add]
            simpa [idA] using hj) y.2)
          have BN := fun W => buildN pa X fl W
          obtain ⟨f, hf⟩ : ∃ f : MFile, f = ⟨pa, X, fl⟩ := ⟨_, rfl⟩
          have hfp : f.path.length ≤ n ∧ f.flag.length ≤ n := by rw [hf]; exact HCS.out.2
          rw [← hf] at BN hst
          have B1 := fun W : World => tyN.slice1 f W
          have HST := Lib.hid (And.intro hst hfp)
          clear hf hst hfp
          have hrow := HB.out.1
          have hpl : pre.length + 1 ≤ 1000000000 := by have := HR.out.1; omega
          have HPL := Lib.hid hpl
          clear hpl
          generalize strOf pa = SPA at *
          generalize strOf fl = SFL at *
          generalize idA X = VX at *
          have WQ : IntKind.i64.wrap ((q : Int) + 41) = (q : Int) + 41 := IntWalk.i64_in _ (by omega)
          go_upto_region 15 with (fail)
          refine wp_region_mg [(0, 0), (1, 0), (2, 0), (3, 0), (4, 0), (5, 0), (6, 0), (7, 0), (8, 0), (9, 0), (10, 0), (11, 0), (12, 1), (13, 2), (14, 0)] (by kernel_rfl) (by kernel_rfl) ?_
          iterate 4 (refine mg_calm rfl (fun K hK => ?_); go_simp; (refine hK _ ?_; clear hK K))
          refine mg_slice rfl rfl _ _ _ _ _ rfl _ (some (.int .i64 (t : Int))) (some (.int .i64 (q : Int))) none _ rfl rfl rfl rfl SL2 ?_
          refine mg_load rfl rfl _ _ rfl _ _ rfl L9 ?_
          iterate 4 (refine mg_calm rfl (fun K hK => ?_); go_simp; (refine hK _ ?_; clear hK K))
          refine mg_slice rfl rfl _ _ _ _ _ rfl _ (some (.int .i64 ((q : Int) + 41))) (some (.int .i64 (e : Int))) none _ rfl rfl rfl rfl SL3 ?_
          refine mg_build rfl rfl _ _ rfl [(0, .string SPA), (1, .agg VX), (2, .string SFL)] _ rfl BN ?_
          refine mg_buildSlice rfl rfl rfl _ _ _ rfl [(0, .agg (recA encM f))] (recA encM f) 54 1 1 rfl B1 (fun w8 hw8 => ?_)
          have hp9 := RsAt.one (enc := encM) (L := 22) w8 54 f
          have hrow9 := (hrow.later hw8).later ((Below.refl _ _).alloc (Nat.le_refl _) (.cells (recA encM f) 54))
          generalize w8.alloc (.cells (recA encM f) 54) = w9 at *
          clear L9 SL2 SL3 BN B1 hrow hw8
          refine mg_sync rfl rfl (fun w10 hw10 K hK => ?_)
          have hrow10 := hrow9.later hw10
          have hp10 := hp9.below hw10
          clear hrow9 hp9 hw10
          refine wpList_append_r tyN rfl (.tmp 61) (.tmp 73) rfl _ pre rfl hrow10 (some ⟨w8.heap.size, 0, none⟩) 1 1 [f] rfl rfl hp10 HPL.out ?_
          intro v5 w11 hb5 hgr5 hgr0
          clear hgr5 hgr0 hrow10 hp10
          go_wp2_with fail
          iterate 1 (refine mg_calm rfl (fun K hK => ?_); go_simp; (refine hK _ ?_; clear hK K))
          refine mg_nil fun w12 hw12 => ?_
          have H12 := Lib.hid (hb5.later hw12)
          clear hb5 hw12
          go_wp2_with fail
          go_roundw
          case rel =>
            refine ⟨e + 1, pre ++ [f], by go_num, by omega, by have := HR.out.1; rw [List.length_append]; simp; omega, ?_, ?_, H12.out⟩
            · intro p hp
              rcases List.mem_append.1 hp with h | h
              · exact HR.out.2.1 p h
              · simp at h; rw [h]; exact HST.out.2
            · rw [HR.out.2.2.1, ← HRR.out.1, readM_some HST.out.1, Option.map_map]
              congr 1
              funext l
              simp
          case measure => simp [intOf]; omega
    · obtain rfl : t = n := by omega
      have t1 : ¬ (t : Int) < (t : Int) := by omega
      have hread : readM b.length b = some pre := by
        have h1 := HR.out.2.2.1
        rw [List.drop_of_length_le (by rw [← HN.out.1]; exact Nat.le_refl _)] at h1
        rw [h1]
        simp [readM]
      obtain ⟨v, c, rfl, hrs, -⟩ := HR.out.2.2.2.rs tyN
      have CR := refRight_any hrs (by have := HR.out.1; omega) (fun p hp => by have := HR.out.2.1 p hp; omega)
      have HRE := Lib.hid hread
      clear hread hrs
      go_wp2_with fail
      refine CR.mono ?_
      rintro e w9 ⟨rb, rfl, hrb, hw9⟩
      have H9 := Lib.hid (And.intro hrb hw9)
      clear CR hrb hw9
      cases rb
      · go_wp2_with fail
        go_ret2
        refine .inr ⟨.inr ⟨pre, HRE.out, fun h => by have := H9.out.1.2 h; cases this⟩, rfl, HR.out.2.2.2.frame.trans (H9.out.2.mono HR.out.2.2.2.frame.size)⟩
      · go_wp2_with fail
        go_ret2
        exact .inl ⟨pre, HRE.out, H9.out.1.1 trivial, _, rfl, HR.out.2.2.2.later H9.out.2⟩
end Go.Proofs.YtifoledkmjlmoaaDoor
namespace Go.Proofs.YtifoledkmjlmoaaDoor
open Go.RowKit Go.Mix Go.WideMaps

theorem cut_app {a rest : List UInt8} {c : UInt8} (h : c ∉ a) : cutA (a ++ c :: rest) c = a ∧ cutOk (a ++ c :: rest) c = true ∧ cutB (a ++ c :: rest) c = rest := by
  have hf : FirstAt (a ++ c :: rest) c a.length := by
    refine ⟨by simp, fun i hi e => ?_, .inr ?_⟩
    · rw [List.getElem?_append_left hi] at e
      exact h (List.mem_of_getElem? e)
    · rw [List.getElem?_append_right (Nat.le_refl _)]; simp
  obtain ⟨h1, h2, h3⟩ := first_cut hf
  have hl : a.length < (a ++ c :: rest).length := by simp
  refine ⟨by rw [h1]; simp, by rw [h2]; exact decide_eq_true hl, ?_⟩
  rw [h3 hl, List.drop_append]
  simp
theorem cut_join {l : List UInt8} {c : UInt8} (h : cutOk l c = true) : l = cutA l c ++ c :: cutB l c := by
  unfold cutA cutB
  rw [if_pos h, if_pos h]
  unfold cutOk at h
  have h0 := of_decide_eq_true h
  obtain ⟨h1, -⟩ := Lib.indexByte_some (l := l) (c := c) (o := (Lib.indexByte l c).toNat) (by omega)
  obtain ⟨h2, h3⟩ := List.getElem?_eq_some_iff.1 h1
  have := List.drop_eq_getElem_cons h2
  rw [h3] at this
  rw [← this, List.take_append_drop]
/-- A file whose line can be read. -/
structure LineOk (f : MFile) : Prop where
  p0 : (0 : UInt8) ∉ f.path
  p10 : (10 : UInt8) ∉ f.path
  f10 : (10 : UInt8) ∉ f.flag
theorem hexd_ten (n : Nat) (h : n < 16) : hexd n ≠ 10 := by
  have : ∀ n, n < 16 → hexd n ≠ 10 := by decide
  exact this n h
theorem hexL_ten (l : List UInt8) : (10 : UInt8) ∉ hexL l := by
  intro h
  unfold hexL at h
  obtain ⟨b, -, hb⟩ := List.mem_flatMap.1 h
  have h1 := hexd_ten (b.toNat / 16) (by have := b.toNat_lt; omega)
  have h2 := hexd_ten (b.toNat % 16) (by omega)
  simp at hb
  rcases hb with e | e
  · exact h1 e.symm
  · exact h2 e.symm
theorem step_line {f : MFile} (h : LineOk f) (rest : List UInt8) : stepP (lineM f ++ rest) = some (f, rest) := by
  have e : lineM f ++ rest = (f.path ++ 0 :: (hexL f.node.1 ++ f.flag)) ++ 10 :: rest := by simp [lineM, List.append_assoc]
  have hn : (10 : UInt8) ∉ f.path ++ 0 :: (hexL f.node.1 ++ f.flag) := by
    intro hm
    rcases List.mem_append.1 hm with hm | hm
    · exact h.p10 hm
    · rcases List.mem_cons.1 hm with hm | hm
      · exact absurd hm (by decide)
      · rcases List.mem_append.1 hm with hm | hm
        · exact hexL_ten _ hm
        · exact h.f10 hm
  obtain ⟨a1, a2, a3⟩ := cut_app (rest := rest) hn
  obtain ⟨b1, b2, b3⟩ := cut_app (rest := hexL f.node.1 ++ f.flag) h.p0
  have hl : (hexL f.node.1).length = 40 := by rw [hexL_len, f.node.2]
  have ht : (hexL f.node.1 ++ f.flag).take 40 = hexL f.node.1 := by
    rw [List.take_append_of_le_length (by omega), List.take_of_length_le (by omega)]
  have hd : (hexL f.node.1 ++ f.flag).drop 40 = f.flag := by
    rw [List.drop_append, List.drop_of_length_le (by omega), hl]; simp
  rw [e]
  unfold stepP
  rw [a1, a2, a3, b1, b2, b3, ht, hd, unhex_some rfl]
  rfl
theorem line_step {s r : List UInt8} {f : MFile} (h : stepP s = some (f, r)) : s = lineM f ++ r := by
  unfold stepP at h
  split at h
  · next hc =>
    rw [Bool.and_eq_true] at hc
    have j1 := cut_join hc.1
    have j2 := cut_join hc.2
    split at h
    · next x hu =>
      simp only [Option.some.injEq, Prod.mk.injEq] at h
      obtain ⟨rfl, rfl⟩ := h
      have hx : (cutB (cutA s 10) 0).take 40 = hexL x.1 := by
        rcases unhex_cases ((cutB (cutA s 10) 0).take 40) with ⟨y, hy, hy2⟩ | ⟨_, hn⟩
        · rw [hy2] at hu
          injection hu with e
          rw [← e]; exact hy
        · rw [hn] at hu; cases hu
      have j3 := (List.take_append_drop 40 (cutB (cutA s 10) 0)).symm
      rw [hx] at j3
      unfold lineM
      show s = cutA (cutA s 10) 0 ++ [0] ++ hexL x.1 ++ (cutB (cutA s 10) 0).drop 40 ++ [10] ++ cutB s 10
      calc s = cutA s 10 ++ 10 :: cutB s 10 := j1
        _ = (cutA (cutA s 10) 0 ++ 0 :: (hexL x.1 ++ (cutB (cutA s 10) 0).drop 40)) ++ 10 :: cutB s 10 := by rw [← j3, ← j2]
        _ = _ := by simp [List.append_assoc]
    · cases h
  · cases h
theorem read_text : ∀ l : List MFile, (∀ f ∈ l, LineOk f) → readM (textM l).length (textM l) = some l
  | [], _ => by simp [textM, readM]
  | f :: l, h => by
    have e : textM (f :: l) = lineM f ++ textM l := by unfold textM; rw [List.flatMap_cons]
    have hs := step_line (h f (by simp)) (textM l)
    rw [← e] at hs
    rw [readM_some hs, read_text l fun g hg => h g (by simp [hg])]; rfl
theorem text_read : ∀ (n : Nat) (s : List UInt8) (l : List MFile), readM n s = some l → textM l = s
  | _, [], l, h => by simp [readM] at h; subst h; rfl
  | 0, _ :: _, l, h => by simp [readM] at h
  | n + 1, c :: s, l, h => by
    unfold readM at h
    split at h
    · cases h
    · next f r hs =>
      obtain ⟨l', hl, rfl⟩ := Option.map_eq_some_iff.1 h
      have := text_read n r l' hl
      have e : textM (f :: l') = lineM f ++ textM l' := by unfold textM; rw [List.flatMap_cons]
      show textM (f :: l') = _
      rw [e, this, ← line_step hs]
theorem path_ok {p : List UInt8} (h : pathL p = true) : (0 : UInt8) ∉ p ∧ (10 : UInt8) ∉ p ∧ p.length ≤ 255 := by
  unfold pathL at h
  simp only [Bool.and_eq_true, Bool.not_eq_true', decide_eq_true_eq, List.any_eq_false] at h
  refine ⟨fun hm => ?_, fun hm => ?_, h.1.1⟩
  · exact h.1.2 0 hm (by decide)
  · exact h.1.2 10 hm (by decide)
theorem right_line {l : List MFile} (h : RightM l) : ∀ f ∈ l, LineOk f ∧ f.path.length ≤ 255 ∧ f.flag.length ≤ 1 := by
  intro f hf
  obtain ⟨i, hi, rfl⟩ := List.mem_iff_getElem.1 hf
  have h1 := h.1 i hi
  unfold stepM at h1
  rw [getElem!_pos l i hi] at h1
  simp only [Bool.and_eq_true] at h1
  have hp := path_ok h1.1.1
  have hfl : (10 : UInt8) ∉ l[i].flag ∧ l[i].flag.length ≤ 1 := by
    have h2 := h1.1.2
    unfold flagB at h2
    simp only [Bool.or_eq_true, decide_eq_true_eq] at h2
    rcases h2 with (e | e) | e <;> rw [e] <;> exact ⟨by decide, by decide⟩
  exact ⟨⟨hp.1, hp.2.1, hfl.1⟩, hp.2.2, hfl.2⟩
theorem read_right {l : List MFile} (h : RightM l) : readM (textM l).length (textM l) = some l := read_text l fun f hf => (right_line h f hf).1
end Go.Proofs.YtifoledkmjlmoaaDoor
