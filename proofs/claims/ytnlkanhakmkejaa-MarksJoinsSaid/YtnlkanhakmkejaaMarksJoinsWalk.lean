/-
  The law MarksJoins: the walk.
-/
import Derived.Test.YtnlkanhakmkejaaMarksTextsWalk
namespace Go.Proofs.Ytnlkanhakmkejaa
open Go.RowKit Go.Mix Go.WideMaps Go.Proofs

theorem u64_mod (n : Int) (K : Nat) (h0 : 0 < K) (h1 : K ≤ 9223372036854775807) : ∃ m : Nat, m < K ∧ wrap64 ((IntKind.u64.wrap n).tmod K) = (m : Int) := by
  have hw : IntKind.u64.wrap n = n % 18446744073709551616 := IntKind.wrap_u64 n
  have h2 : 0 ≤ n % 18446744073709551616 := Int.emod_nonneg _ (by decide)
  obtain ⟨u, hu⟩ := Int.eq_ofNat_of_zero_le h2
  refine ⟨u % K, Nat.mod_lt _ h0, ?_⟩
  rw [hw, hu, Int.tmod_eq_emod_of_nonneg (by omega), show ((u : Int) % (K : Int)) = ((u % K : Nat) : Int) from rfl, IntWalk.wrap64_in _ ⟨by omega, by have := Nat.mod_lt u h0; omega⟩]
theorem rt_take {l : List Pr} (h : Rt l) (j : Nat) : Rt (l.take j) := fun i k hk hi => by
  rw [List.length_take] at hi
  have e : ∀ x, x < (l.take j).length → (l.take j)[x]! = l[x]! := fun x hx => by
    have hx2 : x < l.length := by rw [List.length_take] at hx; omega
    rw [getElem!_pos _ x hx, getElem!_pos l x hx2, List.getElem_take]
  rw [e i (by rw [List.length_take]; omega), e k (by rw [List.length_take]; omega)]
  exact h i k hk (by omega)
theorem rt_drop {l : List Pr} (h : Rt l) (j : Nat) : Rt (l.drop j) := fun i k hk hi => by
  rw [List.length_drop] at hi
  have e : ∀ x, x < (l.drop j).length → (l.drop j)[x]! = l[j + x]! := fun x hx => by
    have hx2 : j + x < l.length := by rw [List.length_drop] at hx; omega
    rw [getElem!_pos _ x hx, getElem!_pos l (j + x) hx2, List.getElem_drop]
  rw [e i (by rw [List.length_drop]; omega), e k (by rw [List.length_drop]; omega)]
  exact h (j + i) (j + k) (by omega) (by omega)
theorem textL_take (l : List Pr) {j : Nat} (h : j ≤ l.length) : (textL l).take (82 * j) = textL (l.take j) := by
  conv => lhs; rw [← List.take_append_drop j l, textL_app]
  rw [show 82 * j = (textL (l.take j)).length by rw [textL_len, List.length_take]; omega, List.take_left]
theorem parse_odd {l : List Pr} {k : Nat} (hk : k ≤ (textL l).length) (h : k % 82 ≠ 0) : parseO ((textL l).take k) = ([], 4) := parseO_none fun m hm => by
  have := congrArg List.length hm
  rw [List.length_take, textL_len m] at this
  omega

/-- A part of pairs that are read: 's[:j]', 's[j:]'. -/
theorem PsAt.to {w : World} {a : Option Addr} {cap : Nat} {l : List Pr} (h : PsAt w a cap l) {t e f : TypeId} (T : PairTy t e f) {j : Nat} (hj : j ≤ l.length) (J : Int) (hJ : J = (j : Int)) :
    ∀ W : World, (Instr.slice t (.slice a l.length cap) none (some (.int .i64 J)) none).run Try.prog W = .ok (.slice a j cap) W := fun W => by
  subst hJ
  have hle := h.le
  exact run_slice_to t T.ht a l.length cap j (by omega) h.non T.se W
theorem PsAt.from {w : World} {a : Option Addr} {cap : Nat} {l : List Pr} (h : PsAt w a cap l) {t e f : TypeId} (T : PairTy t e f) {j : Nat} (hj : j ≤ l.length) (J : Int) (hJ : J = (j : Int)) :
    ∃ a2 c2, (∀ W : World, (Instr.slice t (.slice a l.length cap) (some (.int .i64 J)) none none).run Try.prog W = .ok (.slice a2 (l.length - j) c2) W) ∧ PsAt w a2 c2 (l.drop j) := by
  subst hJ
  have hle := h.le
  have hbig := h.big
  have he : Try.prog.elem t = e := by simp [Program.elem, T.ht]
  refine ⟨if cap = j then a else a.map (·.add (j * 40)), cap - j, fun W => ?_, ⟨by rw [List.length_drop]; omega, by omega, fun hn => ?_, ?_⟩⟩
  · rw [run_slice_l W t _ _ _ (by rw [he]; exact T.ht) .i64 (j : Int) (by omega) (by omega), he, T.se]
    simp [Result.andThen, sliced]
  · by_cases hc : cap = j
    · omega
    · rw [if_neg hc] at hn
      have := h.non (by cases a with | none => rfl | some x => simp at hn)
      omega
  · by_cases hd : j = l.length
    · subst hd; exact .inl (List.drop_length ..)
    · rcases h.cells with rfl | ⟨b, o, rfl, hc⟩
      · exact absurd (by simp at hj ⊢; exact hj) hd
      · rw [if_neg (by omega)]
        refine .inr ⟨b, o + j * 40, by simp [Addr.add_mid], fun i hi => ?_⟩
        rw [List.length_drop] at hi
        have := hc (j + i) (by omega)
        rw [getElem!_pos _ i (by rw [List.length_drop]; omega), List.getElem_drop, show o + j * 40 + i * 40 = o + (j + i) * 40 by omega]
        rw [getElem!_pos l (j + i) (by omega)] at this
        exact this

set_option maxRecDepth 100000 in
set_option maxHeartbeats 8000000 in
theorem marksJoins_at {w : World} {l : List Pr} {a : Option Addr} {cap : Nat} (hg : PsAt w a cap l) (cut : Int) :
    Calls Try.prog 6 #[.slice a l.length cap, .int .i64 cut] w fun e w' => e = .returned (.bool true) ∧ Below w.heap.size w w' := by
  have CF := few_any hg
  obtain ⟨m, hm⟩ : ∃ m, m = l.take 40 := ⟨_, rfl⟩
  have hm40 : m.length ≤ 40 := by rw [hm, List.length_take]; omega
  have HM := Lib.hid hm40
  rw [← hm] at CF
  generalize l.length = n0 at *
  clear hm hm40 hg
  go_enter Try.func6, Try.ntmps6
  go_wp2_with fail
  refine CF.mono ?_
  rintro e w2 ⟨v, rfl, ho⟩
  obtain ⟨am, cm, rfl, hps⟩ := ho.ps
  have HF2 := Lib.hid ho.frame
  have HPS := Lib.hid hps
  have C2 := print_any hps (by have := HM.out; omega)
  obtain ⟨n, hn⟩ : ∃ n, n = m.length := ⟨_, rfl⟩
  have HN := Lib.hid hn
  have hn40 : n ≤ 40 := by rw [hn]; exact HM.out
  rw [← hn] at C2 ⊢
  clear CF ho hps hn
  by_cases hR : Rt m
  · go_wp2_with fail
    refine C2.mono ?_
    rintro e w3 ⟨hyes, -, hb3⟩
    obtain ⟨pb, pc, rfl, hsp⟩ := hyes hR
    have hb3' := HF2.out.trans (hb3.mono HF2.out.size)
    have HB3 := Lib.hid (And.intro hb3 hb3')
    have HSP := Lib.hid hsp
    obtain ⟨np, hnp⟩ : ∃ x, x = 82 * n := ⟨_, rfl⟩
    have HNP := Lib.hid hnp
    have hnp4 : np ≤ 4000 := by omega
    rw [← hnp]
    clear C2 hb3 hb3' hyes hsp hnp
    go_wp2_with fail
    refine (known_any _).mono ?_
    rintro e w4 ⟨rfl, hb4⟩
    have HB4 := Lib.hid (And.intro (HB3.out.1.trans (hb4.mono HB3.out.1.size)) (And.intro (HB3.out.2.trans (hb4.mono HB3.out.2.size)) (HSP.out.below hb4)))
    clear hb4
    obtain ⟨k, hk, em⟩ := u64_mod cut (np + 1) (by omega) (by omega)
    rw [show ((np + 1 : Nat) : Int) = (np : Int) + 1 from rfl] at em
    have U1 : IntKind.u64.wrap ((np : Int) + 1) = (np : Int) + 1 := by rw [IntKind.wrap_u64]; omega
    have nz : ¬ ((np : Int) + 1 = 0) := by omega
    have nz' : (((np : Int) + 1) == 0) = false := by rw [beq_eq_false_iff_ne]; omega
    go_upto_region 6 with (fail)
    rw [em]
    clear em U1 nz nz'
    have hkt : k ≤ (textL m).length := by rw [textL_len, ← HN.out, ← HNP.out]; omega
    obtain ⟨p2, hp2, hp2l, hsp2, hsl2⟩ := HB4.out.2.2.to (k : Int) k rfl hkt
    rw [textL_len, ← HN.out, ← HNP.out, hp2l] at hsl2
    have C6 := parse_any hsp2 (by rw [hp2l]; omega)
    rw [hp2l] at C6
    have TM : (k : Int).tmod 82 = ((k % 82 : Nat) : Int) := by rw [Int.tmod_eq_emod_of_nonneg (by omega)]; omega
    have TD : (k : Int).tdiv 82 = ((k / 82 : Nat) : Int) := by rw [Int.tdiv_eq_ediv_of_nonneg (by omega)]; omega
    have ED : (k : Int) / 82 = ((k / 82 : Nat) : Int) := by omega
    obtain ⟨kr, hkr⟩ : ∃ x, x = k % 82 := ⟨_, rfl⟩
    obtain ⟨j, hj⟩ : ∃ x, x = k / 82 := ⟨_, rfl⟩
    rw [← hkr] at TM
    rw [← hj] at TD ED
    have hkj : k = 82 * j + kr := by omega
    have HKR := Lib.hid (And.intro hkr hkj)
    clear hkr hj hkj hp2l hsp2
    by_cases h0 : kr = 0
    · subst h0
      have hjn : j ≤ n := by have := HKR.out.2; have := HNP.out; omega
      have hp2' : p2 = textL (m.take j) := by rw [hp2, HKR.out.2, Nat.add_zero, textL_take _ (by rw [← HN.out]; exact hjn)]
      have hpo := (parseO_text hp2').1 (rt_take hR j)
      rw [hpo] at C6
      have hjl : (m.take j).length = j := by rw [List.length_take, ← HN.out]; omega
      have hdl : (m.drop j).length = n - j := by rw [List.length_drop, HN.out]
      have HJ := Lib.hid (And.intro hjl hdl)
      clear hp2 hp2' hpo hjl hdl
      go_wp2_with fail
      refine C6.mono ?_
      rintro e w6 ⟨v6, rfl, ho6⟩
      have hb6a := HB4.out.1.trans (ho6.frame.mono HB4.out.1.size)
      have hb6 := HB4.out.2.1.trans (ho6.frame.mono HB4.out.2.1.size)
      have hps6 := HPS.out.below hb6a
      have hsp6 := HB4.out.2.2.below ho6.frame
      obtain ⟨a6, c6, rfl, -⟩ := ho6.ps
      have SLT := hps6.to tyG (j := j) (by rw [← HN.out]; exact hjn) (j : Int) rfl
      rw [← HN.out] at SLT
      have CT := print_any (hps6.take j) (by rw [HJ.out.1]; omega)
      rw [HJ.out.1] at CT ⊢
      have HB6 := Lib.hid (And.intro hb6a (And.intro hb6 hsp6))
      clear C6 ho6 hb6a hb6 hps6 hsp6 hsl2
      go_wp2_with fail
      refine CT.mono ?_
      rintro e w7 ⟨hyes, -, hb7⟩
      obtain ⟨pa, pac, rfl, hsa⟩ := hyes (rt_take hR j)
      have hb7a := HB6.out.1.trans (hb7.mono HB6.out.1.size)
      have hb7b := HB6.out.2.1.trans (hb7.mono HB6.out.2.1.size)
      have hsp7 := HB6.out.2.2.below hb7
      obtain ⟨ad, cd, SLF, hpd⟩ := (HPS.out.below hb7a).from tyG (j := j) (by rw [← HN.out]; exact hjn) (j : Int) rfl
      rw [← HN.out] at SLF
      have CD := print_any hpd (by rw [HJ.out.2]; omega)
      rw [HJ.out.2] at CD
      have HB7 := Lib.hid (And.intro hb7b (And.intro hsp7 hsa))
      obtain ⟨lj, hlj⟩ : ∃ x, x = 82 * j := ⟨_, rfl⟩
      have HLJ := Lib.hid hlj
      rw [← hlj]
      clear CT hyes hb7 hb7a hb7b hsp7 hsa hpd SLT hlj
      go_wp2_with fail
      refine CD.mono ?_
      rintro e w8 ⟨hyes, -, hb8⟩
      obtain ⟨pd, pdc, rfl, hsd⟩ := hyes (rt_drop hR j)
      have hb8b := HB7.out.1.trans (hb8.mono HB7.out.1.size)
      have STp := (HB7.out.2.1.below hb8).str
      have STa := (HB7.out.2.2.below hb8).str
      have STd := hsd.str
      rw [textL_len, ← HN.out, ← HNP.out] at STp
      rw [textL_len, HJ.out.1, ← HLJ.out] at STa
      rw [textL_len, HJ.out.2] at STd
      obtain ⟨ld, hld⟩ : ∃ x, x = 82 * (n - j) := ⟨_, rfl⟩
      rw [← hld] at STd ⊢
      have A : ∀ W, (Op.stringOp .add (strOf (textL (m.take j))) (strOf (textL (m.drop j)))).run Try.prog W = .ok (.string (strOf (textL m))) W := fun W => by
        have := Go.run_string_add_lists (P := Try.prog) W (textL (m.take j)) (textL (m.drop j)) (by rw [textL_len, HJ.out.1]; omega) (by rw [textL_len, HJ.out.2]; omega)
        rw [← textL_app, List.take_append_drop] at this
        exact this
      change (convert 39 9 (.slice pb np pc)).run Try.prog w8 = .ok (.string (strOf (textL m))) w8 at STp
      change (convert 39 9 (.slice pa lj pac)).run Try.prog w8 = .ok (.string (strOf (textL (m.take j)))) w8 at STa
      change (convert 39 9 (.slice pd ld pdc)).run Try.prog w8 = .ok (.string (strOf (textL (m.drop j)))) w8 at STd
      have HB8 := Lib.hid hb8b
      generalize strOf (textL m) = T0 at *
      generalize strOf (textL (m.take j)) = T1 at *
      generalize strOf (textL (m.drop j)) = T2 at *
      have EJ : ((j : Int) == (j : Int)) = true := by simp
      clear CD hyes hb8 hb8b hsd SLF hld
      go_wp2_with fail
      go_ret
      exact ⟨rfl, HB8.out⟩
    · have hpo := parse_odd hkt (by rw [← HKR.out.1]; exact h0)
      rw [← hp2] at hpo
      rw [hpo] at C6
      have k1 : ((kr : Int) != 0) = true := by rw [bne_iff_ne]; omega
      have k1' : (kr != 0) = true := by rw [bne_iff_ne]; omega
      clear hp2 hpo
      go_wp2_with fail
      refine C6.mono ?_
      rintro e w6 ⟨v6, rfl, ho6⟩
      have HB6 := Lib.hid (HB4.out.2.1.trans (ho6.frame.mono HB4.out.2.1.size))
      obtain ⟨a6, c6, rfl, -⟩ := ho6.ps
      clear C6 ho6 hsl2
      go_wp2_with fail
      go_ret
      exact ⟨rfl, HB6.out⟩
  · go_wp2_with fail
    refine C2.mono ?_
    rintro e w3 ⟨-, hno, hb3⟩
    obtain rfl := hno hR
    have HB3 := Lib.hid (HF2.out.trans (hb3.mono HF2.out.size))
    clear C2 hb3 hno
    go_wp2_with fail
    refine (known_any _).mono ?_
    rintro e w4 ⟨rfl, hb4⟩
    have HB4 := Lib.hid (HB3.out.trans (hb4.mono HB3.out.size))
    clear hb4
    go_wp2_with fail
    refine (known_any _).mono ?_
    rintro e w5 ⟨rfl, hb5⟩
    have HB5 := Lib.hid (HB4.out.trans (hb5.mono HB4.out.size))
    clear hb5
    go_wp2_with fail
    go_ret
    exact ⟨rfl, HB5.out⟩
theorem marksJoins_walk (a : Option Addr) (len cap : Nat) (l : List Pr) (cut : Int) (W : World) (hl : l.length = len) (hw : PsAt W a cap l) (_hc : (Lit.int .i64 cut).wf = true) :
    Calls Try.prog 6 #[.slice a len cap, .int .i64 cut] W fun e w' => e = .returned (.bool true) ∧ Below W.heap.size W w' := by
  subst hl
  exact marksJoins_at hw cut
end Go.Proofs.Ytnlkanhakmkejaa
