/-
  strings.HasPrefix; (*Store).free: the walks.
-/
import Derived.Test.YtnlkanhakmkejaaDoorStRight
namespace Go.Proofs.YtnlkanhakmkejaaDoor
open Go.RowKit Go.Mix Go.WideMaps Go.Maps

theorem pre_eq (s p : Bytes) : p.isPrefixOf s = (decide (p.length ≤ s.length) && decide (s.take p.length = p)) := by
  rw [Bool.eq_iff_iff, Bool.and_eq_true, decide_eq_true_eq, decide_eq_true_eq, List.isPrefixOf_iff_prefix, List.prefix_iff_eq_take]
  constructor
  · intro h
    exact ⟨by have := congrArg List.length h; rw [List.length_take] at this; omega, h.symm⟩
  · intro h; exact h.2.symm
set_option maxRecDepth 100000 in
set_option maxHeartbeats 2000000 in
theorem pre_lite (s p : Bytes) (W : World) : Calls Tryd.prog 44 #[.string (strOf s), .string (strOf p)] W fun e w' => e = .returned (.bool (p.isPrefixOf s)) ∧ W = w' := by
  rw [pre_eq]
  have hs := strOf_size s
  have hp := strOf_size p
  by_cases h : p.length ≤ s.length
  · have SL := fun W => str_to Tryd.underlying9 s h W
    have E := strOf_eq (s.take p.length) p
    have E' : ((strOf (s.take p.length)).toList == (strOf p).toList) = decide (s.take p.length = p) := by rw [strOf_list p]; exact E
    rw [decide_eq_true h, Bool.true_and]
    generalize decide (s.take p.length = p) = B at *
    generalize strOf (s.take p.length) = T at *
    have t1 : decide (((strOf p).size : Int) ≤ ((strOf s).size : Int)) = true := decide_eq_true (by omega)
    have t1' : decide ((strOf p).size ≤ (strOf s).size) = true := decide_eq_true (by omega)
    rw [← hp] at SL
    generalize strOf s = X at *
    generalize strOf p = Y at *
    clear E hs hp h
    go_enter Tryd.func44, Tryd.ntmps44
    go_wp2_with fail
    go_ret
    exact ⟨rfl, rfl⟩
  · rw [decide_eq_false h, Bool.false_and]
    have t1 : decide (((strOf p).size : Int) ≤ ((strOf s).size : Int)) = false := decide_eq_false (by omega)
    have t1' : decide ((strOf p).size ≤ (strOf s).size) = false := decide_eq_false (by omega)
    generalize strOf s = X at *
    generalize strOf p = Y at *
    clear hs hp h
    go_enter Tryd.func44, Tryd.ntmps44
    go_wp2_with fail
    go_ret
    exact ⟨rfl, rfl⟩
set_option maxRecDepth 100000 in
theorem pre_any (s p : Bytes) (W : World) : Calls Tryd.prog 24 #[.string (strOf s), .string (strOf p)] W fun e w' => e = .returned (.bool (p.isPrefixOf s)) ∧ W = w' := by
  have C := pre_lite s p W
  generalize p.isPrefixOf s = B at *
  generalize strOf s = X at *
  generalize strOf p = Y at *
  go_enter Tryd.func24, Tryd.ntmps24
  go_wp2_with fail
  refine C.mono ?_
  rintro e w' ⟨rfl, rfl⟩
  clear C
  go_wp2_with fail
  go_ret
  exact ⟨rfl, rfl⟩

/-- A key's round: nothing is left to come; or some path comes. -/
theorem next_key {w : World} {ops : Array Oper} {rest : List Oper} {o : Oper} {a : Act} {Q : Exit → Act → World → Prop} (hg : o.guard = none) (it : Operand) (hop : o.op = Op.next it false) (b r n : Nat) (D : DataW Unit) (left : Lit → Bool) (cnt : Nat)
    (hit : a.eval it = .pointer (some ⟨r, 0, none⟩)) (h : w.ranges Tryd.prog 9 ptrR b r n D left cnt)
    (hDone : (∀ kl, left kl = false) → wpList Tryd.prog ops Q rest (a.put o.dst (.tuple #[.bool false])) w)
    (hMore : ∀ (x : Bytes) (v : Value) (w' : World) (cnt' : Nat), left (.string x) = true → Maps.has D (.string x) = true → w'.ranges Tryd.prog 9 ptrR b r n D (fun z => left z && !z.sameKey (.string x)) cnt' → cnt' < cnt →
      w.grownBy w' (some r) → (Instr.entry (.pointer (some ⟨r, 0, none⟩))).run Tryd.prog w' = .ok (.tuple #[.string (strOf x), v]) w' → wpList Tryd.prog ops Q rest (a.put o.dst (.tuple #[.bool true, .string (strOf x), v])) w') :
    wpList Tryd.prog ops Q (o :: rest) a w :=
  wpList_next_ranges w hg it hop 9 keyed ptrR (fun x : Bytes => .string (strOf x)) (fun v : Value => v)
    (fun key kl hkey => by obtain ⟨x, rfl, _, _⟩ := Maps.keyOf_str Tryd.underlying9 hkey; exact ⟨x, rfl⟩) (fun v _ _ => ⟨v, rfl⟩) b r n D left cnt hit h (fun _ hl => hDone hl)
    (fun x c kl y w' cnt' hkey hlk _ hat hrg hlt hgr _ hen => by
      obtain ⟨x', ex, rfl, _⟩ := Maps.keyOf_str Tryd.underlying9 hkey
      have e : x = x' := strOf_inj (by injection ex)
      subst e
      exact hMore x c w' cnt' hlk (has_true_of_atKey hat) hrg hlt hgr hen)

set_option maxRecDepth 100000 in
set_option maxHeartbeats 4000000 in
theorem free_any {own : Owns} {w : World} {p M : Nat} {G : Bytes → Nat} {S : StP} (h : StoreIn own w p M G S) (hk : ∀ q ∈ S.files, q.1.length ≤ 255) (path but : Bytes) (hpath : path.length ≤ 100000) :
    Calls Tryd.prog 36 #[ptr p, .string (strOf path), .string (strOf but)] w fun e w' => e = .returned (.bool (freeF S.files path but)) ∧ Below w.heap.size w w' := by
  obtain ⟨-, -, c2, -⟩ := h.cells
  obtain ⟨D, hown, hm, hat⟩ := h.map.ex
  have HAT := Lib.hid (And.intro (has_files hat) hk)
  have A1 := fun W => str_add path [47] (by omega) (by decide) W
  have e47 : strOf [47] = ⟨#[47]⟩ := rfl
  rw [e47] at A1
  have HP := Lib.hid hpath
  clear h hm hat hk hpath
  generalize hn : Maps.size D = n at hown
  clear hn
  go_enter Tryd.func36, Tryd.ntmps36
  go_wp2_with (first
    | (at_range; refine wpList_range_own _ rfl _ 42 rfl 9 63 keyed Tryd.underlying42 ptrR M n D rfl hown ?_; intro w0 hrg0 hg0 hs0)
    | go_in)
  go_frame
  have HG0 := Lib.hid (And.intro hg0 hs0)
  clear hg0 hs0 c2
  go_loopw [7] (fun _ wr => ∃ (left : Lit → Bool) (cnt : Nat), wr.ranges Tryd.prog 9 ptrR M w.heap.size n D left cnt ∧ w.grownBy wr none ∧ (∀ x, left (.string x) = false → Maps.has D (.string x) = true → (decide (x ≠ but) && (underF path x || underF x path)) = false))
    (fun _ wr => wr.rangeLeft M w.heap.size)
  case atStart => exact ⟨_, _, hrg0, HG0.out.1, fun x h1 h2 => by rw [h2] at h1; cases h1⟩
  case round =>
    clear hrg0 HG0 hown
    obtain ⟨left, cnt, hrg, hgw, hno⟩ := hrel
    have HR := Lib.hid (And.intro hgw hno)
    clear hgw hno
    go_wp2_with (first
      | (at_next; refine next_key rfl _ rfl M w.heap.size n D left cnt rfl hrg ?_ ?_)
      | go_in)
    · intro hl0
      have HL := Lib.hid hl0
      clear hl0
      go_wp2_with fail
      go_ret
      refine ⟨?_, ⟨HR.out.1.os, HR.out.1.tape, HR.out.1.output, HR.out.1.size, fun k hk => HR.out.1.block k hk (by simp)⟩⟩
      refine ret_bool ?_
      unfold freeF
      symm
      rw [Bool.not_eq_true']
      rw [List.any_eq_false]
      intro q hq
      have hh : Maps.has D (.string q.1) = true := by
        rw [HAT.out.1, Option.isSome_iff_ne_none, Ne, getF_none]
        exact fun hn => hn q hq rfl
      rw [HR.out.2 q.1 (HL.out _) hh]
      simp
    · intro x v w1 cnt1 hlx hhas hrg1 hlt hg1 hen
      have hxl : x.length ≤ 255 := by
        have h1 := HAT.out.1 x
        rw [hhas] at h1
        obtain ⟨f, hf⟩ := Option.isSome_iff_exists.1 h1.symm
        exact HAT.out.2 _ (getF_mem hf)
      have hgw1 : w.grownBy w1 none := HR.out.1.andThen hg1 (fun j hj => by cases hj; exact Or.inl (Nat.le_refl _))
      have hstep : (decide (x ≠ but) && (underF path x || underF x path)) = false → ∀ y, (left (.string y) && !(Lit.string y).sameKey (.string x)) = false → Maps.has D (.string y) = true → (decide (y ≠ but) && (underF path y || underF y path)) = false := fun h0 y h1 h2 => by
        by_cases hy : y = x
        · rw [hy]; exact h0
        · refine HR.out.2 y ?_ h2
          rw [sameKey_ne (fun e => hy (by injection e))] at h1
          simpa using h1
      have hin : ∃ q ∈ S.files, q.1 = x := by
        have h1 := HAT.out.1 x
        rw [hhas] at h1
        obtain ⟨f, hf⟩ := Option.isSome_iff_exists.1 h1.symm
        exact ⟨_, getF_mem hf, rfl⟩
      have hyes : (decide (x ≠ but) && (underF path x || underF x path)) = true → freeF S.files path but = false := fun h0 => by
        unfold freeF
        rw [Bool.not_eq_false']
        obtain ⟨q, hq, rfl⟩ := hin
        exact List.any_eq_true.2 ⟨q, hq, h0⟩
      have C1 := fun W => pre_any x (path ++ [47]) W
      have C2 := fun W => pre_any path (x ++ [47]) W
      have A2 := fun W => str_add x [47] (by omega) (by decide) W
      rw [e47] at A2
      have E := strOf_eq x but
      have E' : ((strOf x).toList == (strOf but).toList) = decide (x = but) := by rw [strOf_list but]; exact E
      have E2 : decide (x ≠ but) = !decide (x = but) := by simp
      have HS := Lib.hid (And.intro hgw1 (And.intro hstep (And.intro hyes (And.intro hrg1 (And.intro hlt hrg)))))
      change ∀ W, Calls _ _ _ W (fun e w' => e = .returned (.bool (underF path x)) ∧ W = w') at C1
      change ∀ W, Calls _ _ _ W (fun e w' => e = .returned (.bool (underF x path)) ∧ W = w') at C2
      obtain ⟨b1, hb1⟩ : ∃ b, b = underF path x := ⟨_, rfl⟩
      obtain ⟨b2, hb2⟩ : ∃ b, b = underF x path := ⟨_, rfl⟩
      obtain ⟨b0, hb0⟩ : ∃ b, b = decide (x = but) := ⟨_, rfl⟩
      rw [← hb1] at C1
      rw [← hb2] at C2
      rw [← hb0] at E' E2
      have HB := Lib.hid (And.intro hb1 (And.intro hb2 E2))
      clear hgw1 hstep hyes hrg1 hlt hg1 hrg hb1 hb2 hb0 E E2 hin hxl hhas hlx
      generalize strOf (path ++ [47]) = T1 at *
      generalize strOf (x ++ [47]) = T2 at *
      generalize strOf x = T5 at *
      cases b0
      · cases b1
        · cases b2
          · go_wp2_with (first | (go_at_call 24; first | (refine (C1 _).mono ?_; rintro e w' ⟨rfl, rfl⟩) | (refine (C2 _).mono ?_; rintro e w' ⟨rfl, rfl⟩)))
            go_roundw
            case rel => exact ⟨_, cnt1, HS.out.2.2.2.1, HS.out.1, HS.out.2.1 (by rw [← HB.out.1, ← HB.out.2.1]; simp)⟩
            case measure => rw [HS.out.2.2.2.1.left_eq, HS.out.2.2.2.2.2.left_eq]; exact HS.out.2.2.2.2.1
          · go_wp2_with (first | (go_at_call 24; first | (refine (C1 _).mono ?_; rintro e w' ⟨rfl, rfl⟩) | (refine (C2 _).mono ?_; rintro e w' ⟨rfl, rfl⟩)))
            go_ret
            refine ⟨ret_bool (HS.out.2.2.1 (by rw [← HB.out.1, ← HB.out.2.1, HB.out.2.2]; rfl)).symm, ⟨HS.out.1.os, HS.out.1.tape, HS.out.1.output, HS.out.1.size, fun k hk => HS.out.1.block k hk (by simp)⟩⟩
        · go_wp2_with (first | (go_at_call 24; first | (refine (C1 _).mono ?_; rintro e w' ⟨rfl, rfl⟩) | (refine (C2 _).mono ?_; rintro e w' ⟨rfl, rfl⟩)))
          go_ret
          refine ⟨ret_bool (HS.out.2.2.1 (by rw [← HB.out.1, ← HB.out.2.1, HB.out.2.2]; rfl)).symm, ⟨HS.out.1.os, HS.out.1.tape, HS.out.1.output, HS.out.1.size, fun k hk => HS.out.1.block k hk (by simp)⟩⟩
      · go_wp2_with fail
        go_roundw
        case rel => exact ⟨_, cnt1, HS.out.2.2.2.1, HS.out.1, HS.out.2.1 (by rw [HB.out.2.2]; rfl)⟩
        case measure => rw [HS.out.2.2.2.1.left_eq, HS.out.2.2.2.2.2.left_eq]; exact HS.out.2.2.2.2.1
end Go.Proofs.YtnlkanhakmkejaaDoor
