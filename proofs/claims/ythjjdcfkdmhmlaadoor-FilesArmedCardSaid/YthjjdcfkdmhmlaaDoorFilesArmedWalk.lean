/-
  The law FilesArmed, walked.
-/
import Derived.Test.YthjjdcfkdmhmlaaDoorStKnown
namespace Go.Proofs.YthjjdcfkdmhmlaaDoor
open Go.RowKit Go.Mix Go.WideMaps Go.Maps

deriving instance DecidableEq for Chg
deriving instance DecidableEq for FileP
deriving instance DecidableEq for StP

/-- The store that is armed for n changes, behind i of them. -/
def armA (n i : Nat) : StP := ⟨1048576, i, if i = 0 then [] else [([97], ⟨(List.range i).map UInt8.ofNat, [], (List.range i).map fun k => ⟨k, -1, [UInt8.ofNat k]⟩⟩)], true, decide (n ≤ i), (n : Int) - (i : Int)⟩
theorem armA_start : ∀ n : Nat, n < 40 → armS (newS 1048576) (n : Int) = armA n 0 := by decide +kernel
theorem armA_step : ∀ n, n < 40 → ∀ i, i < n → writeS (armA n i) [97] (i : Int) [UInt8.ofNat i] = (armA n (i + 1), 0) := by decide +kernel
theorem armA_down (n : Nat) (i : Nat) (b : Bytes) : writeS (armA n n) [97] (i : Int) b = (armA n n, 8) := by
  unfold writeS
  rw [if_pos (by show decide (n ≤ n) = true; exact decide_eq_true (Nat.le_refl n))]
theorem armA_sync (n : Nat) : syncS (armA n n) [97] = (armA n n, 8) := by
  unfold syncS
  rw [if_pos (by show decide (n ≤ n) = true; exact decide_eq_true (Nat.le_refl n))]
theorem armA_get : ∀ n, n < 40 → (getF (armA n n).files [97]).map (fun f => f.now.length) = if n = 0 then none else some n := by decide +kernel
theorem armA_back : ∀ n, n < 40 → (getF (crashS (armA n n) [1000]).files [97]).map (fun f => f.now.length) = if n = 0 then none else some n := by decide +kernel
theorem armA_last : ∀ n, n < 40 → (writeS (crashS (armA n n) [1000]) [98] 0 []).2 = 0 := by decide +kernel

theorem u64_mod (n : Int) (K : Nat) (h0 : 0 < K) (h1 : K ≤ 9223372036854775807) : ∃ m : Nat, m < K ∧ wrap64 ((IntKind.u64.wrap n).tmod K) = (m : Int) := by
  have hw : IntKind.u64.wrap n = n % 18446744073709551616 := IntKind.wrap_u64 n
  have h2 : 0 ≤ IntKind.u64.wrap n := by rw [hw]; omega
  refine ⟨((IntKind.u64.wrap n).tmod K).toNat, ?_, ?_⟩
  · have := Int.tmod_lt_of_pos (IntKind.u64.wrap n) (b := (K : Int)) (by omega)
    have h3 := Int.tmod_nonneg (K : Int) h2
    omega
  · have := Int.tmod_lt_of_pos (IntKind.u64.wrap n) (b := (K : Int)) (by omega)
    have h3 := Int.tmod_nonneg (K : Int) h2
    unfold wrap64
    omega

set_option maxRecDepth 100000 in
set_option maxHeartbeats 4000000 in
theorem filesArmed_walk (a0 a1 : Int) (w : World) (_h0 : (Lit.int .i64 a0).wf = true) (_h1 : (Lit.int .i64 a1).wf = true) :
    Calls Tryd.prog 3 #[.int .i64 a0, .int .i64 a1] w fun e w' => e = .returned (.bool true) ∧ Below w.heap.size w w' := by
  have CK := fun W => known_any W
  obtain ⟨n, hn, en⟩ := u64_mod a0 40 (by decide) (by decide)
  obtain ⟨m, hm, em⟩ := u64_mod a1 20 (by decide) (by decide)
  change wrap64 ((IntKind.u64.wrap a0).tmod 40) = _ at en
  change wrap64 ((IntKind.u64.wrap a1).tmod 20) = _ at em
  go_enter Tryd.func3, Tryd.ntmps3
  go_wp2_with fail
  refine (new_live 1048576 w).mono ?_
  rintro e w1 ⟨p, own1, rfl, l1⟩
  have C1 := arm_at l1.at_ (n : Int)
  rw [armA_start n hn] at C1
  have H1 := Lib.hid l1
  clear l1
  go_wp2_with fail
  refine C1.mono ?_
  clear C1
  rintro e w2 hl
  obtain ⟨rfl, own2, l2⟩ := H1.out.crashed hl
  have ok2 : OkS 0 (armA n 0) := by rw [← armA_start n hn]; exact (OkS.new 1048576 ⟨by decide, by decide⟩).arm _ (by omega)
  have H2 := Lib.hid (And.intro l2 ok2)
  clear l2 hl H1 ok2
  go_wp2_with fail
  go_loopw [6] (fun s6 wr => ∃ (i : Nat) (own' : Owns), s6 = .int .i64 (i : Int) ∧ i ≤ n + m ∧ Live w.heap.size w own' wr p (armA n (min i n)) ∧ OkS (2 * min i n) (armA n (min i n))) (fun s6 _ => n + m - (intOf s6).toNat)
  case atStart => exact ⟨0, own2, rfl, Nat.zero_le _, by rw [Nat.zero_min]; exact H2.out.1, by rw [Nat.zero_min]; exact H2.out.2⟩
  case round =>
    obtain ⟨i, own3, rfl, hi, l3, ok3⟩ := hrel
    by_cases hin : i < n + m
    · have t1 : decide ((i : Int) < (n : Int) + (m : Int)) = true := decide_eq_true (by omega)
      have hu8 : IntKind.u8.wrap (i : Int) = (i : Int) := by rw [IntKind.wrap_u8]; omega
      have b1 : Sl (wr.alloc (.cells #[.int .u8 (i : Int)] 5)) (some ⟨wr.heap.size, 0, none⟩) 1 [UInt8.ofNat i] := by
        have h1 := const_bytes wr [UInt8.ofNat i] (by simp) (0, 0)
        have e8 : ((UInt8.ofNat i).toNat : Int) = (i : Int) := by rw [UInt8.toNat_ofNat']; omega
        rw [show (bcells [UInt8.ofNat i]).toArray = #[.int .u8 ((UInt8.ofNat i).toNat : Int)] from rfl, e8] at h1
        exact h1
      have C3 := write_at (l3.at_.below ((Below.refl _ _).alloc (Nat.le_refl _) (.cells #[.int .u8 (i : Int)] 5))) ok3 (by omega) [97] (by decide) (i : Int) ⟨by omega, by omega⟩ (nb := 1) b1 rfl (by decide) (fun x hx => by injection hx with hx; rw [← hx]; exact l3.not_new (Nat.le_refl _))
      have H3 := Lib.hid (And.intro (l3.below ((Below.refl _ _).alloc (Nat.le_refl _) (.cells #[.int .u8 (i : Int)] 5))) ok3)
      clear l3 ok3 b1
      by_cases hlt : i < n
      · have em2 : min i n = i := by omega
        have em3 : min (i + 1) n = i + 1 := by omega
        rw [em2, armA_step n hn i hlt] at C3
        have t2 : decide ((i : Int) < (n : Int)) = true := decide_eq_true (by omega)
        have t2' : decide (i < n) = true := decide_eq_true hlt
        have t3 : decide ((n : Int) ≤ (i : Int)) = false := decide_eq_false (by omega)
        have t3' : decide (n ≤ i) = false := decide_eq_false (by omega)
        have HM := Lib.hid (And.intro em2 em3)
        clear em2 em3
        go_wp2_with fail
        refine C3.mono ?_
        clear C3
        rintro e w4 hl
        obtain ⟨rfl, own4, l4⟩ := H3.out.1.left (r := (armA n (i + 1), 0)) hl
        have ok4 := H3.out.2.write [97] (i : Int) [UInt8.ofNat i]
        rw [HM.out.1, armA_step n hn i hlt] at ok4
        have H4 := Lib.hid (And.intro l4 (ok4.mono (show 2 * i + [UInt8.ofNat i].length + 1 ≤ 2 * (i + 1) by simp; omega)))
        clear l4 ok4 hl H3 hu8
        go_wp2_with fail
        go_roundw
        case rel => exact ⟨i + 1, own4, by go_num, by omega, by rw [HM.out.2]; exact H4.out.1, by rw [HM.out.2]; exact H4.out.2⟩
        case measure => simp [intOf]; omega
      · have em2 : min i n = n := by omega
        have em3 : min (i + 1) n = n := by omega
        rw [em2, armA_down] at C3
        have t2 : decide ((i : Int) < (n : Int)) = false := decide_eq_false (by omega)
        have t2' : decide (i < n) = false := decide_eq_false hlt
        have t3 : decide ((n : Int) ≤ (i : Int)) = true := decide_eq_true (by omega)
        have t3' : decide (n ≤ i) = true := decide_eq_true (by omega)
        have HM := Lib.hid (And.intro em2 em3)
        clear em2 em3
        go_wp2_with fail
        refine C3.mono ?_
        clear C3
        rintro e w4 hl
        obtain ⟨rfl, own4, l4⟩ := H3.out.1.left (r := (armA n n, 8)) hl
        have H4 := Lib.hid (And.intro l4 H3.out.2)
        clear l4 hl H3 hu8
        go_wp2_with fail
        go_roundw
        case rel => exact ⟨i + 1, own4, by go_num, by omega, by rw [HM.out.2]; exact H4.out.1, by rw [HM.out.2]; have h1 := H4.out.2; rw [HM.out.1] at h1; exact h1⟩
        case measure => simp [intOf]; omega
    · obtain rfl : i = n + m := by omega
      have t1 : decide (((n + m : Nat) : Int) < (n : Int) + (m : Int)) = false := decide_eq_false (by omega)
      have em2 : min (n + m) n = n := by omega
      rw [em2] at l3 ok3
      have ok4 : OkS 100 (armA n n) := ok3.mono (by omega)
      have C4 := read_at l3.at_ ok4 (by decide) [97] (by decide)
      have H3 := Lib.hid (And.intro l3 ok4)
      clear l3 ok3 ok4 em2 hin
      go_wp2_with fail
      refine C4.mono ?_
      clear C4
      rintro e w4 ⟨hsome, hnone, hb4⟩
      have l4 := H3.out.1.below hb4
      have hg := armA_get n hn
      have C5 := used_at l4.at_
      have C6 := sync_at l4.at_ H3.out.2 [97] (by decide)
      rw [armA_sync] at C6
      change Calls _ _ _ _ (fun e w' => e = .returned (.int .i64 (n : Int)) ∧ w4 = w') at C5
      obtain ⟨v, ev, en, hv⟩ : ∃ v x, e = .returned (.tuple #[v, .int .i64 x]) ∧ ((n = 0 ∧ x = 6 ∧ v = .slice none 0 0) ∨ (0 < n ∧ x = 0 ∧ ∃ a c, v = .slice a n c)) := by
        by_cases h0 : n = 0
        · rw [if_pos h0] at hg
          have hgn : getF (armA n n).files [97] = none := by cases hx : getF (armA n n).files [97] with | none => rfl | some f => rw [hx] at hg; cases hg
          exact ⟨_, _, hnone hgn, .inl ⟨h0, rfl, rfl⟩⟩
        · rw [if_neg h0] at hg
          obtain ⟨f, hf, hl⟩ : ∃ f, getF (armA n n).files [97] = some f ∧ f.now.length = n := by cases hx : getF (armA n n).files [97] with | none => rw [hx] at hg; cases hg | some f => rw [hx] at hg; exact ⟨f, rfl, by injection hg⟩
          obtain ⟨v, e1, hb⟩ := hsome f hf
          obtain ⟨a, c, e2, _⟩ := hb.1.sl
          rw [hl] at e2
          exact ⟨v, 0, e1, .inr ⟨by omega, rfl, a, c, e2⟩⟩
      subst en
      have H4 := Lib.hid l4
      clear hsome hnone hb4 hg l4
      rcases hv with ⟨h0, rfl, rfl⟩ | ⟨h0, rfl, a1, c1, rfl⟩
      · skip
        have t2 : decide ((0 : Int) < (n : Int)) = false := decide_eq_false (by omega)
        have t3 : ((n : Int) == 0) = true := by rw [beq_iff_eq]; omega
        go_wp2_with fail
        refine C5.mono ?_
        clear C5
        rintro e w5 ⟨rfl, rfl⟩
        go_wp2_with fail
        refine C6.mono ?_
        clear C6
        rintro e w6 hl
        obtain ⟨rfl, own6, l6⟩ := H4.out.left (r := (armA n n, 8)) hl
        have k6 : RsAt encI 1 (w6.alloc (.cells #[.int .i64 1000] 3)) (some ⟨w6.heap.size, 0, none⟩) 1 [1000] := const_ints w6 [1000] (by decide) (0, 0)
        have C7 := crash_at (l6.at_.below ((Below.refl _ _).alloc (Nat.le_refl _) (.cells #[.int .i64 1000] 3))) H3.out.2 (by decide) k6 rfl (by decide) (fun x hx => by injection hx with hx; rw [← hx]; exact l6.not_new (Nat.le_refl _))
        have H6 := Lib.hid (l6.below ((Below.refl _ _).alloc (Nat.le_refl _) (.cells #[.int .i64 1000] 3)))
        clear l6 k6 hl
        go_wp2_with fail
        refine C7.mono ?_
        clear C7
        rintro e w7 hl
        obtain ⟨rfl, own7, l7⟩ := H6.out.crashed hl
        have ok7 : OkS 100 (crashS (armA n n) [1000]) := H3.out.2.crash [1000] (fun h => absurd (show (1048576 : Int) < 0 from h) (by decide))
        have C8 := read_at l7.at_ ok7 (by decide) [97] (by decide)
        have H7 := Lib.hid (And.intro l7 ok7)
        clear l7 hl ok7
        go_wp2_with fail
        refine C8.mono ?_
        clear C8
        rintro e w8 ⟨hsome, hnone, hb8⟩
        have l8 := H7.out.1.below hb8
        have hg := armA_back n hn
        obtain ⟨v2, x2, e2, hv2⟩ : ∃ v x, e = .returned (.tuple #[v, .int .i64 x]) ∧ x = 6 ∧ v = .slice none 0 0 := by
          rw [if_pos h0] at hg
          have hgn : getF (crashS (armA n n) [1000]).files [97] = none := by cases hx : getF (crashS (armA n n) [1000]).files [97] with | none => rfl | some f => rw [hx] at hg; cases hg
          exact ⟨_, _, hnone hgn, rfl, rfl⟩
        subst e2
        obtain ⟨rfl, rfl⟩ := hv2
        have C9 := write_at l8.at_ H7.out.2 (by decide) [98] (by decide) 0 ⟨by decide, by decide⟩ (ab := none) (nb := 0) (cb := 0) (b := []) ⟨.inl rfl, Nat.le_refl _, by decide, fun _ => rfl⟩ rfl (by decide) (fun x hx => nomatch hx)
        have H8 := Lib.hid l8
        clear hsome hnone hb8 hg l8
        go_wp2_with fail
        refine C9.mono ?_
        clear C9
        rintro e w9 hl
        obtain ⟨he9, own9, l9⟩ := H8.out.left hl
        rw [armA_last n hn] at he9
        subst he9
        have H9 := Lib.hid l9
        clear l9 hl
        go_wp2_with fail
        refine (CK _).mono ?_
        rintro e w10 ⟨rfl, hw10⟩
        have H10 := Lib.hid (H9.out.frame.trans (hw10.mono H9.out.frame.size))
        clear hw10
        go_wp2_with fail
        go_ret
        exact ⟨rfl, H10.out⟩
      · skip
        have t2 : decide ((0 : Int) < (n : Int)) = true := decide_eq_true (by omega)
        have t2' : decide (0 < n) = true := decide_eq_true h0
        have t3 : ((n : Int) == 0) = false := by rw [beq_eq_false_iff_ne]; omega
        have t4 : ((n : Int) != (n : Int)) = false := by simp
        have t5 : ((n : Int) == (n : Int)) = true := by simp
        go_wp2_with fail
        refine C5.mono ?_
        clear C5
        rintro e w5 ⟨rfl, rfl⟩
        go_wp2_with fail
        refine C6.mono ?_
        clear C6
        rintro e w6 hl
        obtain ⟨rfl, own6, l6⟩ := H4.out.left (r := (armA n n, 8)) hl
        have k6 : RsAt encI 1 (w6.alloc (.cells #[.int .i64 1000] 3)) (some ⟨w6.heap.size, 0, none⟩) 1 [1000] := const_ints w6 [1000] (by decide) (0, 0)
        have C7 := crash_at (l6.at_.below ((Below.refl _ _).alloc (Nat.le_refl _) (.cells #[.int .i64 1000] 3))) H3.out.2 (by decide) k6 rfl (by decide) (fun x hx => by injection hx with hx; rw [← hx]; exact l6.not_new (Nat.le_refl _))
        have H6 := Lib.hid (l6.below ((Below.refl _ _).alloc (Nat.le_refl _) (.cells #[.int .i64 1000] 3)))
        clear l6 k6 hl
        go_wp2_with fail
        refine C7.mono ?_
        clear C7
        rintro e w7 hl
        obtain ⟨rfl, own7, l7⟩ := H6.out.crashed hl
        have ok7 : OkS 100 (crashS (armA n n) [1000]) := H3.out.2.crash [1000] (fun h => absurd (show (1048576 : Int) < 0 from h) (by decide))
        have C8 := read_at l7.at_ ok7 (by decide) [97] (by decide)
        have H7 := Lib.hid (And.intro l7 ok7)
        clear l7 hl ok7
        go_wp2_with fail
        refine C8.mono ?_
        clear C8
        rintro e w8 ⟨hsome, hnone, hb8⟩
        have l8 := H7.out.1.below hb8
        have hg := armA_back n hn
        obtain ⟨a2, c2, e2⟩ : ∃ a c, e = .returned (.tuple #[.slice a n c, .int .i64 0]) := by
          rw [if_neg (by omega)] at hg
          obtain ⟨f, hf, hl⟩ : ∃ f, getF (crashS (armA n n) [1000]).files [97] = some f ∧ f.now.length = n := by cases hx : getF (crashS (armA n n) [1000]).files [97] with | none => rw [hx] at hg; cases hg | some f => rw [hx] at hg; exact ⟨f, rfl, by injection hg⟩
          obtain ⟨v, e1, hb⟩ := hsome f hf
          obtain ⟨a, c, e2, _⟩ := hb.1.sl
          rw [hl] at e2
          rw [e2] at e1
          exact ⟨a, c, e1⟩
        subst e2
        have C9 := write_at l8.at_ H7.out.2 (by decide) [98] (by decide) 0 ⟨by decide, by decide⟩ (ab := none) (nb := 0) (cb := 0) (b := []) ⟨.inl rfl, Nat.le_refl _, by decide, fun _ => rfl⟩ rfl (by decide) (fun x hx => nomatch hx)
        have H8 := Lib.hid l8
        clear hsome hnone hb8 hg l8
        go_wp2_with fail
        refine C9.mono ?_
        clear C9
        rintro e w9 hl
        obtain ⟨he9, own9, l9⟩ := H8.out.left hl
        rw [armA_last n hn] at he9
        subst he9
        have H9 := Lib.hid l9
        clear l9 hl
        go_wp2_with fail
        refine (CK _).mono ?_
        rintro e w10 ⟨rfl, hw10⟩
        have H10 := Lib.hid (H9.out.frame.trans (hw10.mono H9.out.frame.size))
        clear hw10
        go_wp2_with fail
        go_ret
        exact ⟨rfl, H10.out⟩
end Go.Proofs.YthjjdcfkdmhmlaaDoor
