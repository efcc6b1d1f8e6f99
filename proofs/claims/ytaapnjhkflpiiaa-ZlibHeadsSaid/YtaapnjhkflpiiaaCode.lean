/-
  The walks of (*bits).number, .code, .sign, .length, .distance of package deflate.
-/
import Derived.Test.YtaapnjhkflpiiaaPut
namespace Go.Proofs.Ytaapnjhkflpiiaa
open Go.RowKit Go.Mix

/-- A number of n bits, the highest first. -/
def codeBits (k : Nat) : Nat → List Nat
  | 0 => []
  | n + 1 => k / 2 ^ n % 2 :: codeBits k n
theorem codeBits_len (k n : Nat) : (codeBits k n).length = n := by induction n with
  | zero => rfl
  | succ n ih => simp [codeBits, ih]
theorem codeBits_isBits (k n : Nat) : IsBits (codeBits k n) := by
  induction n with
  | zero => intro x h; cases h
  | succ n ih =>
    intro x h
    rw [codeBits] at h
    rcases List.mem_cons.1 h with h | h
    · rw [h]; exact Nat.mod_lt _ (by decide)
    · exact ih x h

theorem and_one (k i : Nat) (h : k < 2 ^ 62) : bits .and .i64 ((k : Int) / 2 ^ i) 1 = ((k / 2 ^ i % 2 : Nat) : Int) := by
  have e : (k : Int) / 2 ^ i = ((k / 2 ^ i : Nat) : Int) := by rw [Int.natCast_ediv, Int.natCast_pow]; rfl
  have h1 : k / 2 ^ i ≤ k := Nat.div_le_self _ _
  rw [e, show (1 : Int) = ((1 : Nat) : Int) from rfl, (i64_bits_nat (k / 2 ^ i) 1 (by omega) (by decide)).1, Nat.and_one_is_mod]

set_option maxRecDepth 100000 in
set_option maxHeartbeats 1000000 in
theorem number_any (S : Nat → Prop) (P : Nat) (w0 : World) (bs : List Nat) (k n : Nat) (ki ni : Int) (w : World) (hki : ki = (k : Int)) (hni : ni = (n : Int)) (hk : k < 1000000000) (hn : n ≤ 16) (hbs : IsBits bs) (hs : BitsAt S w0 w P bs) (hroom : bs.length ≤ 900000000) :
    Calls Try.prog 53 #[.pointer (some ⟨P, 0, none⟩), .int .i64 ki, .int .i64 ni] w fun e w' => e = .returned (.tuple #[]) ∧ BitsAt S w0 w' P (bs ++ numBits k n) := by
  subst hki hni
  go_enter Try.func53, Try.ntmps53
  go_wp2_with fail
  go_loopw [8] (fun i wr => ∃ j : Nat, i = .int .i64 j ∧ j ≤ n ∧ BitsAt S w0 wr P (bs ++ numBits k j)) (fun i _ => n - (intOf i).toNat)
  case atStart => exact ⟨0, rfl, by omega, by simpa [numBits] using hs⟩
  case round =>
    obtain ⟨j, rfl, hj, hsj⟩ := hrel
    by_cases hjn : j < n
    · have hjn' : decide ((j : Int) < (n : Int)) = true := decide_eq_true (by omega)
      have hb := and_one k j (by omega)
      have hl := numBits_len k j
      have hlt : k / 2 ^ j % 2 < 2 := Nat.mod_lt _ (by decide)
      have e : bs ++ numBits k (j + 1) = bs ++ numBits k j ++ [k / 2 ^ j % 2] := by rw [numBits, List.append_assoc]
      generalize k / 2 ^ j % 2 = y at *
      have HE := Lib.hid e
      have HL := Lib.hid hl
      clear e hl
      go_wp2_with fail
      refine (put_any S P w0 (bs ++ numBits k j) y y _ rfl hlt (hbs.app (numBits_isBits k j)) hsj (by rw [List.length_append, HL.out]; omega)).mono ?_
      rintro e w1 ⟨rfl, hs1⟩
      rw [← HE.out] at hs1
      go_wp2_with fail
      go_roundw
      case rel => exact ⟨j + 1, by go_num, by omega, hs1⟩
      case measure => simp [intOf]; omega
    · obtain rfl : j = n := by omega
      go_wp2_with fail
      go_end0
      exact ⟨rfl, hsj⟩

set_option maxRecDepth 100000 in
set_option maxHeartbeats 1000000 in
theorem code_any (S : Nat → Prop) (P : Nat) (w0 : World) (bs : List Nat) (k n : Nat) (ki ni : Int) (w : World) (hki : ki = (k : Int)) (hni : ni = (n : Int)) (hk : k < 1000000000) (hn : n ≤ 16) (hbs : IsBits bs) (hs : BitsAt S w0 w P bs) (hroom : bs.length ≤ 900000000) :
    Calls Try.prog 68 #[.pointer (some ⟨P, 0, none⟩), .int .i64 ki, .int .i64 ni] w fun e w' => e = .returned (.tuple #[]) ∧ BitsAt S w0 w' P (bs ++ codeBits k n) := by
  subst hki hni
  go_enter Try.func68, Try.ntmps68
  go_wp2_with fail
  go_loopw [6] (fun i wr => ∃ (j : Nat) (cs : List Nat), i = .int .i64 ((j : Int) - 1) ∧ j ≤ n ∧ IsBits cs ∧ cs.length ≤ 900000100 - j ∧ cs ++ codeBits k j = bs ++ codeBits k n ∧ BitsAt S w0 wr P cs) (fun i _ => (intOf i + 1).toNat)
  case atStart => exact ⟨n, bs, rfl, by omega, hbs, by omega, rfl, hs⟩
  case round =>
    obtain ⟨j, cs, rfl, hj, hcs, hcl, hgo, hsj⟩ := hrel
    cases j with
    | zero =>
      have HE := Lib.hid (show cs = bs ++ codeBits k n by rw [← hgo]; simp [codeBits])
      clear hgo
      go_wp2_with fail
      go_end0
      exact ⟨rfl, by rw [← HE.out]; exact hsj⟩
    | succ j =>
      rw [show (((j + 1 : Nat) : Int) - 1) = (j : Int) from by omega]
      have hb := and_one k j (by omega)
      have hlt : k / 2 ^ j % 2 < 2 := Nat.mod_lt _ (by decide)
      rw [codeBits] at hgo
      generalize k / 2 ^ j % 2 = y at *
      have HG := Lib.hid (show cs ++ [y] ++ codeBits k j = bs ++ codeBits k n by rw [← hgo]; simp)
      clear hgo
      have h0 : decide (0 ≤ (j : Int)) = true := decide_eq_true (by omega)
      go_wp2_with fail
      refine (put_any S P w0 cs y y _ rfl hlt hcs hsj (by omega)).mono ?_
      rintro e w1 ⟨rfl, hs1⟩
      go_wp2_with fail
      go_roundw
      case rel => exact ⟨j, cs ++ [y], by go_num, by omega, hcs.snoc hlt, by rw [List.length_append]; simp; omega, HG.out, hs1⟩
      case measure => simp [intOf]

/-- A sign by the codes that are given. -/
def signBits (k : Nat) : List Nat :=
  if k < 144 then codeBits (48 + k) 8 else if k < 256 then codeBits (400 + k - 144) 9 else if k < 280 then codeBits (k - 256) 7 else codeBits (192 + k - 280) 8
theorem signBits_isBits (k : Nat) : IsBits (signBits k) := by
  unfold signBits; split
  · exact codeBits_isBits _ _
  · split
    · exact codeBits_isBits _ _
    · split
      · exact codeBits_isBits _ _
      · exact codeBits_isBits _ _
theorem signBits_len (k : Nat) : (signBits k).length ≤ 9 := by
  unfold signBits; split
  · rw [codeBits_len]; omega
  · split
    · rw [codeBits_len]; omega
    · split
      · rw [codeBits_len]; omega
      · rw [codeBits_len]; omega

set_option maxRecDepth 100000 in
theorem sign_any (S : Nat → Prop) (P : Nat) (w0 : World) (bs : List Nat) (k : Nat) (ki : Int) (w : World) (hki : ki = (k : Int)) (hk : k < 1000) (hbs : IsBits bs) (hs : BitsAt S w0 w P bs) (hroom : bs.length ≤ 900000000) :
    Calls Try.prog 56 #[.pointer (some ⟨P, 0, none⟩), .int .i64 ki] w fun e w' => e = .returned (.tuple #[]) ∧ BitsAt S w0 w' P (bs ++ signBits k) := by
  subst hki
  unfold signBits
  by_cases h1 : k < 144
  · have d1 : decide ((k : Int) < 144) = true := decide_eq_true (by omega)
    rw [if_pos h1]
    go_enter Try.func56, Try.ntmps56
    go_wp2_with fail
    refine Calls.mono (code_any S P w0 bs (48 + k) 8 _ _ _ (by omega) rfl (by omega) (by omega) hbs hs hroom) ?_
    rintro e w1 ⟨rfl, hs1⟩
    go_wp2_with fail
    go_end0
    exact ⟨rfl, hs1⟩
  · rw [if_neg h1]
    have d1 : decide ((k : Int) < 144) = false := decide_eq_false (by omega)
    by_cases h2 : k < 256
    · have d2 : decide ((k : Int) < 256) = true := decide_eq_true (by omega)
      rw [if_pos h2]
      go_enter Try.func56, Try.ntmps56
      go_wp2_with fail
      refine Calls.mono (code_any S P w0 bs (400 + k - 144) 9 _ _ _ (by omega) rfl (by omega) (by omega) hbs hs hroom) ?_
      rintro e w1 ⟨rfl, hs1⟩
      go_wp2_with fail
      go_end0
      exact ⟨rfl, hs1⟩
    · rw [if_neg h2]
      have d2 : decide ((k : Int) < 256) = false := decide_eq_false (by omega)
      by_cases h3 : k < 280
      · have d3 : decide ((k : Int) < 280) = true := decide_eq_true (by omega)
        rw [if_pos h3]
        go_enter Try.func56, Try.ntmps56
        go_wp2_with fail
        refine Calls.mono (code_any S P w0 bs (k - 256) 7 _ _ _ (by omega) rfl (by omega) (by omega) hbs hs hroom) ?_
        rintro e w1 ⟨rfl, hs1⟩
        go_wp2_with fail
        go_end0
        exact ⟨rfl, hs1⟩
      · have d3 : decide ((k : Int) < 280) = false := decide_eq_false (by omega)
        rw [if_neg h3]
        go_enter Try.func56, Try.ntmps56
        go_wp2_with fail
        refine Calls.mono (code_any S P w0 bs (192 + k - 280) 8 _ _ _ (by omega) rfl (by omega) (by omega) hbs hs hroom) ?_
        rintro e w1 ⟨rfl, hs1⟩
        go_wp2_with fail
        go_end0
        exact ⟨rfl, hs1⟩

/-- How often k is halved until it is below c. -/
def moreF (c k : Nat) : Nat → Nat → Nat
  | 0, m => m
  | f + 1, m => if k / 2 ^ m < c then m else moreF c k f (m + 1)
def lengthBits (n : Nat) : List Nat :=
  if n = 258 then signBits 285 else if n - 3 < 8 then signBits (257 + (n - 3))
  else signBits (257 + 4 * (moreF 8 (n - 3) 16 0 + 1) + (n - 3) / 2 ^ moreF 8 (n - 3) 16 0 % 4) ++ numBits ((n - 3) % 2 ^ moreF 8 (n - 3) 16 0) (moreF 8 (n - 3) 16 0)
def distBits (n : Nat) : List Nat :=
  if n - 1 < 4 then codeBits (n - 1) 5
  else codeBits (2 * (moreF 4 (n - 1) 16 0 + 1) + (n - 1) / 2 ^ moreF 4 (n - 1) 16 0 % 2) 5 ++ numBits ((n - 1) % 2 ^ moreF 4 (n - 1) 16 0) (moreF 4 (n - 1) 16 0)

theorem moreF_stop (c k : Nat) (hc : 1 ≤ c) : ∀ f m, f + m = 16 → k < 2 ^ 16 → k / 2 ^ moreF c k f m < c ∧ moreF c k f m ≤ 16 := by
  intro f
  induction f with
  | zero =>
    intro m hm hk
    obtain rfl : m = 16 := by omega
    rw [moreF, Nat.div_eq_of_lt hk]; omega
  | succ f ih =>
    intro m hm hk
    rw [moreF]
    split
    · omega
    · exact ih (m + 1) (by omega) hk

theorem and_mask (k m : Nat) (h : k < 2 ^ 62) (hm : m ≤ 16) : bits .and .i64 (k : Int) (2 ^ m - 1) = ((k % 2 ^ m : Nat) : Int) := by
  have h1 : 2 ^ m ≤ 2 ^ 16 := Nat.pow_le_pow_right (by decide) hm
  have h0 : 1 ≤ 2 ^ m := Nat.one_le_two_pow
  have e : (2 : Int) ^ m - 1 = ((2 ^ m - 1 : Nat) : Int) := by rw [Int.natCast_sub h0, Int.natCast_pow]; rfl
  rw [e, (i64_bits_nat k (2 ^ m - 1) (by omega) (by omega)).1, Nat.and_two_pow_sub_one_eq_mod]

theorem and_mask2 (k m : Nat) (h : k < 2 ^ 62) (hm : m ≤ 16) : bits .and .i64 (k : Int) (wrap64 (wrap64 (2 ^ m) - 1)) = ((k % 2 ^ m : Nat) : Int) := by
  have h1 : 2 ^ m ≤ 2 ^ 16 := Nat.pow_le_pow_right (by decide) hm
  have h0 : 1 ≤ 2 ^ m := Nat.one_le_two_pow
  have e : (2 : Int) ^ m = ((2 ^ m : Nat) : Int) := by rw [Int.natCast_pow]; rfl
  have h2 := and_mask k m h hm
  rw [e] at h2 ⊢
  have e1 : wrap64 ((2 ^ m : Nat) : Int) = ((2 ^ m : Nat) : Int) := IntWalk.wrap64_in _ ⟨by omega, by omega⟩
  have e2 : wrap64 (((2 ^ m : Nat) : Int) - 1) = ((2 ^ m : Nat) : Int) - 1 := IntWalk.wrap64_in _ ⟨by omega, by omega⟩
  rw [e1, e2]
  exact h2

theorem and_low (k i m : Nat) (z : Int) (hz : z = ((2 ^ m - 1 : Nat) : Int)) (h : k < 2 ^ 62) (hm : m ≤ 16) : bits .and .i64 ((k : Int) / 2 ^ i) z = ((k / 2 ^ i % 2 ^ m : Nat) : Int) := by
  subst hz
  have e : (k : Int) / 2 ^ i = ((k / 2 ^ i : Nat) : Int) := by rw [Int.natCast_ediv, Int.natCast_pow]; rfl
  have h1 : k / 2 ^ i ≤ k := Nat.div_le_self _ _
  have h2 : 2 ^ m ≤ 2 ^ 16 := Nat.pow_le_pow_right (by decide) hm
  rw [e, (i64_bits_nat (k / 2 ^ i) (2 ^ m - 1) (by omega) (by omega)).1, Nat.and_two_pow_sub_one_eq_mod]

theorem div_int (k m : Nat) : (k : Int) / 2 ^ m = ((k / 2 ^ m : Nat) : Int) := by rw [Int.natCast_ediv, Int.natCast_pow]; rfl

set_option maxRecDepth 100000 in
set_option maxHeartbeats 1000000 in
theorem length_any (S : Nat → Prop) (P : Nat) (w0 : World) (bs : List Nat) (n : Nat) (ni : Int) (w : World) (hni : ni = (n : Int)) (h3 : 3 ≤ n) (hn : n ≤ 258) (hbs : IsBits bs) (hs : BitsAt S w0 w P bs) (hroom : bs.length ≤ 800000000) :
    Calls Try.prog 54 #[.pointer (some ⟨P, 0, none⟩), .int .i64 ni] w fun e w' => e = .returned (.tuple #[]) ∧ BitsAt S w0 w' P (bs ++ lengthBits n) := by
  subst hni
  by_cases h1 : n = 258
  · subst h1
    go_enter Try.func54, Try.ntmps54
    go_wp2_with fail
    refine Calls.mono (sign_any S P w0 bs 285 _ _ rfl (by omega) hbs hs (by omega)) ?_
    rintro e w1 ⟨rfl, hs1⟩
    go_wp2_with fail
    refine bodyPost_ret (results_none rfl _ _ _) rfl ?_
    exact ⟨rfl, hs1⟩
  · have d1 : ((n : Int) == 258) = false := by simp; omega
    obtain ⟨k, hk⟩ : ∃ k, k = n - 3 := ⟨_, rfl⟩
    have hk2 : (n : Int) - 3 = (k : Int) := by omega
    have hk3 : k < 256 := by omega
    obtain ⟨M, hM⟩ : ∃ M, M = moreF 8 k 16 0 := ⟨_, rfl⟩
    have HLEN := Lib.hid (show lengthBits n = if k < 8 then signBits (257 + k) else signBits (257 + 4 * (M + 1) + k / 2 ^ M % 2 ^ 2) ++ numBits (k % 2 ^ M) M by
      unfold lengthBits; rw [if_neg h1, ← hk, ← hM])
    have HM := Lib.hid hM
    clear hk h1 hM
    go_enter Try.func54, Try.ntmps54
    go_wp2_with fail
    clear hk2
    go_loopw [5] (fun i wr => ∃ (m f : Nat), i = .int .i64 m ∧ m + f = 16 ∧ moreF 8 k f m = M ∧ w = wr) (fun i _ => 16 - (intOf i).toNat)
    case atStart => exact ⟨0, 16, rfl, rfl, HM.out.symm, rfl⟩
    case round =>
      obtain ⟨m, f, rfl, hmf, hgo, rfl⟩ := hrel
      have hd := div_int k m
      by_cases hlt : k / 2 ^ m < 8
      · have hM : moreF 8 k f m = m := by
          cases f with
          | zero => rfl
          | succ f => rw [moreF, if_pos hlt]
        have hgo2 : m = M := by rw [← hM]; exact hgo
        subst hgo2
        have ht : decide ((8 : Int) ≤ ((k / 2 ^ m : Nat) : Int)) = false := decide_eq_false (by omega)
        have hm16 : m ≤ 16 := by omega
        have hm4 := and_low k m 2 3 (by decide) (by omega) (by decide)
        rw [hd] at hm4
        have hmk := and_mask2 k m (by omega) hm16
        have h4 : k / 2 ^ m % 2 ^ 2 < 4 := Nat.mod_lt _ (by decide)
        have hr : k % 2 ^ m ≤ k := Nat.mod_le _ _
        clear hgo hM hlt HM
        generalize k / 2 ^ m % 2 ^ 2 = y at *
        generalize k / 2 ^ m = x at *
        generalize k % 2 ^ m = z at *
        by_cases h8 : k < 8
        · have d8 : decide ((k : Int) < 8) = true := decide_eq_true (by omega)
          go_wp2_with fail
          refine Calls.mono (sign_any S P w0 bs (257 + k) _ _ (by omega) (by omega) hbs hs (by omega)) ?_
          rintro e w1 ⟨rfl, hs1⟩
          go_wp2_with fail
          refine bodyPost_ret (results_none rfl _ _ _) rfl ?_
          exact ⟨rfl, by rw [HLEN.out, if_pos h8]; exact hs1⟩
        · have d8 : decide ((k : Int) < 8) = false := decide_eq_false (by omega)
          go_wp2_with fail
          refine Calls.mono (sign_any S P w0 bs (257 + 4 * (m + 1) + y) _ _ (by omega) (by omega) hbs hs (by omega)) ?_
          rintro e w1 ⟨rfl, hs1⟩
          have hsl := signBits_len (257 + 4 * (m + 1) + y)
          go_wp2_with fail
          refine Calls.mono (number_any S P w0 _ z m _ _ _ (by omega) rfl (by omega) (by omega) (hbs.app (signBits_isBits _)) hs1 (by rw [List.length_append]; omega)) ?_
          rintro e w2 ⟨rfl, hs2⟩
          go_wp2_with fail
          go_end0
          exact ⟨rfl, by rw [HLEN.out, if_neg h8, ← List.append_assoc]; exact hs2⟩
      · have ht : decide ((8 : Int) ≤ ((k / 2 ^ m : Nat) : Int)) = true := decide_eq_true (by omega)
        cases f with
        | zero => exfalso; rw [show m = 16 from by omega, Nat.div_eq_of_lt (by omega)] at hlt; omega
        | succ f =>
          rw [moreF, if_neg hlt] at hgo
          have HG := Lib.hid hgo
          clear hgo hlt
          generalize k / 2 ^ m = y at *
          go_wp2_with fail
          go_roundw
          case rel => exact ⟨m + 1, f, by go_num, by omega, HG.out, trivial⟩
          case measure => simp [intOf]; omega

set_option maxRecDepth 100000 in
set_option maxHeartbeats 1000000 in
theorem distance_any (S : Nat → Prop) (P : Nat) (w0 : World) (bs : List Nat) (n : Nat) (ni : Int) (w : World) (hni : ni = (n : Int)) (h3 : 1 ≤ n) (hn : n ≤ 32768) (hbs : IsBits bs) (hs : BitsAt S w0 w P bs) (hroom : bs.length ≤ 800000000) :
    Calls Try.prog 55 #[.pointer (some ⟨P, 0, none⟩), .int .i64 ni] w fun e w' => e = .returned (.tuple #[]) ∧ BitsAt S w0 w' P (bs ++ distBits n) := by
  subst hni
  obtain ⟨k, hk⟩ : ∃ k, k = n - 1 := ⟨_, rfl⟩
  have hk2 : (n : Int) - 1 = (k : Int) := by omega
  have hk3 : k < 32768 := by omega
  obtain ⟨M, hM⟩ : ∃ M, M = moreF 4 k 16 0 := ⟨_, rfl⟩
  have HLEN := Lib.hid (show distBits n = if k < 4 then codeBits k 5 else codeBits (2 * (M + 1) + k / 2 ^ M % 2 ^ 1) 5 ++ numBits (k % 2 ^ M) M by
    unfold distBits; rw [← hk, ← hM])
  have HM := Lib.hid hM
  clear hk hM
  by_cases h4 : k < 4
  · have d4 : decide ((k : Int) < 4) = true := decide_eq_true (by omega)
    go_enter Try.func55, Try.ntmps55
    go_wp2_with fail
    refine Calls.mono (code_any S P w0 bs k 5 _ _ _ (by omega) rfl (by omega) (by omega) hbs hs (by omega)) ?_
    rintro e w1 ⟨rfl, hs1⟩
    go_wp2_with fail
    refine bodyPost_ret (results_none rfl _ _ _) rfl ?_
    exact ⟨rfl, by rw [HLEN.out, if_pos h4]; exact hs1⟩
  · have d4 : decide ((k : Int) < 4) = false := decide_eq_false (by omega)
    go_enter Try.func55, Try.ntmps55
    go_wp2_with fail
    clear hk2
    go_loopw [5] (fun i wr => ∃ (m f : Nat), i = .int .i64 m ∧ m + f = 16 ∧ moreF 4 k f m = M ∧ w = wr) (fun i _ => 16 - (intOf i).toNat)
    case atStart => exact ⟨0, 16, rfl, rfl, HM.out.symm, rfl⟩
    case round =>
      obtain ⟨m, f, rfl, hmf, hgo, rfl⟩ := hrel
      have hd := div_int k m
      by_cases hlt : k / 2 ^ m < 4
      · have hM : moreF 4 k f m = m := by
          cases f with
          | zero => rfl
          | succ f => rw [moreF, if_pos hlt]
        have hgo2 : m = M := by rw [← hM]; exact hgo
        subst hgo2
        have ht : decide ((4 : Int) ≤ ((k / 2 ^ m : Nat) : Int)) = false := decide_eq_false (by omega)
        have hm16 : m ≤ 16 := by omega
        have hm4 := and_low k m 1 1 (by decide) (by omega) (by decide)
        rw [hd] at hm4
        have hmk := and_mask2 k m (by omega) hm16
        have h2 : k / 2 ^ m % 2 ^ 1 < 2 := Nat.mod_lt _ (by decide)
        have hr : k % 2 ^ m ≤ k := Nat.mod_le _ _
        clear hgo hM hlt HM
        generalize k / 2 ^ m % 2 ^ 1 = y at *
        generalize k / 2 ^ m = x at *
        generalize k % 2 ^ m = z at *
        go_wp2_with fail
        refine Calls.mono (code_any S P w0 bs (2 * (m + 1) + y) 5 _ _ _ (by omega) rfl (by omega) (by omega) hbs hs (by omega)) ?_
        rintro e w1 ⟨rfl, hs1⟩
        have hsl := codeBits_len (2 * (m + 1) + y) 5
        have HSL := Lib.hid hsl
        clear hsl
        go_wp2_with fail
        refine Calls.mono (number_any S P w0 _ z m _ _ _ (by omega) rfl (by omega) (by omega) (hbs.app (codeBits_isBits _ _)) hs1 (by rw [List.length_append, HSL.out]; omega)) ?_
        rintro e w2 ⟨rfl, hs2⟩
        go_wp2_with fail
        go_end0
        exact ⟨rfl, by rw [HLEN.out, if_neg h4, ← List.append_assoc]; exact hs2⟩
      · have ht : decide ((4 : Int) ≤ ((k / 2 ^ m : Nat) : Int)) = true := decide_eq_true (by omega)
        cases f with
        | zero => exfalso; rw [show m = 16 from by omega, Nat.div_eq_of_lt (by omega)] at hlt; omega
        | succ f =>
          rw [moreF, if_neg hlt] at hgo
          have HG := Lib.hid hgo
          clear hgo hlt
          generalize k / 2 ^ m = y at *
          go_wp2_with fail
          go_roundw
          case rel => exact ⟨m + 1, f, by go_num, by omega, HG.out, trivial⟩
          case measure => simp [intOf]; omega

end Go.Proofs.Ytaapnjhkflpiiaa
