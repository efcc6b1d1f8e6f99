/-
  The document's names of refs: plain; within, Right: the walks.
-/
import Derived.Test.YtponfkfeflnilaaGreatDoorMaNam
import Derived.Lib.IndexMore
namespace Go.Proofs.YtponfkfeflnilaaGreatDoor
open Go.RowKit Go.Mix Go.WideMaps

theorem wpList_slice_at {P : Program} {ops : Array Oper} {rest : List Oper} {o : Oper} {a : Act} {w : World} {Q : Exit → Act → World → Prop} (hgd : o.guard = none)
    (ty : TypeId) (x : Operand) (lo hi mx : Option Operand) (hop : o.op = .slice ty x lo hi mx) (V : Value) (LO HI MX : Option Value) (v : Value) (hx : a.eval x = V) (h1 : lo.map a.eval = LO) (h2 : hi.map a.eval = HI) (h3 : mx.map a.eval = MX) (hl : (Instr.sliceAt ty V LO HI MX).run P w = .ok v w)
    (h : wpList P ops Q rest (a.put o.dst v) w) : wpList P ops Q (o :: rest) a w :=
  wpList_plain hgd fun _ hK => by
    unfold Oper.wp execOp
    simp only [hop, hx, h1, h2, h3, Sem.run_bind, Sem.run_pure, Result.andThen_ok, hl]
    exact hK _ _ h
theorem str_mid {k : TypeId} (hu : Tryz.prog.underlying k = some .string) (x : List UInt8) {i n : Nat} (I J : Int) (hI : I = (i : Int)) (hJ : J = ((i + n : Nat) : Int)) (hi : i + n ≤ x.length) (W : World) : (Instr.sliceAt k (.string (strOf x)) (some (.int .i64 I)) (some (.int .i64 J)) none).run Tryz.prog W = .ok (.string (strOf ((x.drop i).take n))) W := by
  subst hI hJ
  rw [run_sliceAt_string W k _ _ _ _ hu, run_slice_string W k _ .i64 .i64 (i : Int) ((i + n : Nat) : Int) hu (by omega) (by omega) (by rw [strOf_size]; omega), Int.toNat_natCast, Int.toNat_natCast, ext_mid, List.drop_take, Nat.add_sub_cancel_left]

theorem contains_yes {s p : Bytes} {i : Nat} (hi : i + p.length ≤ s.length) (h : (s.drop i).take p.length = p) : Lib.contains s p = true := by
  unfold Lib.contains
  rw [decide_eq_true_eq]
  rcases Lib.index_spec s p with ⟨-, h2⟩ | ⟨k, h2, -⟩
  · have := h2 i (by omega)
    rw [Lib.occAt_iff_take s p i hi, h] at this
    simp at this
  · omega
theorem contains_no {s p : Bytes} {i : Nat} (hp : p ≠ []) (hi : s.length < i + p.length) (h : ∀ j, j < i → (s.drop j).take p.length ≠ p) : Lib.contains s p = false := by
  unfold Lib.contains
  rw [decide_eq_false_iff_not]
  rcases Lib.index_spec s p with ⟨h2, -⟩ | ⟨k, -, hk, h3, -⟩
  · omega
  · rcases Lib.occAt_room h3 with h4 | h4
    · rw [Lib.occAt_iff_take s p k h4, beq_iff_eq] at h3
      exact absurd h3 (h k (by omega))
    · exact absurd h4 hp

set_option maxRecDepth 100000 in
set_option maxHeartbeats 2000000 in
theorem within_any (s p : Bytes) (hp : p ≠ []) (hs : s.length ≤ 1000000) (hpl : p.length ≤ 1000000) (w : World) : Calls Tryz.prog 44 #[.string (strOf s), .string (strOf p)] w fun e w' => e = .returned (.bool (Lib.contains s p)) ∧ w' = w := by
  have hsz := strOf_size s
  have hpz := strOf_size p
  obtain ⟨n, hn⟩ : ∃ n, n = s.length := ⟨_, rfl⟩
  obtain ⟨m, hm⟩ : ∃ m, m = p.length := ⟨_, rfl⟩
  have SM := fun (i : Nat) (I J : Int) (hI : I = (i : Int)) (hJ : J = ((i + p.length : Nat) : Int)) (hi : i + p.length ≤ s.length) (W : World) => str_mid Tryz.underlying9 s I J hI hJ hi W
  have EQ : ∀ x : Bytes, ((strOf x).toList == (strOf p).toList) = decide (x = p) := fun x => by rw [strOf_list p]; exact eq_text x p
  rw [← hn] at hsz hs SM
  rw [← hm] at hpz hpl SM
  obtain ⟨S, hS⟩ : ∃ S, S = strOf s := ⟨_, rfl⟩
  obtain ⟨P, hP⟩ : ∃ P, P = strOf p := ⟨_, rfl⟩
  rw [← hS] at hsz SM ⊢
  rw [← hP] at hpz EQ ⊢
  have HM := Lib.hid (And.intro SM EQ)
  have HN := Lib.hid (And.intro hn hm)
  clear SM EQ hn hm hS hP
  go_enter Tryz.func44, Tryz.ntmps44
  go_wp2_with fail
  go_loopw [5] (fun s5 wr => ∃ i : Nat, s5 = .int .i64 (i : Int) ∧ i ≤ n + 1 ∧ (∀ j, j < i → (s.drop j).take m ≠ p) ∧ wr = w) (fun s5 _ => n + 1 - (intOf s5).toNat)
  case atStart => exact ⟨0, rfl, Nat.zero_le _, fun j hj => absurd hj (Nat.not_lt_zero _), rfl⟩
  case round =>
    obtain ⟨i, rfl, hi, hno, rfl⟩ := hrel
    have HNO := Lib.hid hno
    clear hno
    by_cases him : i + m ≤ n
    · have t1 : (i : Int) + (m : Int) ≤ (n : Int) := by omega
      have SL := fun W => HM.out.1 i (i : Int) ((i : Int) + (m : Int)) rfl (by omega) him W
      have EX := HM.out.2 ((s.drop i).take m)
      obtain ⟨x, hx⟩ : ∃ x, x = (s.drop i).take m := ⟨_, rfl⟩
      rw [← hx] at SL EX
      have HX := Lib.hid hx
      clear hx
      by_cases hxp : x = p
      · rw [decide_eq_true hxp] at EX
        have HXP := Lib.hid hxp
        generalize strOf x = X at *
        clear hxp
        go_wp2_with (first | (refine wpList_slice_at rfl _ _ _ _ _ rfl _ _ _ _ _ rfl rfl rfl rfl (SL _) ?_))
        go_ret
        refine ⟨?_, rfl⟩
        rw [contains_yes (i := i) (by rw [← HN.out.1, ← HN.out.2]; exact him) (by rw [← HN.out.2, ← HX.out]; exact HXP.out)]; rfl
      · rw [decide_eq_false hxp] at EX
        have HXP := Lib.hid hxp
        generalize strOf x = X at *
        clear hxp
        go_wp2_with (first | (refine wpList_slice_at rfl _ _ _ _ _ rfl _ _ _ _ _ rfl rfl rfl rfl (SL _) ?_))
        go_roundw
        case rel =>
          refine ⟨i + 1, by go_num, by omega, fun j hj => ?_, by first | rfl | trivial⟩
          rcases Nat.lt_or_ge j i with h | h
          · exact HNO.out j h
          · obtain rfl : j = i := by omega
            rw [← HX.out]; exact HXP.out
        case measure => simp [intOf]; omega
    · have t1 : ¬ (i : Int) + (m : Int) ≤ (n : Int) := by omega
      go_wp2_with fail
      go_ret
      refine ⟨?_, rfl⟩
      rw [contains_no (i := i) hp (by rw [← HN.out.1, ← HN.out.2]; omega) (by rw [← HN.out.2]; exact HNO.out)]; rfl

/-! ### Right -/
def docR (part : Bytes) : Bytes → Bool
  | [] => !badN part
  | c :: r => if c = 47 then !badN part && docR [] r else !badC c && docR (part ++ [c]) r
theorem docR_eq : ∀ (r part : Bytes), docR part r = (!r.any badC && !badN (part ++ (splitC 47 r).headD []) && !((splitC 47 r).tail).any badN)
  | [], part => by simp [docR, splitC]
  | c :: r, part => by
    unfold docR splitC
    by_cases h : c = 47
    · rw [if_pos h, if_pos h, docR_eq r []]
      have h47 : badC c = false := by rw [h]; decide
      obtain ⟨q, qs, hq⟩ := List.exists_cons_of_ne_nil (splitC_ne 47 r)
      rw [hq]
      simp only [List.headD_cons, List.tail_cons, List.any_cons, List.append_nil, List.nil_append, h47, Bool.false_or]
      cases r.any badC <;> cases badN part <;> cases badN q <;> simp
    · rw [if_neg h, if_neg h, docR_eq r (part ++ [c])]
      obtain ⟨q, qs, hq⟩ := List.exists_cons_of_ne_nil (splitC_ne 47 r)
      rw [hq]
      simp only [List.headD_cons, List.tail_cons, List.any_cons, List.append_assoc, List.cons_append, List.nil_append]
      cases r.any badC <;> cases badC c <;> simp
theorem docR_right (r : Bytes) : docR [] r = (!r.any badC && !(splitC 47 r).any badN) := by
  rw [docR_eq]
  obtain ⟨q, qs, hq⟩ := List.exists_cons_of_ne_nil (splitC_ne 47 r)
  rw [hq]
  simp only [List.headD_cons, List.tail_cons, List.any_cons, List.nil_append]
  cases r.any badC <;> cases badN q <;> simp
theorem pre_refs (s : Bytes) : refsT.isPrefixOf s = decide (s.take 5 = refsT) := by
  rw [Bool.eq_iff_iff, List.isPrefixOf_iff_prefix, decide_eq_true_eq]
  constructor
  · intro h1
    have := List.prefix_iff_eq_take.1 h1
    exact this.symm
  · intro h1
    rw [← h1]; exact List.take_prefix _ _
theorem suf_dot (s : Bytes) (h : 6 ≤ s.length) : ([46] : Bytes).isSuffixOf s = decide ((s[s.length - 1]'(by omega)).toNat = 46) := by
  rw [Bool.eq_iff_iff, List.isSuffixOf_iff_suffix, decide_eq_true_eq]
  have e : s[s.length - 1]'(by omega) = s.getLast (by intro h0; rw [h0] at h; simp at h) := (List.getLast_eq_getElem _).symm
  rw [e]
  constructor
  · rintro ⟨t, rfl⟩
    simp
  · intro h1
    have h2 : s.getLast (by intro h0; rw [h0] at h; simp at h) = 46 := UInt8.toNat_inj.1 h1
    exact ⟨s.dropLast, by rw [← h2]; exact List.dropLast_concat_getLast _⟩
theorem suf_lock (s : Bytes) : lockT.isSuffixOf s = (decide (5 ≤ s.length) && decide (s.drop (s.length - 5) = lockT)) := by
  rw [Bool.eq_iff_iff, List.isSuffixOf_iff_suffix, Bool.and_eq_true, decide_eq_true_eq, decide_eq_true_eq]
  constructor
  · intro h
    have h1 := List.suffix_iff_eq_drop.1 h
    have h2 := h.length_le
    exact ⟨h2, h1.symm⟩
  · rintro ⟨-, h⟩
    rw [← h]; exact List.drop_suffix _ _
theorem right_short {s : Bytes} (h : s.length < 6) : rightN s = false := by
  unfold rightN
  by_cases hp : refsT.isPrefixOf s = true
  · have h1 := (List.isPrefixOf_iff_prefix.1 hp).length_le
    have h2 : s.drop 5 = [] := List.drop_eq_nil_of_le (by omega)
    rw [h2]
    simp [splitC, badN]
  · rw [Bool.eq_false_iff.2 hp]; rfl
theorem right_long {s : Bytes} (h : 200 < s.length) : rightN s = false := by
  unfold rightN
  rw [decide_eq_false (by omega : ¬ s.length ≤ 200)]
  simp
theorem right_mid {s : Bytes} (h1 : 6 ≤ s.length) (h2 : s.length ≤ 200) : rightN s = (decide (s.take 5 = refsT) && !decide ((s[s.length - 1]'(by omega)).toNat = 46) && !Lib.contains s [46, 46] && !Lib.contains s [64, 123] && docR [] (s.drop 5)) := by
  unfold rightN
  rw [pre_refs s, suf_dot s h1, decide_eq_true h2, docR_right]
  simp only [Bool.and_true, Bool.and_assoc]
theorem bad_all : ∀ c : Fin 256, badC (UInt8.ofNat c.val) = (decide (c.val < 33) || decide (c.val = 127) || decide (c.val = 126) || decide (c.val = 94) || decide (c.val = 58) || decide (c.val = 63) || decide (c.val = 42) || decide (c.val = 91) || decide (c.val = 92)) := by decide +kernel
theorem bad_cases (c : UInt8) : (badC c = true ∧ (c.toNat < 33 ∨ c = 127 ∨ c = 126 ∨ c = 94 ∨ c = 58 ∨ c = 63 ∨ c = 42 ∨ c = 91 ∨ c = 92)) ∨ (badC c = false ∧ 33 ≤ c.toNat ∧ c.toNat ≠ 127 ∧ c.toNat ≠ 126 ∧ c.toNat ≠ 94 ∧ c.toNat ≠ 58 ∧ c.toNat ≠ 63 ∧ c.toNat ≠ 42 ∧ c.toNat ≠ 91 ∧ c.toNat ≠ 92) := by
  have h := bad_all ⟨c.toNat, c.toNat_lt⟩
  simp only [UInt8.ofNat_toNat] at h
  by_cases hb : badC c = true
  · left
    refine ⟨hb, ?_⟩
    rw [hb] at h
    have h2 := h.symm
    simp only [Bool.or_eq_true, decide_eq_true_eq] at h2
    have key : ∀ k : UInt8, c.toNat = k.toNat → c = k := fun k hk => UInt8.toNat_inj.1 hk
    rcases h2 with ((((((((h2 | h2) | h2) | h2) | h2) | h2) | h2) | h2) | h2)
    · exact .inl h2
    · exact .inr (.inl (key 127 h2))
    · exact .inr (.inr (.inl (key 126 h2)))
    · exact .inr (.inr (.inr (.inl (key 94 h2))))
    · exact .inr (.inr (.inr (.inr (.inl (key 58 h2)))))
    · exact .inr (.inr (.inr (.inr (.inr (.inl (key 63 h2))))))
    · exact .inr (.inr (.inr (.inr (.inr (.inr (.inl (key 42 h2)))))))
    · exact .inr (.inr (.inr (.inr (.inr (.inr (.inr (.inl (key 91 h2))))))))
    · exact .inr (.inr (.inr (.inr (.inr (.inr (.inr (.inr (key 92 h2))))))))
  · right
    have hb' := Bool.eq_false_iff.2 hb
    rw [hb'] at h
    have h2 := h.symm
    simp only [Bool.or_eq_false_iff, decide_eq_false_iff_not] at h2
    exact ⟨hb', by omega⟩

set_option maxRecDepth 100000 in
set_option maxHeartbeats 8000000 in
theorem refRightN_any (s : Bytes) (hl : s.length ≤ 1000000) (w : World) : Calls Tryz.prog 11 #[.string (strOf s)] w fun e w' => e = .returned (.bool (rightN s)) ∧ w' = w := by
  obtain ⟨N, hN⟩ : ∃ N, N = rightN s := ⟨_, rfl⟩
  rw [← hN]
  have hsz := strOf_size s
  obtain ⟨n, hn⟩ : ∃ n, n = s.length := ⟨_, rfl⟩
  by_cases h200 : n ≤ 200
  case neg =>
    have t1 : decide ((200 : Int) < (n : Int)) = true := decide_eq_true (by omega)
    have t1' : decide (200 < n) = true := decide_eq_true (by omega)
    obtain rfl : N = false := by rw [hN]; exact right_long (by omega)
    rw [← hn] at hsz
    generalize strOf s = S at *
    clear hN hl hn
    go_enter Tryz.func11, Tryz.ntmps11
    go_wp2_with fail
    go_ret
    exact ⟨rfl, rfl⟩
  have t1 : decide ((200 : Int) < (n : Int)) = false := decide_eq_false (by omega)
  have t1' : decide (200 < n) = false := decide_eq_false (by omega)
  by_cases h6 : 6 ≤ n
  case neg =>
    have t2 : decide ((n : Int) < 6) = true := decide_eq_true (by omega)
    have t2' : decide (n < 6) = true := decide_eq_true (by omega)
    obtain rfl : N = false := by rw [hN]; exact right_short (by omega)
    rw [← hn] at hsz
    generalize strOf s = S at *
    clear hN hl hn
    go_enter Tryz.func11, Tryz.ntmps11
    go_wp2_with fail
    go_ret
    exact ⟨rfl, rfl⟩
  have t2 : decide ((n : Int) < 6) = false := decide_eq_false (by omega)
  have t2' : decide (n < 6) = false := decide_eq_false (by omega)
  rw [right_mid (by omega) (by omega)] at hN
  have TK := fun W => str_to Tryz.underlying9 s (i := 5) (by omega) W
  have E5 : ((strOf (s.take 5)).toList == [114, 101, 102, 115, 47]) = decide (s.take 5 = refsT) := eq_text (s.take 5) refsT
  have IL := fun W : World => str_at Tryz.underlying9 s (i := n - 1) ((n : Int) - 1) (by omega) (c := s[s.length - 1]'(by omega)) (by subst hn; exact List.getElem?_eq_getElem _) W
  have q46 : (((s[s.length - 1]'(by omega)).toNat : Int) == 46) = decide ((s[s.length - 1]'(by omega)).toNat = 46) := byte_is _ 46
  have C3 := fun W => within_any s [46, 46] (by simp) hl (by decide) W
  have C4 := fun W => within_any s [64, 123] (by simp) hl (by decide) W
  obtain ⟨b1, hb1⟩ : ∃ b, b = decide (s.take 5 = refsT) := ⟨_, rfl⟩
  obtain ⟨b2, hb2⟩ : ∃ b, b = decide ((s[s.length - 1]'(by omega)).toNat = 46) := ⟨_, rfl⟩
  obtain ⟨b3, hb3⟩ : ∃ b, b = Lib.contains s [46, 46] := ⟨_, rfl⟩
  obtain ⟨b4, hb4⟩ : ∃ b, b = Lib.contains s [64, 123] := ⟨_, rfl⟩
  obtain ⟨r, hr⟩ : ∃ r, r = s.drop 5 := ⟨_, rfl⟩
  rw [← hb1] at E5 hN
  rw [← hb2] at q46 hN
  rw [← hb3] at C3 hN
  rw [← hb4] at C4 hN
  rw [← hr] at hN
  have SX := fun (i : Nat) (I : Int) (hI : I = (i : Int)) (c : UInt8) (hc : s[i]? = some c) (W : World) => str_at Tryz.underlying9 s I hI hc W
  have SM := fun (i : Nat) (I J : Int) (hI : I = (i : Int)) (hJ : J = ((i + 1 : Nat) : Int)) (hi : i + 1 ≤ s.length) (W : World) => str_mid Tryz.underlying9 s (n := 1) I J hI hJ hi W
  generalize ((s[s.length - 1]'(by omega)).toNat : Int) = lc at *
  generalize strOf (s.take 5) = T5 at *
  rw [← hn] at hsz
  obtain ⟨S, hS⟩ : ∃ S, S = strOf s := ⟨_, rfl⟩
  rw [← hS] at hsz SX SM TK IL C3 C4 ⊢
  have HS := Lib.hid (And.intro hN (And.intro hn (And.intro hr (And.intro SX SM))))
  clear hN hn hr SX SM hS hb1 hb2 hb3 hb4 hl
  have E5' : (T5.toList != [114, 101, 102, 115, 47]) = !b1 := by rw [bne, E5]
  go_enter Tryz.func11, Tryz.ntmps11
  cases b1
  case false =>
    obtain rfl : N = false := by rw [HS.out.1]; rfl
    clear C3 C4 IL
    go_wp2_with (first | (refine wpList_unguard rfl (wpList_slice_at rfl _ _ _ _ _ rfl _ _ _ _ _ rfl rfl rfl rfl (TK _) ?_)))
    go_ret
    exact ⟨rfl, rfl⟩
  cases b2
  case true =>
    obtain rfl : N = false := by rw [HS.out.1]; rfl
    clear C3 C4
    go_wp2_with (first | (refine wpList_unguard rfl (wpList_slice_at rfl _ _ _ _ _ rfl _ _ _ _ _ rfl rfl rfl rfl (TK _) ?_)) | (refine wpList_unguard rfl (wpList_index_at rfl _ _ _ rfl _ _ _ rfl rfl (IL _) ?_)))
    go_ret
    exact ⟨rfl, rfl⟩
  cases b3
  case true =>
    obtain rfl : N = false := by rw [HS.out.1]; rfl
    clear C4
    go_wp2_with (first | (refine wpList_unguard rfl (wpList_slice_at rfl _ _ _ _ _ rfl _ _ _ _ _ rfl rfl rfl rfl (TK _) ?_)) | (refine wpList_unguard rfl (wpList_index_at rfl _ _ _ rfl _ _ _ rfl rfl (IL _) ?_)))
    refine (C3 _).mono ?_
    rintro e w3 ⟨rfl, rfl⟩
    clear C3
    go_wp2_with fail
    go_ret
    exact ⟨rfl, rfl⟩
  go_wp2_with (first | (refine wpList_unguard rfl (wpList_slice_at rfl _ _ _ _ _ rfl _ _ _ _ _ rfl rfl rfl rfl (TK _) ?_)) | (refine wpList_unguard rfl (wpList_index_at rfl _ _ _ rfl _ _ _ rfl rfl (IL _) ?_)))
  refine (C3 _).mono ?_
  rintro e w3 ⟨rfl, rfl⟩
  clear C3
  cases b4
  case true =>
    obtain rfl : N = false := by rw [HS.out.1]; rfl
    go_wp2_with fail
    refine (C4 _).mono ?_
    rintro e w4 ⟨rfl, rfl⟩
    clear C4
    go_wp2_with fail
    go_ret
    exact ⟨rfl, rfl⟩
  go_wp2_with fail
  refine (C4 _).mono ?_
  rintro e w4 ⟨rfl, rfl⟩
  have hN2 : N = docR [] r := by rw [HS.out.1]; simp
  have HN := Lib.hid hN2
  have HE : Hid (strOf [] = ⟨#[]⟩) := Lib.hid rfl
  clear C4 hN2 t1 t1' t2 t2' TK IL E5 E5' q46
  go_wp2_with fail
  go_loopw [3, 4] (fun s3 s4 wr => ∃ (part : Bytes) (i : Nat), s3 = .string (strOf part) ∧ s4 = .int .i64 (i : Int) ∧ 5 ≤ i ∧ i ≤ n + 1 ∧ part.length ≤ i ∧ (i ≤ n → N = docR part (r.drop (i - 5))) ∧ (n < i → N = true) ∧ wr = w4) (fun _ s4 _ => n + 1 - (intOf s4).toNat)
  case atStart => exact ⟨[], 5, by rw [HE.out], rfl, Nat.le_refl _, by omega, Nat.zero_le _, fun _ => HN.out, fun h => by omega, rfl⟩
  case round =>
    obtain ⟨part, i, rfl, rfl, hi5, hin, hpl, hb, he, rfl⟩ := hrel
    have HB := Lib.hid (And.intro hb he)
    clear hb he
    by_cases hle : i ≤ n
    case neg =>
      have t1 : ¬ (i : Int) ≤ (n : Int) := by omega
      obtain rfl : N = true := HB.out.2 (by omega)
      generalize strOf part = PT at *
      go_wp2_with fail
      go_ret
      exact ⟨rfl, rfl⟩
    have t1 : (i : Int) ≤ (n : Int) := by omega
    have hbN := HB.out.1 hle
    by_cases hend : i = n ∨ ∃ c, s[i]? = some c ∧ c = 47
    · -- the end of a part
      obtain ⟨M, hM, hM2⟩ : ∃ M, N = (!badN part && M) ∧ ((i + 1 ≤ n → M = docR [] (r.drop (i + 1 - 5))) ∧ (n < i + 1 → M = true)) := by
        rcases hend with rfl | ⟨c, hc, rfl⟩
        · refine ⟨true, ?_, fun h => by omega, fun _ => rfl⟩
          rw [hbN, HS.out.2.2.1, List.drop_drop, List.drop_eq_nil_of_le (by rw [← HS.out.2.1]; omega)]
          simp [docR]
        · have hil := (List.getElem?_eq_some_iff.1 hc).1
          rw [← HS.out.2.1] at hil
          refine ⟨docR [] (r.drop (i + 1 - 5)), ?_, fun _ => rfl, fun h => by omega⟩
          have e1 : r.drop (i - 5) = 47 :: r.drop (i + 1 - 5) := by
            rw [HS.out.2.2.1, List.drop_drop, List.drop_drop, show 5 + (i - 5) = i by omega, show 5 + (i + 1 - 5) = i + 1 by omega]
            obtain ⟨hlt, hcc⟩ := List.getElem?_eq_some_iff.1 hc
            rw [List.drop_eq_getElem_cons hlt, hcc]
          rw [hbN, e1]
          rfl
      have HM := Lib.hid (And.intro hM hM2)
      clear hM hM2 hbN
      have hpz := strOf_size part
      have SL5 := fun (h5 : 5 ≤ part.length) (W : World) => str_from Tryz.underlying9 part (i := part.length - 5) (by omega) W
      have E5 := eq_text (part.drop (part.length - 5)) lockT
      have hsl := suf_lock part
      have hbd : badN part = (decide (part = []) || decide (part.head? = some 46) || lockT.isSuffixOf part) := rfl
      rw [hsl] at hbd
      have IX0 : ∀ c x, part = c :: x → ∀ W : World, (Instr.index 9 (.string (strOf part)) (.int .i64 0)).run Tryz.prog W = .ok (.int .u8 (c.toNat : Int)) W := fun c x h W => by rw [h]; exact str_at Tryz.underlying9 (c :: x) (i := 0) (0 : Int) rfl (c := c) rfl W
      obtain ⟨d2, hd2⟩ : ∃ d, d = decide (part.drop (part.length - 5) = lockT) := ⟨_, rfl⟩
      rw [← hd2] at E5 hbd
      obtain ⟨m, hm⟩ : ∃ m, m = part.length := ⟨_, rfl⟩
      rw [← hm] at hpz SL5 E5 hbd hpl
      have HMM := Lib.hid hm
      obtain ⟨PT, hPT⟩ : ∃ X, X = strOf part := ⟨_, rfl⟩
      rw [← hPT] at hpz SL5 IX0 ⊢
      obtain ⟨T5, hT5⟩ : ∃ X, X = strOf (part.drop (m - 5)) := ⟨_, rfl⟩
      rw [← hT5] at SL5 E5
      change (T5.toList == [46, 108, 111, 99, 107]) = d2 at E5
      clear hd2 hm hPT hT5 hsl
      have HEND := Lib.hid hend
      have HX0 := Lib.hid (And.intro IX0 SL5)
      have HBD := Lib.hid hbd
      clear IX0 SL5 hbd
      refine Or.elim hend (fun hend1 => ?_) (fun hend2 => ?_)
      case' refine_1 =>
        have t3 : ((i : Int) == (n : Int)) = true := by rw [hend1]; simp
        clear hend hend1
        go_upto_region 8 with (fail)
      case' refine_2 =>
        obtain ⟨c, hc, h47⟩ := hend2
        have t3 : ((i : Int) == (n : Int)) = false := by
          have := (List.getElem?_eq_some_iff.1 hc).1
          rw [← HS.out.2.1] at this
          rw [beq_eq_false_iff_ne]; omega
        have IX := fun W => HS.out.2.2.2.1 i (i : Int) rfl c hc W
        have t4 : ((c.toNat : Int) == 47) = true := by rw [h47]; rfl
        clear hend hc h47
        go_upto_region 8 with (first | (refine wpList_unguard rfl (wpList_index_at rfl _ _ _ rfl _ _ _ rfl rfl (IX _) ?_)))
      all_goals
        clear t3
        by_cases hm0 : m = 0
        case pos =>
          have hp0 : part = [] := List.eq_nil_of_length_eq_zero (by rw [← HMM.out]; exact hm0)
          obtain rfl : N = false := by rw [HM.out.1, HBD.out, hp0]; rfl
          subst hm0
          clear hp0
          go_wp2_with fail
          go_ret
          exact ⟨rfl, rfl⟩
        obtain ⟨c0, x0, hcx⟩ : ∃ c x, part = c :: x := by
          cases hq : part with
          | nil => rw [hq] at HMM; exact absurd HMM.out hm0
          | cons c x => exact ⟨c, x, rfl⟩
        have IX0 := HX0.out.1 c0 x0 hcx
        have q1 : ((c0.toNat : Int) == 46) = decide (c0.toNat = 46) := byte_is c0 46
        have e1 : decide (part.head? = some 46) = decide (c0.toNat = 46) := by
          rw [hcx, Bool.eq_iff_iff, decide_eq_true_eq, decide_eq_true_eq]
          constructor
          · intro h; injection h with h; rw [h]; rfl
          · intro h; show some c0 = some 46; rw [show c0 = 46 from UInt8.toNat_inj.1 h]
        have hbd2 : badN part = (decide (c0.toNat = 46) || (decide (5 ≤ m) && d2)) := by
          rw [HBD.out, e1, decide_eq_false (by rw [hcx]; simp : ¬ part = []), Bool.false_or]
        have t5 : ((m : Int) == 0) = false := by rw [beq_eq_false_iff_ne]; omega
        obtain ⟨d1, hd1⟩ : ∃ d, d = decide (c0.toNat = 46) := ⟨_, rfl⟩
        rw [← hd1] at q1 hbd2
        have HB2 := Lib.hid hbd2
        clear hd1 e1 hbd2 hcx hm0
        cases d1
        case true =>
          obtain rfl : N = false := by rw [HM.out.1, HB2.out]; rfl
          go_wp2_with (first | (refine wpList_unguard rfl (wpList_index_at rfl _ _ _ rfl _ _ _ rfl rfl (IX0 _) ?_)))
          go_ret
          exact ⟨rfl, rfl⟩
        by_cases hm5 : 5 ≤ m
        case neg =>
          have t6 : decide (5 ≤ (m : Int)) = false := decide_eq_false (by omega)
          have t6' : decide (5 ≤ m) = false := decide_eq_false hm5
          have hNM : N = M := by rw [HM.out.1, HB2.out, decide_eq_false hm5]; simp
          have HNM := Lib.hid hNM
          clear hNM
          go_wp2_with (first | (refine wpList_unguard rfl (wpList_index_at rfl _ _ _ rfl _ _ _ rfl rfl (IX0 _) ?_)))
          go_roundw
          case rel => exact ⟨[], i + 1, by rw [HE.out], by go_num, by omega, by omega, Nat.zero_le _, fun h => HNM.out.trans (HM.out.2.1 h), fun h => HNM.out.trans (HM.out.2.2 h), by first | rfl | trivial⟩
          case measure => simp [intOf]; omega
        have t6 : decide (5 ≤ (m : Int)) = true := decide_eq_true (by omega)
        have t6' : decide (5 ≤ m) = true := decide_eq_true hm5
        have SL5 : ∀ W : World, (Instr.sliceAt 9 (.string PT) (some (.int .i64 ((m : Int) - 5))) none none).run Tryz.prog W = .ok (.string T5) W := fun W => by
          have := HX0.out.2 hm5 W
          rw [show ((m - 5 : Nat) : Int) = (m : Int) - 5 by omega] at this
          exact this
        cases d2
        case true =>
          obtain rfl : N = false := by rw [HM.out.1, HB2.out, decide_eq_true hm5]; rfl
          go_wp2_with (first | (refine wpList_unguard rfl (wpList_index_at rfl _ _ _ rfl _ _ _ rfl rfl (IX0 _) ?_)) | (refine wpList_unguard rfl (wpList_slice_at rfl _ _ _ _ _ rfl _ _ _ _ _ rfl rfl rfl rfl (SL5 _) ?_)))
          go_ret
          exact ⟨rfl, rfl⟩
        · have hNM : N = M := by rw [HM.out.1, HB2.out]; simp
          have HNM := Lib.hid hNM
          clear hNM
          go_wp2_with (first | (refine wpList_unguard rfl (wpList_index_at rfl _ _ _ rfl _ _ _ rfl rfl (IX0 _) ?_)) | (refine wpList_unguard rfl (wpList_slice_at rfl _ _ _ _ _ rfl _ _ _ _ _ rfl rfl rfl rfl (SL5 _) ?_)))
          go_roundw
          case rel => exact ⟨[], i + 1, by rw [HE.out], by go_num, by omega, by omega, Nat.zero_le _, fun h => HNM.out.trans (HM.out.2.1 h), fun h => HNM.out.trans (HM.out.2.2 h), by first | rfl | trivial⟩
          case measure => simp [intOf]; omega
    · -- one byte more
      have hnn : i ≠ n := fun h => hend (.inl h)
      have hil : i < s.length := by rw [← HS.out.2.1]; omega
      obtain ⟨c, hc⟩ : ∃ c, s[i]? = some c := ⟨s[i], List.getElem?_eq_getElem hil⟩
      have h47 : c ≠ 47 := fun h => hend (.inr ⟨c, hc, h⟩)
      have e1 : r.drop (i - 5) = c :: r.drop (i + 1 - 5) := by
        rw [HS.out.2.2.1, List.drop_drop, List.drop_drop, show 5 + (i - 5) = i by omega, show 5 + (i + 1 - 5) = i + 1 by omega]
        obtain ⟨hlt, hcc⟩ := List.getElem?_eq_some_iff.1 hc
        rw [List.drop_eq_getElem_cons hlt, hcc]
      have hN3 : N = (!badC c && docR (part ++ [c]) (r.drop (i + 1 - 5))) := by rw [hbN, e1]; show (if c = 47 then _ else _) = _; rw [if_neg h47]
      have t3 : ((i : Int) == (n : Int)) = false := by rw [beq_eq_false_iff_ne]; omega
      have t4 : ((c.toNat : Int) == 47) = false := by
        rw [beq_eq_false_iff_ne]; intro h; exact h47 (UInt8.toNat_inj.1 (by show c.toNat = 47; omega))
      have IX := fun W => HS.out.2.2.2.1 i (i : Int) rfl c hc W
      have SL := fun W => HS.out.2.2.2.2 i (i : Int) ((i : Int) + 1) rfl (by omega) (by omega) W
      rw [show (s.drop i).take 1 = [c] by
        obtain ⟨hlt, hcc⟩ := List.getElem?_eq_some_iff.1 hc
        rw [List.drop_eq_getElem_cons hlt, hcc]; rfl] at SL
      have SA := fun W => str_add part [c] (by omega) (by simp) W
      obtain ⟨PT, hPT⟩ : ∃ X, X = strOf part := ⟨_, rfl⟩
      obtain ⟨PC, hPC⟩ : ∃ X, X = strOf (part ++ [c]) := ⟨_, rfl⟩
      rw [← hPT, ← hPC] at SA
      rw [← hPT]
      generalize strOf [c] = C1 at *
      have HN3 := Lib.hid (And.intro hN3 hPC)
      clear hbN hend e1 hN3 hPT hPC hil hc h47 HB
      rcases bad_cases c with ⟨hb, hcs⟩ | ⟨hb, g0, g1, g2, g3, g4, g5, g6, g7, g8⟩
      · obtain rfl : N = false := by rw [HN3.out.1, hb]; rfl
        clear hb HN3 SA SL
        rcases hcs with h | rfl | rfl | rfl | rfl | rfl | rfl | rfl | rfl
        all_goals
          first
          | (have q0 : decide ((c.toNat : Int) < 33) = true := decide_eq_true (by omega)
             go_wp2_with (first | (refine wpList_unguard rfl (wpList_index_at rfl _ _ _ rfl _ _ _ rfl rfl (IX _) ?_)))
             go_ret
             exact ⟨rfl, rfl⟩)
          | (simp only [UInt8.reduceToNat] at IX t4
             go_wp2_with (first | (refine wpList_unguard rfl (wpList_index_at rfl _ _ _ rfl _ _ _ rfl rfl (IX _) ?_)))
             go_ret
             exact ⟨rfl, rfl⟩)
      · have q0 : decide ((c.toNat : Int) < 33) = false := decide_eq_false (by omega)
        have q1 : ((c.toNat : Int) == 127) = false := by rw [beq_eq_false_iff_ne]; omega
        have q2 : ((c.toNat : Int) == 126) = false := by rw [beq_eq_false_iff_ne]; omega
        have q3 : ((c.toNat : Int) == 94) = false := by rw [beq_eq_false_iff_ne]; omega
        have q4 : ((c.toNat : Int) == 58) = false := by rw [beq_eq_false_iff_ne]; omega
        have q5 : ((c.toNat : Int) == 63) = false := by rw [beq_eq_false_iff_ne]; omega
        have q6 : ((c.toNat : Int) == 42) = false := by rw [beq_eq_false_iff_ne]; omega
        have q7 : ((c.toNat : Int) == 91) = false := by rw [beq_eq_false_iff_ne]; omega
        have q8 : ((c.toNat : Int) == 92) = false := by rw [beq_eq_false_iff_ne]; omega
        have hN4 : N = docR (part ++ [c]) (r.drop (i + 1 - 5)) := by rw [HN3.out.1, hb]; rfl
        have HN4 := Lib.hid hN4
        clear g0 g1 g2 g3 g4 g5 g6 g7 g8 hb hN4
        generalize (c.toNat : Int) = ci at *
        go_wp2_with (first | (refine wpList_unguard rfl (wpList_index_at rfl _ _ _ rfl _ _ _ rfl rfl (IX _) ?_)) | (refine wpList_unguard rfl (wpList_slice_at rfl _ _ _ _ _ rfl _ _ _ _ _ rfl rfl rfl rfl (SL _) ?_)))
        go_roundw
        case rel => exact ⟨part ++ [c], i + 1, by rw [HN3.out.2], by go_num, by omega, by omega, by rw [List.length_append, List.length_singleton]; omega, fun _ => HN4.out, fun h => by omega, by first | rfl | trivial⟩
        case measure => simp [intOf]; omega
end Go.Proofs.YtponfkfeflnilaaGreatDoor
