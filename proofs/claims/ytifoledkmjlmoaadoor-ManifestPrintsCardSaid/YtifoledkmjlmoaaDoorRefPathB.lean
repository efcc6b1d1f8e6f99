/-
  The document's Right of a path: the walk. (Printed by gen/gen_refpath.py.)
-/
import Derived.Test.YtifoledkmjlmoaaDoorRefPathA
namespace Go.Proofs.YtifoledkmjlmoaaDoor
open Go.RowKit Go.Mix Go.WideMaps

theorem low_cases (x : UInt8) : (x = 0 ∧ isLow x = true) ∨ (x ≠ 0 ∧ x = 10 ∧ isLow x = true) ∨ (x ≠ 0 ∧ x ≠ 10 ∧ x = 13 ∧ isLow x = true) ∨ (x ≠ 0 ∧ x ≠ 10 ∧ x ≠ 13 ∧ isLow x = false) := by
  by_cases h0 : x = 0
  · subst h0; exact .inl ⟨rfl, by decide⟩
  by_cases h1 : x = 10
  · subst h1; exact .inr (.inl ⟨h0, rfl, by decide⟩)
  by_cases h2 : x = 13
  · subst h2; exact .inr (.inr (.inl ⟨h0, h1, rfl, by decide⟩))
  · refine .inr (.inr (.inr ⟨h0, h1, h2, ?_⟩))
    unfold isLow
    simp [h0, h1, h2]
theorem byte_eq (x c : UInt8) : ((x.toNat : Int) == (c.toNat : Int)) = decide (x = c) := by
  rw [Bool.eq_iff_iff, beq_iff_eq, decide_eq_true_eq]
  constructor
  · intro h; exact UInt8.toNat_inj.1 (by omega)
  · rintro rfl; rfl

set_option maxRecDepth 100000 in
set_option maxHeartbeats 4000000 in
theorem refPath_any (s : List UInt8) (hl : s.length ≤ 100000) (w : World) : Calls Tryd.prog 24 #[.string (strOf s)] w fun e w' => e = .returned (.bool (pathL s)) ∧ Below w.heap.size w w' := by
  have CP := parts_any s hl w
  have hpl := splitC_len 47 s
  have hN : pathL s = (decide (s.length ≤ 255) && !s.any isLow && !(splitC 47 s).any badP) := rfl
  obtain ⟨N, hNN⟩ : ∃ N, N = pathL s := ⟨_, rfl⟩
  rw [← hNN] at hN ⊢
  clear hNN
  obtain ⟨n, hn⟩ : ∃ n, n = s.length := ⟨_, rfl⟩
  have hsz : (strOf s).size = n := by rw [strOf_size, hn]
  obtain ⟨P, hP⟩ : ∃ P, P = splitC 47 s := ⟨_, rfl⟩
  rw [← hP] at CP hpl hN
  clear hP
  obtain ⟨S, hS⟩ : ∃ S, S = strOf s := ⟨_, rfl⟩
  rw [← hS] at hsz CP ⊢
  have HN := Lib.hid hN
  have HS := Lib.hid (And.intro hn (And.intro hS hpl))
  have HB := Lib.hid (Below.refl w.heap.size w)
  have hn6 : n ≤ 100000 := by omega
  clear hl hn hS hN hpl
  go_enter Tryd.func24, Tryd.ntmps24
  by_cases h1 : n ≤ 255
  case neg =>
    have t1 : decide ((255 : Int) < (n : Int)) = true := decide_eq_true (by omega)
    have t1' : decide (255 < n) = true := decide_eq_true (by omega)
    obtain rfl : N = false := by rw [HN.out, ← HS.out.1, decide_eq_false h1]; rfl
    clear CP
    go_wp2_with fail
    go_ret
    exact ⟨rfl, HB.out⟩
  have t1 : decide ((255 : Int) < (n : Int)) = false := decide_eq_false (by omega)
  have t1' : decide (255 < n) = false := decide_eq_false (by omega)
  go_wp2_with fail
  clear t1 t1'
  go_loopw [3] (fun s3 wr => ∃ i : Nat, s3 = .int .i64 (i : Int) ∧ i ≤ n ∧ (s.take i).any isLow = false ∧ w = wr) (fun s3 _ => n - (intOf s3).toNat)
  case atStart => exact ⟨0, rfl, Nat.zero_le _, by simp, rfl⟩
  case round =>
    obtain ⟨i, rfl, hi, hno, rfl⟩ := hrel
    have HNO := Lib.hid hno
    clear hno
    by_cases hin : i < n
    · have t1 : decide ((i : Int) < (n : Int)) = true := decide_eq_true (by omega)
      have t1' : decide (i < n) = true := decide_eq_true hin
      have hil : i < s.length := by rw [← HS.out.1]; exact hin
      have IX := fun W : World => str_at Tryd.underlying9 s (i := i) (i : Int) rfl (c := s[i]) (List.getElem?_eq_getElem hil) W
      rw [← HS.out.2.1] at IX
      obtain ⟨x, hx⟩ : ∃ x, x = s[i] := ⟨_, rfl⟩
      have hst : (s.take (i + 1)).any isLow = ((s.take i).any isLow || isLow x) := by rw [List.take_succ_eq_append_getElem hil, List.any_append, ← hx]; simp
      have hmem : x ∈ s := by rw [hx]; exact List.getElem_mem hil
      rw [← hx] at IX
      have q0 := byte_eq x 0
      have q1 := byte_eq x 10
      have q2 := byte_eq x 13
      have HST := Lib.hid (And.intro hst hmem)
      clear hx hst hmem hil
      rcases low_cases x with ⟨c0, hb⟩ | ⟨c0, c1, hb⟩ | ⟨c0, c1, c2, hb⟩ | ⟨c0, c1, c2, hb⟩
      · rw [decide_eq_true c0] at q0
        have r0 : ((x.toNat : Int) == 0) = true := q0
        clear q0 q1 q2 c0
        obtain rfl : N = false := by
          rw [HN.out, show s.any isLow = true from List.any_eq_true.2 ⟨x, HST.out.2, hb⟩, Bool.not_true, Bool.and_false, Bool.false_and]
        clear hb CP
        go_wp2_with (first | (refine wpList_index_at rfl _ _ _ rfl _ _ _ rfl rfl IX ?_) | (refine wpList_unguard rfl ?_; refine wpList_index_at rfl _ _ _ rfl _ _ _ rfl rfl IX ?_))
        go_ret
        exact ⟨rfl, HB.out⟩
      · rw [decide_eq_false c0] at q0
        rw [decide_eq_true c1] at q1
        have r0 : ((x.toNat : Int) == 0) = false := q0
        have r1 : ((x.toNat : Int) == 10) = true := q1
        clear q0 q1 q2 c0 c1
        obtain rfl : N = false := by
          rw [HN.out, show s.any isLow = true from List.any_eq_true.2 ⟨x, HST.out.2, hb⟩, Bool.not_true, Bool.and_false, Bool.false_and]
        clear hb CP
        go_wp2_with (first | (refine wpList_index_at rfl _ _ _ rfl _ _ _ rfl rfl IX ?_) | (refine wpList_unguard rfl ?_; refine wpList_index_at rfl _ _ _ rfl _ _ _ rfl rfl IX ?_))
        go_ret
        exact ⟨rfl, HB.out⟩
      · rw [decide_eq_false c0] at q0
        rw [decide_eq_false c1] at q1
        rw [decide_eq_true c2] at q2
        have r0 : ((x.toNat : Int) == 0) = false := q0
        have r1 : ((x.toNat : Int) == 10) = false := q1
        have r2 : ((x.toNat : Int) == 13) = true := q2
        clear q0 q1 q2 c0 c1 c2
        obtain rfl : N = false := by
          rw [HN.out, show s.any isLow = true from List.any_eq_true.2 ⟨x, HST.out.2, hb⟩, Bool.not_true, Bool.and_false, Bool.false_and]
        clear hb CP
        go_wp2_with (first | (refine wpList_index_at rfl _ _ _ rfl _ _ _ rfl rfl IX ?_) | (refine wpList_unguard rfl ?_; refine wpList_index_at rfl _ _ _ rfl _ _ _ rfl rfl IX ?_))
        go_ret
        exact ⟨rfl, HB.out⟩
      · rw [decide_eq_false c0] at q0
        rw [decide_eq_false c1] at q1
        rw [decide_eq_false c2] at q2
        have r0 : ((x.toNat : Int) == 0) = false := q0
        have r1 : ((x.toNat : Int) == 10) = false := q1
        have r2 : ((x.toNat : Int) == 13) = false := q2
        clear q0 q1 q2 c0 c1 c2
        have HX := Lib.hid (show (s.take (i + 1)).any isLow = false by rw [HST.out.1, HNO.out, hb]; rfl)
        clear hb CP
        go_wp2_with (first | (refine wpList_index_at rfl _ _ _ rfl _ _ _ rfl rfl IX ?_) | (refine wpList_unguard rfl ?_; refine wpList_index_at rfl _ _ _ rfl _ _ _ rfl rfl IX ?_))
        go_roundw
        case rel => exact ⟨i + 1, by go_num, by omega, HX.out, by first | rfl | trivial⟩
        case measure => simp [intOf]; omega
    · obtain rfl : i = n := by omega
      have t1 : decide ((i : Int) < (i : Int)) = false := decide_eq_false (by omega)
      have t1' : decide (i < i) = false := decide_eq_false (by omega)
      have hlow : s.any isLow = false := by
        have := HNO.out
        rw [List.take_of_length_le (by rw [← HS.out.1]; exact Nat.le_refl _)] at this
        exact this
      have hN2 : N = !P.any badP := by rw [HN.out, hlow, ← HS.out.1, decide_eq_true h1]; rfl
      have HN2 := Lib.hid hN2
      clear hN2 hlow
      go_wp2_with fail
      refine Calls.mono CP ?_
      rintro e w5 ⟨v5, rfl, hown⟩
      obtain ⟨a5, c5, rfl, hrs5, -⟩ := hown.rs1 tyS
      obtain ⟨m, hm⟩ : ∃ m, m = P.length := ⟨_, rfl⟩
      rw [← hm]
      have HP := Lib.hid (And.intro hrs5 (And.intro hm hown.frame))
      have hm6 : m ≤ 1000 := by have := HS.out.2.2; have := HS.out.1; omega
      clear hown hrs5 hm CP t1 t1'
      go_wp2_with fail
      go_loopw [5] (fun s5 wr => ∃ j : Nat, s5 = .int .i64 (j : Int) ∧ j ≤ m ∧ (P.take j).any badP = false ∧ w5 = wr) (fun s5 _ => m - (intOf s5).toNat)
      case atStart => exact ⟨0, rfl, Nat.zero_le _, by simp, rfl⟩
      case round =>
        obtain ⟨j, rfl, hj, hno, rfl⟩ := hrel
        have HNO := Lib.hid hno
        clear hno
        by_cases hjm : j < m
        · have t1 : decide ((j : Int) < (m : Int)) = true := decide_eq_true (by omega)
          have t1' : decide (j < m) = true := decide_eq_true hjm
          have hjl : j < P.length := by rw [← HP.out.2.1]; exact hjm
          obtain ⟨b, q, IX, -, L⟩ := HP.out.1.at1 tyS (j : Int) j rfl hjl
          rw [← HP.out.2.1] at IX
          have L0 := L w5 (Below.refl _ _)
          obtain ⟨x, hx⟩ : ∃ x, x = P[j]! := ⟨_, rfl⟩
          rw [← hx] at L0
          have hst : (P.take (j + 1)).any badP = ((P.take j).any badP || badP x) := by rw [List.take_succ_eq_append_getElem hjl, List.any_append, hx, getElem!_pos P j hjl]; simp
          have hmem : x ∈ P := by rw [hx, getElem!_pos P j hjl]; exact List.getElem_mem hjl
          have q0 := empty_text x
          have q1 := eq_text x [46]
          have q2 := eq_text x [46, 46]
          have hbd : badP x = (decide (x = []) || decide (x = [46]) || decide (x = [46, 46])) := rfl
          have hbt : badP x = true → P.any badP = true := fun h => List.any_eq_true.2 ⟨x, hmem, h⟩
          have HST := Lib.hid (And.intro hst hmem)
          have HBT := Lib.hid hbt
          clear hbt
          unfold strV at L0
          clear L hx hst hmem hjl
          generalize badP x = B at *
          generalize strOf x = X at *
          generalize decide (x = []) = b0 at *
          generalize decide (x = [46]) = b1 at *
          generalize decide (x = [46, 46]) = b2 at *
          have HBD := Lib.hid hbd
          clear hbd
          cases b0
          · cases b1
            · cases b2
              · have HX := Lib.hid (show (P.take (j + 1)).any badP = false by rw [HST.out.1, HNO.out, HBD.out]; rfl)
                go_wp2_with (first | (refine wpList_load_at rfl _ _ rfl _ _ rfl L0 ?_) | (refine wpList_unguard rfl ?_; refine wpList_load_at rfl _ _ rfl _ _ rfl L0 ?_))
                go_roundw
                case rel => exact ⟨j + 1, by go_num, by omega, HX.out, by first | rfl | trivial⟩
                case measure => simp [intOf]; omega
              · obtain rfl : N = false := by
                  rw [HN2.out, show P.any badP = true from HBT.out (by rw [HBD.out]; first | rfl | (rw [Bool.or_true]) | simp)]; rfl
                go_wp2_with (first | (refine wpList_load_at rfl _ _ rfl _ _ rfl L0 ?_) | (refine wpList_unguard rfl ?_; refine wpList_load_at rfl _ _ rfl _ _ rfl L0 ?_))
                go_ret
                exact ⟨rfl, HP.out.2.2⟩
            · obtain rfl : N = false := by
                rw [HN2.out, show P.any badP = true from HBT.out (by rw [HBD.out]; first | rfl | (rw [Bool.or_true]) | simp)]; rfl
              go_wp2_with (first | (refine wpList_load_at rfl _ _ rfl _ _ rfl L0 ?_) | (refine wpList_unguard rfl ?_; refine wpList_load_at rfl _ _ rfl _ _ rfl L0 ?_))
              go_ret
              exact ⟨rfl, HP.out.2.2⟩
          · obtain rfl : N = false := by
              rw [HN2.out, show P.any badP = true from HBT.out (by rw [HBD.out]; first | rfl | (rw [Bool.or_true]) | simp)]; rfl
            go_wp2_with (first | (refine wpList_load_at rfl _ _ rfl _ _ rfl L0 ?_) | (refine wpList_unguard rfl ?_; refine wpList_load_at rfl _ _ rfl _ _ rfl L0 ?_))
            go_ret
            exact ⟨rfl, HP.out.2.2⟩
        · obtain rfl : j = m := by omega
          have t1 : decide ((j : Int) < (j : Int)) = false := decide_eq_false (by omega)
          have t1' : decide (j < j) = false := decide_eq_false (by omega)
          have hbad : P.any badP = false := by
            have := HNO.out
            rw [List.take_of_length_le (by rw [← HP.out.2.1]; exact Nat.le_refl _)] at this
            exact this
          obtain rfl : N = true := by rw [HN2.out, hbad]; rfl
          clear hbad
          go_wp2_with fail
          go_ret
          exact ⟨rfl, HP.out.2.2⟩
end Go.Proofs.YtifoledkmjlmoaaDoor
