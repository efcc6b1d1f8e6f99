/-
  Names of refs: plain; refs.Right: the walk.
-/
import Derived.Test.YtponfkfeflnilaaGreatDoorMaStA
import Derived.Test.YtponfkfeflnilaaGreatDoorShelfT
import Derived.Test.YtponfkfeflnilaaGreatDoorMaSha
namespace Go.Proofs.YtponfkfeflnilaaGreatDoor
open Go.RowKit Go.Mix Go.WideMaps

def lockT : Bytes := [46, 108, 111, 99, 107]
def refsT : Bytes := [114, 101, 102, 115, 47]
def specT : Bytes := [126, 94, 58, 63, 42, 91, 92]
/-- A byte that no name may have. -/
def badC (c : UInt8) : Bool := decide (c.toNat < 33) || decide (c.toNat = 127) || decide (0 ≤ Lib.indexByte specT c)
/-- A part that no name may have. -/
def badN (p : Bytes) : Bool := decide (p = []) || decide (p.head? = some 46) || lockT.isSuffixOf p
/-- Is it a name? -/
def rightN (s : Bytes) : Bool :=
  refsT.isPrefixOf s && decide (s.length ≤ 200) && !([46] : Bytes).isSuffixOf s && !Lib.contains s [46, 46] && !Lib.contains s [64, 123] && !(s.drop 5).any badC && !(splitC 47 (s.drop 5)).any badN

/-- The library's own variable holds some number. -/
def MaxIs (w : World) : Prop := ∃ m, w.cell? ⟨0, 0, none⟩ = some (.int .i64 m)
theorem MaxIs.below {w w' : World} (h : MaxIs w) (g : Below w.heap.size w w') : MaxIs w' := by
  obtain ⟨m, h⟩ := h
  exact ⟨m, (g.cell (lt_of_cell h)).trans h⟩
theorem byte_is (x : UInt8) (k : Nat) : ((x.toNat : Int) == (k : Int)) = decide (x.toNat = k) := by
  rw [Bool.eq_iff_iff, beq_iff_eq, decide_eq_true_eq]; omega
theorem byte_lt (x : UInt8) (k : Nat) : decide ((x.toNat : Int) < (k : Int)) = decide (x.toNat < k) := by
  rw [Bool.eq_iff_iff, decide_eq_true_eq, decide_eq_true_eq]; omega
theorem u8_back (x : UInt8) : ((x.toNat : Int)).toNat.toUInt8 = x := by
  rw [Int.toNat_natCast]; exact UInt8.ofNat_toNat

set_option maxRecDepth 100000 in
set_option maxHeartbeats 4000000 in
theorem rightN_any (s : Bytes) (hl : s.length ≤ 1000000) (w : World) (hm : MaxIs w) : Calls Tryz.prog 10 #[.string (strOf s)] w fun e w' => e = .returned (.bool (rightN s)) ∧ Below w.heap.size w w' := by
  obtain ⟨mx, hm⟩ := hm
  obtain ⟨N, hN⟩ : ∃ N, N = rightN s := ⟨_, rfl⟩
  rw [← hN]
  unfold rightN at hN
  have hsz := strOf_size s
  have C1 : ∀ W, Calls Tryz.prog 39 #[.string (strOf s), .string ⟨#[114, 101, 102, 115, 47]⟩] W fun e w' => e = .returned (.tuple #[.string (strOf (Lib.trimPrefix s refsT)), .bool (refsT.isPrefixOf s)]) ∧ w' = W := fun W => Tryz.strings_CutPrefix (strOf s) ⟨#[114, 101, 102, 115, 47]⟩ W
  have C2 : ∀ W, Calls Tryz.prog 40 #[.string (strOf s), .string ⟨#[46]⟩] W fun e w' => e = .returned (.bool (([46] : Bytes).isSuffixOf s)) ∧ w' = W := fun W => Tryz.strings_HasSuffix (strOf s) ⟨#[46]⟩ W (by rw [hsz]; omega)
  have C3 : Calls Tryz.prog 41 #[.string (strOf s), .string ⟨#[46, 46]⟩] w fun e w' => e = .returned (.bool (Lib.contains s [46, 46])) ∧ w' = w := Tryz.strings_Contains (strOf s) ⟨#[46, 46]⟩ mx w (by rw [hsz]; omega) hm
  have C4 : Calls Tryz.prog 41 #[.string (strOf s), .string ⟨#[64, 123]⟩] w fun e w' => e = .returned (.bool (Lib.contains s [64, 123])) ∧ w' = w := Tryz.strings_Contains (strOf s) ⟨#[64, 123]⟩ mx w (by rw [hsz]; omega) hm
  have htrim : refsT.isPrefixOf s = true → Lib.trimPrefix s refsT = s.drop 5 := fun h => by unfold Lib.trimPrefix Lib.hasPrefix; rw [h]; rfl
  obtain ⟨b1, hb1⟩ : ∃ b, b = refsT.isPrefixOf s := ⟨_, rfl⟩
  obtain ⟨b2, hb2⟩ : ∃ b, b = ([46] : Bytes).isSuffixOf s := ⟨_, rfl⟩
  obtain ⟨b3, hb3⟩ : ∃ b, b = Lib.contains s [46, 46] := ⟨_, rfl⟩
  obtain ⟨b4, hb4⟩ : ∃ b, b = Lib.contains s [64, 123] := ⟨_, rfl⟩
  rw [← hb1] at C1 hN htrim
  rw [← hb2] at C2 hN
  rw [← hb3] at C3 hN
  rw [← hb4] at C4 hN
  clear hb1 hb2 hb3 hb4 hm
  obtain ⟨n, hn⟩ : ∃ n, n = s.length := ⟨_, rfl⟩
  rw [← hn] at hsz hl hN
  obtain ⟨R, hR⟩ : ∃ R, R = strOf (Lib.trimPrefix s refsT) := ⟨_, rfl⟩
  obtain ⟨S, hS⟩ : ∃ S, S = strOf s := ⟨_, rfl⟩
  rw [← hR] at C1
  rw [← hS] at hsz C1 C2 C3 C4 ⊢
  have HS := Lib.hid (And.intro hN (And.intro hn (And.intro hR htrim)))
  clear hN hn hR hS htrim
  have HB := Lib.hid (Below.refl w.heap.size w)
  go_enter Tryz.func10, Tryz.ntmps10
  go_wp2_with fail
  refine (C1 _).mono ?_
  rintro e w1 ⟨rfl, rfl⟩
  clear C1
  cases b1
  case false =>
    obtain rfl : N = false := by rw [HS.out.1]; rfl
    clear C2 C3 C4
    go_wp2_with fail
    go_ret
    exact ⟨rfl, HB.out⟩
  by_cases h200 : n ≤ 200
  case neg =>
    have t1 : decide ((200 : Int) < (n : Int)) = true := decide_eq_true (by omega)
    have t1' : decide (200 < n) = true := decide_eq_true (by omega)
    obtain rfl : N = false := by rw [HS.out.1, decide_eq_false h200]; rfl
    clear C2 C3 C4
    go_wp2_with fail
    go_ret
    exact ⟨rfl, HB.out⟩
  have t1 : decide ((200 : Int) < (n : Int)) = false := decide_eq_false (by omega)
  have t1' : decide (200 < n) = false := decide_eq_false (by omega)
  cases b2
  case true =>
    obtain rfl : N = false := by rw [HS.out.1, decide_eq_true h200]; rfl
    clear C3 C4
    go_wp2_with fail
    refine (C2 _).mono ?_
    rintro e w2 ⟨rfl, rfl⟩
    go_wp2_with fail
    go_ret
    exact ⟨rfl, HB.out⟩
  go_wp2_with fail
  refine (C2 _).mono ?_
  rintro e w2 ⟨rfl, rfl⟩
  clear C2
  cases b3
  case true =>
    obtain rfl : N = false := by rw [HS.out.1, decide_eq_true h200]; rfl
    clear C4
    go_wp2_with fail
    refine C3.mono ?_
    rintro e w3 ⟨rfl, rfl⟩
    go_wp2_with fail
    go_ret
    exact ⟨rfl, HB.out⟩
  go_wp2_with fail
  refine C3.mono ?_
  rintro e w3 ⟨rfl, rfl⟩
  clear C3
  cases b4
  case true =>
    obtain rfl : N = false := by rw [HS.out.1, decide_eq_true h200]; rfl
    go_wp2_with fail
    refine C4.mono ?_
    rintro e w4 ⟨rfl, rfl⟩
    go_wp2_with fail
    go_ret
    exact ⟨rfl, HB.out⟩
  go_wp2_with fail
  refine C4.mono ?_
  rintro e w4 ⟨rfl, rfl⟩
  clear C4 t1 t1'
  obtain ⟨r, hr⟩ : ∃ r, r = s.drop 5 := ⟨_, rfl⟩
  have hRr : R = strOf r := by rw [HS.out.2.2.1, HS.out.2.2.2 trivial, hr]
  have hN2 : N = (!r.any badC && !(splitC 47 r).any badN) := by rw [HS.out.1, decide_eq_true h200, hr]; simp
  have hrl : r.length ≤ 200 := by rw [hr, List.length_drop]; have := HS.out.2.1; omega
  have hRs : R.size = r.length := by rw [hRr, strOf_size]
  have CS := fun W => split_any r 47 (by omega) W
  rw [← hRr] at CS
  have hpl := splitC_len 47 r
  have hpp := splitC_part 47 r
  obtain ⟨k, hk⟩ : ∃ k, k = r.length := ⟨_, rfl⟩
  rw [← hk] at hRs hrl hpl hpp
  obtain ⟨P, hP⟩ : ∃ P, P = splitC 47 r := ⟨_, rfl⟩
  rw [← hP] at CS hpl hN2 hpp
  have HR := Lib.hid (And.intro hRr (And.intro hN2 (And.intro hk hpl)))
  have HPP := Lib.hid (And.intro hpp hrl)
  clear hr hRr hN2 hk hP hpl HS hl hpp
  go_wp2_with fail
  go_loopw [35] (fun s35 wr => ∃ i : Nat, s35 = .int .i64 (i : Int) ∧ i ≤ k ∧ (r.take i).any badC = false ∧ wr = w4) (fun s35 _ => k - (intOf s35).toNat)
  case atStart => exact ⟨0, rfl, Nat.zero_le _, by simp, rfl⟩
  case round =>
    obtain ⟨i, rfl, hi, hno, rfl⟩ := hrel
    have HNO := Lib.hid hno
    clear hno
    by_cases hik : i < k
    · have t1 : decide ((i : Int) < (k : Int)) = true := decide_eq_true (by omega)
      have t1' : decide (i < k) = true := decide_eq_true hik
      have hil : i < r.length := by rw [← HR.out.2.2.1]; exact hik
      have IX := fun W : World => str_at Tryz.underlying9 r (i := i) (i : Int) rfl (c := r[i]) (List.getElem?_eq_getElem hil) W
      rw [← HR.out.1] at IX
      obtain ⟨x, hx⟩ : ∃ x, x = r[i] := ⟨_, rfl⟩
      have hst : (r.take (i + 1)).any badC = ((r.take i).any badC || badC x) := by rw [List.take_succ_eq_append_getElem hil, List.any_append, ← hx]; simp
      have hmem : badC x = true → r.any badC = true := fun h => List.any_eq_true.2 ⟨x, by rw [hx]; exact List.getElem_mem hil, h⟩
      rw [← hx] at IX
      have q0 : decide ((x.toNat : Int) < 33) = decide (x.toNat < 33) := byte_lt x 33
      have q1 : ((x.toNat : Int) == 127) = decide (x.toNat = 127) := byte_is x 127
      have CI : ∀ W, Calls Tryz.prog 42 #[.string ⟨#[126, 94, 58, 63, 42, 91, 92]⟩, .int .u8 (x.toNat : Int)] W fun e w' => e = .returned (.int .i64 (Lib.indexByte specT x)) ∧ w' = W := fun W => by
        have := Tryz.strings_IndexByte ⟨#[126, 94, 58, 63, 42, 91, 92]⟩ (x.toNat : Int) W
        rw [u8_back] at this
        exact this
      have hbc : badC x = (decide (x.toNat < 33) || decide (x.toNat = 127) || decide (0 ≤ Lib.indexByte specT x)) := rfl
      generalize Lib.indexByte specT x = ix at *
      obtain ⟨d0, hd0⟩ : ∃ d, d = decide (x.toNat < 33) := ⟨_, rfl⟩
      obtain ⟨d1, hd1⟩ : ∃ d, d = decide (x.toNat = 127) := ⟨_, rfl⟩
      obtain ⟨d2, hd2⟩ : ∃ d, d = decide (0 ≤ ix) := ⟨_, rfl⟩
      rw [← hd0] at q0 hbc
      rw [← hd1] at q1 hbc
      rw [← hd2] at hbc
      have q2 : decide (0 ≤ ix) = d2 := hd2.symm
      have HX := Lib.hid (And.intro hst (And.intro hmem hbc))
      generalize (x.toNat : Int) = xi at *
      clear hx hst hmem hbc hd0 hd1 hd2 hil
      cases d0
      case true =>
        have hbad : r.any badC = true := HX.out.2.1 HX.out.2.2
        obtain rfl : N = false := by rw [HR.out.2.1, hbad]; rfl
        clear CI hbad
        go_wp2_with fail
        go_ret
        exact ⟨rfl, HB.out⟩
      cases d1
      case true =>
        have hbad : r.any badC = true := HX.out.2.1 HX.out.2.2
        obtain rfl : N = false := by rw [HR.out.2.1, hbad]; rfl
        clear CI hbad
        go_wp2_with fail
        go_ret
        exact ⟨rfl, HB.out⟩
      cases d2
      case true =>
        have hbad : r.any badC = true := HX.out.2.1 HX.out.2.2
        obtain rfl : N = false := by rw [HR.out.2.1, hbad]; rfl
        clear hbad
        go_wp2_with fail
        refine (CI _).mono ?_
        rintro e w5 ⟨rfl, rfl⟩
        go_wp2_with fail
        go_ret
        exact ⟨rfl, HB.out⟩
      · go_wp2_with fail
        refine (CI _).mono ?_
        rintro e w5 ⟨rfl, rfl⟩
        clear CI
        go_wp2_with fail
        go_roundw
        case rel => exact ⟨i + 1, by go_num, by omega, by rw [HX.out.1, HNO.out, HX.out.2.2]; rfl, by first | rfl | trivial⟩
        case measure => simp [intOf]; omega
    · obtain rfl : i = k := by omega
      have t1 : decide ((i : Int) < (i : Int)) = false := decide_eq_false (by omega)
      have t1' : decide (i < i) = false := decide_eq_false (by omega)
      have hlow : r.any badC = false := by
        have := HNO.out
        rw [List.take_of_length_le (by rw [← HR.out.2.2.1]; exact Nat.le_refl _)] at this
        exact this
      have HN2 := Lib.hid (show N = !P.any badN by rw [HR.out.2.1, hlow]; rfl)
      clear hlow
      go_wp2_with fail
      refine Calls.mono (CS _) ?_
      rintro e w5 ⟨rfl, hw5⟩
      have hb5 : Below wr.heap.size wr w5 := by rw [hw5]; exact (Below.refl _ _).alloc (Nat.le_refl _) _
      have hblk : w5.heap[wr.heap.size]? = some (.cells (P.map strV).toArray 9 (0, 0)) := by rw [hw5]; exact heap_alloc_last _ _ _ rfl
      have hrs := texts_block hblk (by have := HR.out.2.2.2; omega)
      obtain ⟨m, hm⟩ : ∃ m, m = P.length := ⟨_, rfl⟩
      rw [← hm]
      have hm6 : m ≤ 1000 := by have := HR.out.2.2.2; omega
      have HP := Lib.hid (And.intro hrs (And.intro hm hb5))
      clear CS hw5 hb5 hblk hrs hm t1 t1'
      go_wp2_with fail
      go_loopw [56] (fun s56 wr => ∃ j : Nat, s56 = .int .i64 (j : Int) ∧ j ≤ m ∧ (P.take j).any badN = false ∧ w5 = wr) (fun s56 _ => m - (intOf s56).toNat)
      case atStart => exact ⟨0, rfl, Nat.zero_le _, by simp, rfl⟩
      case round =>
        obtain ⟨j, rfl, hj, hno, rfl⟩ := hrel
        have HNO := Lib.hid hno
        clear hno
        by_cases hjm : j < m
        · have t1 : decide ((j : Int) < (m : Int)) = true := decide_eq_true (by omega)
          have t1' : decide (j < m) = true := decide_eq_true hjm
          have hjl : j < P.length := by rw [← HP.out.2.1]; exact hjm
          obtain ⟨b, q, IX, -, L⟩ := HP.out.1.at1 tyS (j : Int) j rfl hjl
          rw [← HP.out.2.1] at IX
          have L0 := L w5 (Below.refl _ _)
          obtain ⟨x, hx⟩ : ∃ x, x = P[j]! := ⟨_, rfl⟩
          rw [← hx] at L0
          have hst : (P.take (j + 1)).any badN = ((P.take j).any badN || badN x) := by rw [List.take_succ_eq_append_getElem hjl, List.any_append, hx, getElem!_pos P j hjl]; simp
          have hmem : badN x = true → P.any badN = true := fun h => List.any_eq_true.2 ⟨x, by rw [hx, getElem!_pos P j hjl]; exact List.getElem_mem hjl, h⟩
          have hxl : x.length ≤ 1000000 := by have := HPP.out.1 x (by rw [hx, getElem!_pos P j hjl]; exact List.getElem_mem hjl); have := HPP.out.2; omega
          have q0 := empty_text x
          have CL : ∀ W, Calls Tryz.prog 40 #[.string (strOf x), .string ⟨#[46, 108, 111, 99, 107]⟩] W fun e w' => e = .returned (.bool (lockT.isSuffixOf x)) ∧ w' = W := fun W => Tryz.strings_HasSuffix (strOf x) ⟨#[46, 108, 111, 99, 107]⟩ W (by rw [strOf_size]; omega)
          have hbd : badN x = (decide (x = []) || decide (x.head? = some 46) || lockT.isSuffixOf x) := rfl
          generalize lockT.isSuffixOf x = d2 at *
          have HX := Lib.hid (And.intro hst hmem)
          unfold strV at L0
          clear L hst hmem hjl hx hxl
          cases x with
          | nil =>
            have hbad : P.any badN = true := HX.out.2 hbd
            obtain rfl : N = false := by rw [HN2.out, hbad]; rfl
            have q0' : (strOf []).toList.isEmpty = true := q0
            generalize strOf [] = X at *
            clear hbad CL hbd q0
            go_wp2_with (first | (refine wpList_load_at rfl _ _ rfl _ _ rfl L0 ?_))
            go_ret
            exact ⟨rfl, HP.out.2.2⟩
          | cons c x' =>
            have q1 : ((c.toNat : Int) == 46) = decide (c.toNat = 46) := byte_is c 46
            have IX2 := fun W : World => str_at Tryz.underlying9 (c :: x') (i := 0) (0 : Int) rfl (c := c) rfl W
            have e1 : decide ((c :: x').head? = some 46) = decide (c.toNat = 46) := by
              rw [Bool.eq_iff_iff, decide_eq_true_eq, decide_eq_true_eq]
              constructor
              · intro h; injection h with h; rw [h]; rfl
              · intro h; rw [show c = 46 from UInt8.toNat_inj.1 h]; rfl
            have e0 : decide (c :: x' = []) = false := rfl
            rw [e0, e1, Bool.false_or] at hbd
            rw [e0] at q0
            obtain ⟨d1, hd1⟩ : ∃ d, d = decide (c.toNat = 46) := ⟨_, rfl⟩
            rw [← hd1] at q1 hbd
            have HD := Lib.hid hbd
            generalize strOf (c :: x') = X at *
            clear hd1 e0 e1 hbd
            cases d1
            case true =>
              have hbad : P.any badN = true := HX.out.2 HD.out
              obtain rfl : N = false := by rw [HN2.out, hbad]; rfl
              clear hbad CL
              go_wp2_with (first | (refine wpList_load_at rfl _ _ rfl _ _ rfl L0 ?_))
              go_ret
              exact ⟨rfl, HP.out.2.2⟩
            cases d2
            case true =>
              have hbad : P.any badN = true := HX.out.2 HD.out
              obtain rfl : N = false := by rw [HN2.out, hbad]; rfl
              clear hbad
              go_wp2_with (first | (refine wpList_load_at rfl _ _ rfl _ _ rfl L0 ?_))
              refine (CL _).mono ?_
              rintro e w6 ⟨rfl, rfl⟩
              go_wp2_with fail
              go_ret
              exact ⟨rfl, HP.out.2.2⟩
            · go_wp2_with (first | (refine wpList_load_at rfl _ _ rfl _ _ rfl L0 ?_))
              refine (CL _).mono ?_
              rintro e w6 ⟨rfl, rfl⟩
              clear CL
              go_wp2_with fail
              go_roundw
              case rel => exact ⟨j + 1, by go_num, by omega, by rw [HX.out.1, HNO.out, HD.out]; rfl, by first | rfl | trivial⟩
              case measure => simp [intOf]; omega
        · obtain rfl : j = m := by omega
          have t1 : decide ((j : Int) < (j : Int)) = false := decide_eq_false (by omega)
          have t1' : decide (j < j) = false := decide_eq_false (by omega)
          have hbad : P.any badN = false := by
            have := HNO.out
            rw [List.take_of_length_le (by rw [← HP.out.2.1]; exact Nat.le_refl _)] at this
            exact this
          obtain rfl : N = true := by rw [HN2.out, hbad]; rfl
          clear hbad
          go_wp2_with fail
          go_ret
          exact ⟨rfl, HP.out.2.2⟩
end Go.Proofs.YtponfkfeflnilaaGreatDoor
