/-
  slices.swapRangeCmpFunc, at entries: the walk.
  slices.rotateCmpFunc, at entries: the walk.
  slices.insertionSortCmpFunc, at entries: the walk. (Printed by gen/gen_sort10.py.)
  slices.symMergeCmpFunc, at entries: the walk, one value beside a row. (Printed by gen/gen_sym10.py.)
  slices.symMergeCmpFunc, at entries: the walk, two rows of two values or more; any two rows. (Printed by gen/gen_symgen10.py.)
  slices.stableCmpFunc, slices.Clone at entries, tree.Sort: the walks. (Printed by gen/gen_stab10.py.)
  slices.Clone at entries, slices.SortStableFunc, tree.Sort: the walks.
-/
import Derived.Test.YtbllpjphlanchaaStoreR
import Derived.Test.YtbllpjphlanchaaEnt
import Derived.Test.YtbllpjphlanchaaMixG
import Derived.Test.YtbllpjphlanchaaBox
import Derived.Test.YtbllpjphlanchaaSortPlain
import Derived.Test.YtbllpjphlanchaaOrder10
import Derived.Test.YtbllpjphlanchaaRefLess
import Derived.Deep.CutRange
import Derived.Test.YtbllpjphlanchaaAppR
namespace Go.Proofs.Ytbllpjphlanchaa
open Go.RowKit Go.Mix Go.WideMaps

set_option maxRecDepth 100000 in
set_option maxHeartbeats 4000000 in
theorem swapRange_any {w0 w : World} {g N c n : Nat} {P X M Y S : List Ent} (fn : Value) (hX : X.length = n) (hY : Y.length = n) (hN : N = P.length + n + M.length + n + S.length) (hN6 : N ≤ 1000)
    (h : OwnR encE 22 40 w0 w (.slice (some ⟨g, 0, none⟩) N c) (P ++ X ++ M ++ Y ++ S)) :
    Calls Try.prog 55 #[.slice (some ⟨g, 0, none⟩) N c, .int .i64 (P.length : Int), .int .i64 ((P.length + n + M.length : Nat) : Int), .int .i64 (n : Int), fn] w fun e w' =>
      e = .returned (.tuple #[]) ∧ OwnR encE 22 40 w0 w' (.slice (some ⟨g, 0, none⟩) N c) (P ++ Y ++ M ++ X ++ S) := by
  obtain ⟨a, ha⟩ : ∃ a, a = P.length := ⟨_, rfl⟩
  obtain ⟨b, hb⟩ : ∃ b, b = P.length + n + M.length := ⟨_, rfl⟩
  rw [← hb, ← ha]
  have HAB := Lib.hid (And.intro ha (And.intro hb (And.intro hX (And.intro hY hN))))
  have hbn : b + n ≤ N := by omega
  have han : a + n ≤ b := by omega
  have H0 := Lib.hid (show OwnR encE 22 40 w0 w (.slice (some ⟨g, 0, none⟩) N c) (crossed P X M Y S 0) by rw [crossed_zero]; exact h)
  clear h ha hb hX hY hN
  go_enter Try.func55, Try.ntmps55
  go_wp2_with fail
  go_loopw [10] (fun s10 wr => ∃ i : Nat, s10 = .int .i64 (i : Int) ∧ i ≤ n ∧ OwnR encE 22 40 w0 wr (.slice (some ⟨g, 0, none⟩) N c) (crossed P X M Y S i)) (fun s10 _ => n - (intOf s10).toNat)
  case atStart => exact ⟨0, rfl, Nat.zero_le _, H0.out⟩
  case round =>
    obtain ⟨i, rfl, hi, hrow⟩ := hrel
    by_cases hin : i < n
    · have t1 : decide ((i : Int) < (n : Int)) = true := decide_eq_true (by omega)
      have t1' : decide (i < n) = true := decide_eq_true hin
      have hlen := crossed_len (P := P) (M := M) (S := S) HAB.out.2.2.1 HAB.out.2.2.2.1 hi
      have hsu := crossed_succ (P := P) (M := M) (S := S) HAB.out.2.2.1 HAB.out.2.2.2.1 hin
      rw [← HAB.out.2.2.2.2] at hlen
      rw [← HAB.out.2.1, ← HAB.out.1] at hsu
      obtain ⟨l, hl⟩ : ∃ l, l = crossed P X M Y S i := ⟨_, rfl⟩
      rw [← hl] at hlen hsu hrow
      clear hl
      obtain ⟨j1, hj1⟩ : ∃ j1, j1 = a + i := ⟨_, rfl⟩
      obtain ⟨j2, hj2⟩ : ∃ j2, j2 = b + i := ⟨_, rfl⟩
      have w1 : IntKind.i64.wrap ((a : Int) + (i : Int)) = (j1 : Int) := by rw [IntKind.wrap_i64]; omega
      have w2 : IntKind.i64.wrap ((b : Int) + (i : Int)) = (j2 : Int) := by rw [IntKind.wrap_i64]; omega
      rw [← hj1, ← hj2] at hsu
      have hj1l : j1 < l.length := by omega
      have hj2l : j2 < l.length := by omega
      obtain ⟨-, IX1, L1⟩ := hrow.at tyE j1 hj1l
      obtain ⟨-, IX2, L2⟩ := hrow.at tyE j2 hj2l
      have HS := Lib.hid (And.intro hsu (And.intro hj1l hj2l))
      have HR := Lib.hid hrow
      obtain ⟨p1, hp1⟩ : ∃ p, p = l[j1]! := ⟨_, rfl⟩
      obtain ⟨p2, hp2⟩ : ∃ p, p = l[j2]! := ⟨_, rfl⟩
      rw [← hp1] at L1
      rw [← hp2] at L2
      have HP := Lib.hid (And.intro hp1 hp2)
      have hi9 : (i : Int) + 1 ≤ 1000 := by omega
      clear hrow hsu hlen hj1l hj2l hp1 hp2 hj1 hj2
      go_upto_region 3 with (fail)
      refine wp_region_mg [(0, 0), (1, 0), (2, 0), (3, 0), (4, 3), (5, 3), (6, 3), (7, 3), (8, 0), (9, 0), (10, 0), (11, 0), (12, 0), (13, 0), (14, 0), (15, 0), (16, 0), (17, 0), (18, 0), (19, 0), (20, 0), (21, 2), (22, 0), (23, 2)] (by kernel_rfl) (by kernel_rfl) ?_
      iterate 4 (refine mg_calm rfl (fun K hK => ?_); go_simp; (refine hK _ ?_; clear hK K))
      iterate 4 (refine mg_pure rfl (fun K hK => ?_); go_simp; (refine hK _ ?_; clear hK K))
      iterate 5 (refine mg_calm rfl (fun K hK => ?_); go_simp; (refine hK _ ?_; clear hK K))
      refine mg_load rfl rfl _ _ rfl _ _ rfl L2 ?_
      iterate 5 (refine mg_calm rfl (fun K hK => ?_); go_simp; (refine hK _ ?_; clear hK K))
      refine mg_load rfl rfl _ _ rfl _ _ rfl L1 ?_
      iterate 1 (refine mg_calm rfl (fun K hK => ?_); go_simp; (refine hK _ ?_; clear hK K))
      refine mg_storeR tyE rfl rfl rfl rfl _ _ rfl HR.out p2 j1 HS.out.2.1 rfl rfl (fun w5 hw5 => ?_)
      clear L1 L2
      iterate 1 (refine mg_calm rfl (fun K hK => ?_); go_simp; (refine hK _ ?_; clear hK K))
      refine mg_storeR tyE rfl rfl rfl rfl _ _ rfl hw5 p1 j2 (by rw [List.length_set]; exact HS.out.2.2) rfl rfl (fun w6 hw6 => ?_)
      refine mg_nil fun w7 hw7 => ?_
      have hw8 := hw6.later hw7
      rw [HP.out.1, HP.out.2] at hw8
      have hw9 : OwnR encE 22 40 w0 w7 (.slice (some ⟨g, 0, none⟩) N c) (crossed P X M Y S (i + 1)) := by rw [← HS.out.1]; exact hw8
      have HW9 := Lib.hid hw9
      clear hw5 hw6 hw7 hw8 hw9 IX1 IX2 w1 w2
      go_wp2_with fail
      go_roundw
      case rel => exact ⟨i + 1, by go_num, by omega, HW9.out⟩
      case measure => simp [intOf]; omega
    · obtain rfl : i = n := by omega
      have t1 : decide ((i : Int) < (i : Int)) = false := decide_eq_false (by omega)
      have t1' : decide (i < i) = false := decide_eq_false (by omega)
      have hall := crossed_all (P := P) (M := M) (S := S) HAB.out.2.2.1 HAB.out.2.2.2.1
      rw [hall] at hrow
      have HRES := Lib.hid hrow
      clear hrow hall
      go_wp2_with fail
      refine bodyPost_end (results_none rfl _ _ _) rfl ?_
      exact ⟨rfl, HRES.out⟩
theorem swapRange_int {w0 w : World} {g N c n : Nat} {P X M Y S L : List Ent} {x y z : Int} (fn : Value) (hL : L = P ++ X ++ M ++ Y ++ S) (hX : X.length = n) (hY : Y.length = n) (hN : N = P.length + n + M.length + n + S.length) (hN6 : N ≤ 1000)
    (hx : x = (P.length : Int)) (hy : y = ((P.length + n + M.length : Nat) : Int)) (hz : z = (n : Int)) (h : OwnR encE 22 40 w0 w (.slice (some ⟨g, 0, none⟩) N c) L) :
    Calls Try.prog 55 #[.slice (some ⟨g, 0, none⟩) N c, .int .i64 x, .int .i64 y, .int .i64 z, fn] w fun e w' =>
      e = .returned (.tuple #[]) ∧ OwnR encE 22 40 w0 w' (.slice (some ⟨g, 0, none⟩) N c) (P ++ Y ++ M ++ X ++ S) := by
  subst hx hy hz hL
  exact swapRange_any fn hX hY hN hN6 h
end Go.Proofs.Ytbllpjphlanchaa
namespace Go.Proofs.Ytbllpjphlanchaa
open Go.RowKit Go.Mix Go.WideMaps

/-- What is left to be turned: U and V, between P and S; T comes out. -/
structure RotL (m N i j : Nat) (T l P U V S : List Ent) : Prop where
  eq : l = P ++ U ++ V ++ S
  tgt : P ++ V ++ U ++ S = T
  hU : U.length = i
  hV : V.length = j
  hP : P.length + i = m
  hN : N = P.length + i + j + S.length
  i0 : 0 < i
  j0 : 0 < j
theorem RotL.gt {m N i j : Nat} {T l P U V S : List Ent} (h : RotL m N i j T l P U V S) (hij : j < i) : RotL m N (i - j) j T (P ++ V ++ U.drop j ++ U.take j ++ S) (P ++ V) (U.drop j) (U.take j) S := by
  obtain ⟨h1, h2, h3, h4, h5, h6, h7, h8⟩ := h
  refine ⟨rfl, ?_, by rw [List.length_drop]; omega, by rw [List.length_take]; omega, by rw [List.length_append]; omega, by rw [List.length_append]; omega, by omega, h8⟩
  rw [← h2]
  conv => rhs; rw [← List.take_append_drop j U]
  simp only [List.append_assoc]
theorem RotL.lt {m N i j : Nat} {T l P U V S : List Ent} (h : RotL m N i j T l P U V S) (hij : i < j) : RotL m N i (j - i) T (P ++ V.drop (j - i) ++ V.take (j - i) ++ U ++ S) P (V.drop (j - i)) (V.take (j - i)) (U ++ S) := by
  obtain ⟨h1, h2, h3, h4, h5, h6, h7, h8⟩ := h
  refine ⟨by simp only [List.append_assoc], ?_, by rw [List.length_drop]; omega, by rw [List.length_take]; omega, by omega, by rw [List.length_append]; omega, by omega, by omega⟩
  rw [← h2]
  conv => rhs; rw [← List.take_append_drop (j - i) V]
  simp only [List.append_assoc]
theorem splitU (P U V S : List Ent) (j : Nat) : P ++ U ++ V ++ S = P ++ U.take j ++ U.drop j ++ V ++ S := by rw [List.append_assoc P (U.take j), List.take_append_drop]
theorem splitV (P U V S : List Ent) (k : Nat) : P ++ U ++ V ++ S = P ++ U ++ V.take k ++ V.drop k ++ S := by rw [List.append_assoc (P ++ U) (V.take k), List.take_append_drop]

set_option maxRecDepth 100000 in
set_option maxHeartbeats 4000000 in
theorem rotate_any {w0 w : World} {g N c a m b : Nat} {P U V S L : List Ent} (fn : Value) (hL : L = P ++ U ++ V ++ S) (ha : a = P.length) (hm : m = P.length + U.length) (hb : b = P.length + U.length + V.length) (hN : N = P.length + U.length + V.length + S.length) (hN6 : N ≤ 1000)
    (hU : 0 < U.length) (hV : 0 < V.length) (h : OwnR encE 22 40 w0 w (.slice (some ⟨g, 0, none⟩) N c) L) :
    Calls Try.prog 46 #[.slice (some ⟨g, 0, none⟩) N c, .int .i64 (a : Int), .int .i64 (m : Int), .int .i64 (b : Int), fn] w fun e w' =>
      e = .returned (.tuple #[]) ∧ OwnR encE 22 40 w0 w' (.slice (some ⟨g, 0, none⟩) N c) (P ++ V ++ U ++ S) := by
  obtain ⟨T, hT⟩ : ∃ T, T = P ++ V ++ U ++ S := ⟨_, rfl⟩
  rw [← hT]
  have R0 := Lib.hid (show RotL m N (m - a) (b - m) T L P U V S from ⟨hL, hT.symm, by omega, by omega, by omega, by omega, by omega, by omega⟩)
  have ham : a < m := by omega
  have hmb : m < b := by omega
  have hbN : b ≤ N := by omega
  obtain ⟨i0, hi0⟩ : ∃ i0, i0 = m - a := ⟨_, rfl⟩
  obtain ⟨j0, hj0⟩ : ∃ j0, j0 = b - m := ⟨_, rfl⟩
  have e1 : wrap64 ((m : Int) - (a : Int)) = (i0 : Int) := by rw [IntWalk.wrap64_in _ ⟨by omega, by omega⟩]; omega
  have e2 : wrap64 ((b : Int) - (m : Int)) = (j0 : Int) := by rw [IntWalk.wrap64_in _ ⟨by omega, by omega⟩]; omega
  have e1' : (m : Int) - (a : Int) = (i0 : Int) := by omega
  have e2' : (b : Int) - (m : Int) = (j0 : Int) := by omega
  rw [← hi0, ← hj0] at R0
  have hs0 : i0 + j0 ≤ N := by omega
  have H0 := Lib.hid h
  clear h hi0 hj0 hL ha hm hb hN hT hU hV
  go_enter Try.func46, Try.ntmps46
  go_wp2_with fail
  go_loopw [10, 11] (fun s10 s11 wr => ∃ (i j : Nat) (l P U V S : List Ent), s10 = .int .i64 (i : Int) ∧ s11 = .int .i64 (j : Int) ∧ RotL m N i j T l P U V S ∧ OwnR encE 22 40 w0 wr (.slice (some ⟨g, 0, none⟩) N c) l) (fun s10 s11 _ => (intOf s10).toNat + (intOf s11).toNat)
  case atStart => exact ⟨i0, j0, _, _, _, _, _, rfl, rfl, R0.out, H0.out⟩
  case round =>
    clear e1 e2 e1' e2' hs0
    obtain ⟨i, j, l, P, U, V, S, rfl, rfl, hR, hrow⟩ := hrel
    have b1 : 0 < i := hR.i0
    have b2 : 0 < j := hR.j0
    have b3 : P.length + i = m := hR.hP
    have b4 : N = P.length + i + j + S.length := hR.hN
    have b5 : i ≤ m := by omega
    have b6 : m + j ≤ N := by omega
    have HPL := Lib.hid (And.intro b3 b4)
    have HR := Lib.hid hR
    have HROW := Lib.hid hrow
    clear b3 b4 hR hrow
    by_cases hij : i = j
    · subst hij
      have t1 : ((i : Int) != (i : Int)) = false := by simp
      have t1' : (i != i) = false := by simp
      go_wp2_with (refine Calls.mono (swapRange_int (P := P) (X := U) (M := []) (Y := V) (S := S) (n := i) _ (by rw [HR.out.eq, List.append_nil]) HR.out.hU HR.out.hV (by have := HPL.out; simp; omega) hN6 (by have := HPL.out; omega) (by have := HPL.out; simp; omega) rfl HROW.out) ?_; rintro e w5 ⟨rfl, hw5⟩; rw [List.append_nil, HR.out.tgt] at hw5; have HW5 := Lib.hid hw5; clear hw5)
      refine bodyPost_end (results_none rfl _ _ _) rfl ?_
      exact ⟨rfl, HW5.out⟩
    · have t1 : ((i : Int) != (j : Int)) = true := by rw [bne_iff_ne]; omega
      have t1' : (i != j) = true := by rw [bne_iff_ne]; exact hij
      by_cases hgt : j < i
      · have t2 : decide ((j : Int) < (i : Int)) = true := decide_eq_true (by omega)
        have t2' : decide (j < i) = true := decide_eq_true hgt
        have HG := Lib.hid (HR.out.gt hgt)
        go_wp2_with (refine Calls.mono (swapRange_int (P := P) (X := U.take j) (M := U.drop j) (Y := V) (S := S) (n := j) _ (by rw [HR.out.eq]; exact splitU P U V S j) (by rw [List.length_take, HR.out.hU]; omega) HR.out.hV (by have := HPL.out; rw [List.length_drop, HR.out.hU]; omega) hN6 (by have := HPL.out; omega) (by have := HPL.out; rw [List.length_drop, HR.out.hU]; omega) rfl HROW.out) ?_; rintro e w5 ⟨rfl, hw5⟩; have HW5 := Lib.hid hw5; clear hw5)
        go_roundw
        case rel => exact ⟨i - j, j, _, _, _, _, _, by go_num, rfl, HG.out, HW5.out⟩
        case measure => simp [intOf]; omega
      · have t2 : decide ((j : Int) < (i : Int)) = false := decide_eq_false (by omega)
        have t2' : decide (j < i) = false := decide_eq_false hgt
        have hlt : i < j := by omega
        have HG := Lib.hid (HR.out.lt hlt)
        go_wp2_with (refine Calls.mono (swapRange_int (P := P) (X := U) (M := V.take (j - i)) (Y := V.drop (j - i)) (S := S) (n := i) _ (by rw [HR.out.eq]; exact splitV P U V S (j - i)) HR.out.hU (by rw [List.length_drop, HR.out.hV]; omega) (by have := HPL.out; rw [List.length_take, HR.out.hV]; omega) hN6 (by have := HPL.out; omega) (by have := HPL.out; rw [List.length_take, HR.out.hV]; omega) rfl HROW.out) ?_; rintro e w5 ⟨rfl, hw5⟩; have HW5 := Lib.hid hw5; clear hw5)
        go_roundw
        case rel => exact ⟨i, j - i, _, _, _, _, _, rfl, by go_num, HG.out, HW5.out⟩
        case measure => simp [intOf]; omega
end Go.Proofs.Ytbllpjphlanchaa
namespace Go.Proofs.Ytbllpjphlanchaa
open Go.RowKit Go.Mix Go.WideMaps

theorem lessE_weak : WeakO lessE := by
  refine ⟨fun x => lessB_irr _, fun x y z => lessB_trans, fun x y z h1 h2 => ?_⟩
  unfold lessE at *
  cases h : lessB (thoughtL x) (thoughtL z) with
  | false => rfl
  | true =>
    cases h3 : lessB (thoughtL y) (thoughtL x) with
    | true => rw [lessB_trans h3 h] at h2; cases h2
    | false => rw [lessB_eq h1 h3, h2] at h; cases h
abbrev SlE (g N c : Nat) : Value := .slice (some ⟨g, 0, none⟩) N c
abbrev cmpV : Value := .func (.func 25) #[] #[]
/-- Short names. -/
def NamesL (l : List Ent) : Prop := ∀ p ∈ l, p.name.length ≤ 1000000
theorem names_at {l : List Ent} (h : NamesL l) {k : Nat} (hk : k < l.length) : l[k]!.name.length ≤ 1000000 := h _ (by rw [getElem!_pos l k hk]; exact List.getElem_mem hk)
theorem names_steq {X Y P S : List Ent} (h : NamesL (P ++ X ++ S)) (e : StEq lessE X Y) : NamesL (P ++ Y ++ S) := fun p hp => by
  refine h p ?_
  simp only [List.mem_append] at hp ⊢
  rcases hp with (hp | hp) | hp
  · exact .inl (.inl hp)
  · exact .inl (.inr (StEq.mem lessE_weak e.symm hp))
  · exact .inr hp
theorem InsI.names {a b i j : Nat} {X S P l Y1 Y2 Z : List Ent} {z : Ent} (h : InsI lessE a b i j X S P l Y1 z Y2 Z) (hn : NamesL (P ++ X ++ S)) : NamesL l := by
  have h1 : StEq lessE (Y1 ++ Y2 ++ z :: Z) (Y1 ++ z :: (Y2 ++ Z)) := by
    have := ((StEq.refl (lt := lessE) Y1).append (StEq.swap lessE_weak (u := Y2) (v := [z]) fun x hx y hy => by simp at hy; subst hy; exact h.up x hx)).append (StEq.refl (lt := lessE) Z)
    simpa [List.append_assoc] using this
  have := names_steq hn (h.st.trans h1)
  rw [h.eq]
  simpa [List.append_assoc] using this
/-- The row's values X come to be in order. -/
def SortRow (w0 : World) (g N c : Nat) (P X S : List Ent) (e : Ending) (w' : World) : Prop :=
  e = .returned (.tuple #[]) ∧ ∃ Y, SortedB lessE Y ∧ StEq lessE X Y ∧ OwnR encE 22 40 w0 w' (SlE g N c) (P ++ Y ++ S)
def InsRel (w0 : World) (g N c a b : Nat) (X S P : List Ent) (i : Nat) (wr : World) : Prop := ∃ l Y Z, InsO lessE a b i X S P l Y Z ∧ OwnR encE 22 40 w0 wr (SlE g N c) l
def InsRelI (w0 : World) (g N c a b : Nat) (X S P : List Ent) (i j : Nat) (wr : World) : Prop := ∃ l Y1 z Y2 Z, InsI lessE a b i j X S P l Y1 z Y2 Z ∧ OwnR encE 22 40 w0 wr (SlE g N c) l

set_option maxRecDepth 100000 in
set_option maxHeartbeats 4000000 in
theorem insertion_any {w0 w : World} {g N c a b : Nat} {P X S L : List Ent} (hL : L = P ++ X ++ S) (ha : a = P.length) (hb : b = P.length + X.length) (hb6 : b ≤ 1000) (hnm : NamesL (P ++ X ++ S)) (h : OwnR encE 22 40 w0 w (SlE g N c) L) :
    Calls Try.prog 38 #[SlE g N c, .int .i64 (a : Int), .int .i64 (b : Int), cmpV] w (SortRow w0 g N c P X S) := by
  have HST := Lib.hid (InsO.start (lt := lessE) hL ha hb)
  have H0 := Lib.hid h
  have HNM := Lib.hid hnm
  have hab : a ≤ b := by omega
  clear h hL ha hb hnm
  go_enter Try.func38, Try.ntmps38
  go_wp2_with fail
  go_loopw [8] (fun s8 wr => ∃ i : Nat, s8 = .int .i64 (i : Int) ∧ a < i ∧ i ≤ b + 1 ∧ InsRel w0 g N c a b X S P i wr) (fun s8 _ => b + 1 - (intOf s8).toNat)
  case atStart =>
    obtain ⟨Y, Z, hs⟩ := HST.out
    exact ⟨a + 1, by go_num, by omega, by omega, L, Y, Z, hs, H0.out⟩
  case round =>
    obtain ⟨i, rfl, hai, hib1, hR⟩ := hrel
    by_cases hib : i < b
    · have t1 : decide ((i : Int) < (b : Int)) = true := decide_eq_true (by omega)
      have t1' : decide (i < b) = true := decide_eq_true hib
      have HI0 : Hid (InsRelI w0 g N c a b X S P i i wr) := Lib.hid (by
        obtain ⟨l, Y, Z, h1, h2⟩ := hR
        obtain ⟨z, Z2, h3⟩ := h1.inner hib
        exact ⟨l, Y, z, [], Z2, h3, h2⟩)
      clear hR
      go_wp2_with fail
      go_loopw [9] (fun s9 wr => ∃ j : Nat, s9 = .int .i64 (j : Int) ∧ a ≤ j ∧ j ≤ i ∧ InsRelI w0 g N c a b X S P i j wr) (fun s9 _ => (intOf s9).toNat)
      case atStart => exact ⟨i, rfl, by omega, by omega, HI0.out⟩
      case round =>
        obtain ⟨j, rfl, haj, hji, l, Y1, z, Y2, Z, hI, hrow⟩ := hrel
        clear HI0
        have HI := Lib.hid hI
        have HR := Lib.hid hrow
        by_cases hja : a < j
        · have t2 : decide ((a : Int) < (j : Int)) = true := decide_eq_true (by omega)
          have t2' : decide (a < j) = true := decide_eq_true hja
          have hjl := hI.lens.1
          have HJL := Lib.hid hjl
          obtain ⟨o, hoj⟩ : ∃ o, o = j - 1 := ⟨_, rfl⟩
          have hol : o < l.length := by omega
          have HOL := Lib.hid hol
          have w1 : IntKind.i64.wrap ((j : Int) - 1) = (o : Int) := by rw [IntKind.wrap_i64]; omega
          obtain ⟨-, IXj, Lj⟩ := hrow.at tyE j hjl
          obtain ⟨-, IXo, Lo⟩ := hrow.at tyE o hol
          have hnl := hI.names HNM.out
          have CO := fun W : World => order_any l[j]! l[o]! (names_at hnl hjl) (names_at hnl hol) W
          obtain ⟨B, hB⟩ : ∃ B, B = lessE l[j]! l[o]! := ⟨_, rfl⟩
          have hB2 : decide (Lib.compareBytes (thoughtL l[j]!) (thoughtL l[o]!) < 0) = B := by rw [hB]; rfl
          obtain ⟨d, hd⟩ : ∃ d, d = Lib.compareBytes (thoughtL l[j]!) (thoughtL l[o]!) := ⟨_, rfl⟩
          rw [← hd] at hB2 CO
          obtain ⟨qj, hqj⟩ : ∃ p, p = l[j]! := ⟨_, rfl⟩
          obtain ⟨qo, hqo⟩ : ∃ p, p = l[o]! := ⟨_, rfl⟩
          rw [← hqj] at Lj CO
          rw [← hqo] at Lo CO
          have HB := Lib.hid (And.intro hB hoj)
          clear hI hjl hol hnl hB hoj hd hqj hqo
          go_upto_region 4 with (fail)
          refine wp_region_mg [(0, 0), (1, 0), (2, 0), (3, 0), (4, 0), (5, 0), (6, 0), (7, 0), (8, 0), (9, 0), (10, 0), (11, 0), (12, 0), (13, 0), (14, 0), (15, 0), (16, 0)] (by kernel_rfl) (by kernel_rfl) ?_
          iterate 8 (refine mg_calm rfl (fun K hK => ?_); go_simp; (refine hK _ ?_; clear hK K))
          refine mg_load rfl rfl _ _ rfl _ _ rfl Lj ?_
          iterate 4 (refine mg_calm rfl (fun K hK => ?_); go_simp; (refine hK _ ?_; clear hK K))
          refine mg_load rfl rfl _ _ rfl _ _ rfl Lo ?_
          (refine mg_calm rfl (fun K hK => ?_); go_simp; apply Exists.intro; refine ⟨fun z => CO z.1, hK _ ?_⟩; clear hK K)
          iterate 2 (refine mg_calm rfl (fun K hK => ?_); go_simp; (refine hK _ ?_; clear hK K))
          refine mg_nil fun w5 hw5 => ?_
          have hrow5 := hrow.later hw5

          have HR5 := Lib.hid hrow5
          clear Lj Lo CO hB2 hw5 hrow hrow5 HR
          cases B
          · have HD : Hid (InsRel w0 g N c a b X S P (i + 1) w5) := Lib.hid ⟨_, _, _, HI.out.done lessE_weak (.inr (by have h1 := HB.out.1; have h2 := HB.out.2; rw [← h2, ← HI.out.z]; exact h1.symm)), HR5.out⟩
            clear IXj IXo w1
            go_wp2_with fail
            go_roundw
            case rel => exact ⟨i + 1, by go_num, by omega, by omega, HD.out⟩
            case measure => simp [intOf]; omega
          · obtain ⟨-, -, Lj⟩ := HR5.out.at tyE j HJL.out
            obtain ⟨-, -, Lo⟩ := HR5.out.at tyE o HOL.out
            obtain ⟨pj, hpj⟩ : ∃ p, p = l[j]! := ⟨_, rfl⟩
            obtain ⟨po, hpo⟩ : ∃ p, p = l[o]! := ⟨_, rfl⟩
            rw [← hpj] at Lj
            rw [← hpo] at Lo
            have HP := Lib.hid (And.intro hpj hpo)
            clear hpj hpo
            go_upto_region 6 with (fail)
            refine wp_region_mg [(0, 0), (1, 0), (2, 3), (3, 3), (4, 3), (5, 0), (6, 0), (7, 0), (8, 0), (9, 0), (10, 0), (11, 0), (12, 0), (13, 0), (14, 0), (15, 2), (16, 0), (17, 2)] (by kernel_rfl) (by kernel_rfl) ?_
            iterate 2 (refine mg_calm rfl (fun K hK => ?_); go_simp; (refine hK _ ?_; clear hK K))
            iterate 3 (refine mg_pure rfl (fun K hK => ?_); go_simp; (refine hK _ ?_; clear hK K))
            iterate 4 (refine mg_calm rfl (fun K hK => ?_); go_simp; (refine hK _ ?_; clear hK K))
            refine mg_load rfl rfl _ _ rfl _ _ rfl Lo ?_
            iterate 3 (refine mg_calm rfl (fun K hK => ?_); go_simp; (refine hK _ ?_; clear hK K))
            refine mg_load rfl rfl _ _ rfl _ _ rfl Lj ?_
            iterate 1 (refine mg_calm rfl (fun K hK => ?_); go_simp; (refine hK _ ?_; clear hK K))
            refine mg_storeR tyE rfl rfl rfl rfl _ _ rfl HR5.out po j HJL.out rfl rfl (fun w5 hw5 => ?_)
            clear Lj Lo
            iterate 1 (refine mg_calm rfl (fun K hK => ?_); go_simp; (refine hK _ ?_; clear hK K))
            refine mg_storeR tyE rfl rfl rfl rfl _ _ rfl hw5 pj o (by rw [List.length_set]; exact HOL.out) rfl rfl (fun w6 hw6 => ?_)
            refine mg_nil fun w7 hw7 => ?_
            have hw8 := hw6.later hw7
            rw [HP.out.1, HP.out.2] at hw8
            have HSW := Lib.hid hw8
            clear hw5 hw6 hw7 hw8

            have HD : Hid (InsRelI w0 g N c a b X S P i o w7) := Lib.hid (by
              have h1 := HB.out.1
              have h2 := HB.out.2
              have h3 := HSW.out
              rw [h2] at h1 h3 ⊢
              obtain ⟨Y, u, hst⟩ := HI.out.step hja h1.symm
              exact ⟨_, _, _, _, _, hst, h3⟩)
            have hoi : o + 1 = j := by have := HB.out.2; omega
            have HOI := Lib.hid hoi
            clear IXj IXo hoi
            go_wp2_with fail
            go_roundw
            case rel => exact ⟨o, by first | rfl | (rw [w1]) | (have := HOI.out; go_num), by have := HOI.out; omega, by have := HOI.out; omega, HD.out⟩
            case measure => simp [intOf]; have := HOI.out; omega
        · obtain rfl : j = a := by omega
          have t2 : decide ((j : Int) < (j : Int)) = false := decide_eq_false (by omega)
          have t2' : decide (j < j) = false := decide_eq_false (by omega)
          have HD : Hid (InsRel w0 g N c j b X S P (i + 1) wr) := Lib.hid ⟨_, _, _, HI.out.done lessE_weak (.inl rfl), HR.out⟩
          clear hI hrow
          go_upto_region 4 with (fail)
          refine wp_region_mg [(0, 0), (1, 0), (2, 0), (3, 0), (4, 0), (5, 0), (6, 0), (7, 0), (8, 0), (9, 0), (10, 0), (11, 0), (12, 0), (13, 0), (14, 0), (15, 0), (16, 0)] (by kernel_rfl) (by kernel_rfl) ?_
          iterate 17 (refine mg_calm rfl (fun K hK => ?_); go_simp; (refine hK _ ?_; clear hK K))
          refine mg_nil fun w5 hw5 => ?_
          have HD5 : Hid (InsRel w0 g N c j b X S P (i + 1) w5) := Lib.hid (by
            obtain ⟨l, Y, Z, h1, h2⟩ := HD.out
            exact ⟨l, Y, Z, h1, h2.later hw5⟩)
          clear hw5
          go_wp2_with fail
          go_roundw
          case rel => exact ⟨i + 1, by go_num, by omega, by omega, HD5.out⟩
          case measure => simp [intOf]; omega
    · have t1 : decide ((i : Int) < (b : Int)) = false := decide_eq_false (by omega)
      have t1' : decide (i < b) = false := decide_eq_false hib
      have HRES : Hid (SortRow w0 g N c P X S (.returned (.tuple #[])) wr) := Lib.hid (by
        obtain ⟨l, Y, Z, h1, h2⟩ := hR
        obtain ⟨h3, h4, h5⟩ := h1.all (by omega)
        rw [h3] at h2
        exact ⟨rfl, Y, h4, h5, h2⟩)
      clear hR
      go_wp2_with fail
      refine bodyPost_end (results_none rfl _ _ _) rfl ?_
      exact HRES.out
end Go.Proofs.Ytbllpjphlanchaa
namespace Go.Proofs.Ytbllpjphlanchaa
open Go.RowKit Go.Mix Go.WideMaps

def SrchRow (w0 : World) (g N c : Nat) (l : List Ent) (p : Ent → Bool) (B : List Ent) (t u : Nat) (wr : World) : Prop := Srch p B t u ∧ OwnR encE 22 40 w0 wr (SlE g N c) l
def MvRow (w0 : World) (g N c : Nat) (P : List Ent) (x : Ent) (B R : List Ent) (t : Nat) (wr : World) : Prop := OwnR encE 22 40 w0 wr (SlE g N c) (mvL P x B R t)

set_option maxRecDepth 100000 in
set_option maxHeartbeats 4000000 in
theorem symOne_front {w0 w : World} {g N c a m b : Nat} {P B S : List Ent} {x : Ent} (ha : a = P.length) (hm : m = a + 1) (hb : b = m + B.length) (hb6 : b ≤ 1000) (hsB : SortedB lessE B) (hnm : NamesL (P ++ [x] ++ B ++ S))
    (h : OwnR encE 22 40 w0 w (SlE g N c) (P ++ [x] ++ B ++ S)) :
    Calls Try.prog 39 #[SlE g N c, .int .i64 (a : Int), .int .i64 (m : Int), .int .i64 (b : Int), cmpV] w (SortRow w0 g N c P ([x] ++ B) S) := by
  obtain ⟨l, hl⟩ : ∃ l, l = P ++ [x] ++ B ++ S := ⟨_, rfl⟩
  rw [← hl] at h hnm
  have HC := Lib.hid (And.intro ha (And.intro hm (And.intro hb (And.intro hsB (And.intro hnm hl)))))
  have H0 := Lib.hid h
  have l1 : a + 1 ≤ m := by omega
  have l2 : m ≤ a + 1 := by omega
  have l3 : m ≤ b := by omega
  have e0 : wrap64 ((m : Int) - (a : Int)) = 1 := by rw [IntWalk.wrap64_in _ ⟨by omega, by omega⟩]; omega
  have e0' : (m : Int) - (a : Int) = 1 := by omega
  clear h ha hm hb hnm hl hsB
  go_enter Try.func39, Try.ntmps39
  go_wp2_with fail
  clear e0 e0'
  go_loopw [10, 11] (fun s10 s11 wr => ∃ i j t u : Nat, s10 = .int .i64 (i : Int) ∧ s11 = .int .i64 (j : Int) ∧ i = m + t ∧ j = m + u ∧ SrchRow w0 g N c l (fun y => lessE y x) B t u wr) (fun s10 s11 _ => (intOf s11).toNat - (intOf s10).toNat)
  case atStart => exact ⟨m, b, 0, B.length, rfl, rfl, rfl, HC.out.2.2.1, Srch.start _ _, H0.out⟩
  case round =>
    clear H0
    obtain ⟨i, j, t, u, rfl, rfl, hi, hj, hs, hrow⟩ := hrel
    have hju : j ≤ b := by have := hs.2.1; have := HC.out.2.2.1; omega
    have l4 : i ≤ j := by have := hs.1; omega
    have l5 : m ≤ i := by omega
    have HT := Lib.hid (And.intro hi (And.intro hj (And.intro hs hrow)))
    by_cases hij : i < j
    · have t1 : decide ((i : Int) < (j : Int)) = true := decide_eq_true (by omega)
      have t1' : decide (i < j) = true := decide_eq_true hij
      obtain ⟨h, hh0⟩ : ∃ h, h = (i + j) / 2 := ⟨_, rfl⟩
      have hh : ((i : Int) + (j : Int)) / 2 = (h : Int) := by omega
      have l7 : i ≤ h := by omega
      have l8 : h < j := by omega
      have hkB : h - m < B.length := by have := hs.2.1; omega
      have e1 : l[h]! = B[h - m]! := by
        rw [HC.out.2.2.2.2.2]
        have := at_B (P := P) (A := [x]) (B := B) (S := S) hkB
        rw [show P.length + [x].length + (h - m) = h by have := HC.out.1; have := HC.out.2.1; simp only [List.length_cons, List.length_nil]; omega] at this
        exact this
      have e2 : l[a]! = x := by
        rw [HC.out.2.2.2.2.2]
        have := at_A (P := P) (A := [x]) (B := B) (S := S) (k := 0) (by simp)
        rw [show P.length + 0 = a by have := HC.out.1; omega] at this
        exact this
      have hll : l.length = P.length + B.length + 1 + S.length := by rw [HC.out.2.2.2.2.2]; simp only [List.length_append, List.length_cons, List.length_nil] <;> omega
      have hjl : h < l.length := by have := HC.out.1; have := HC.out.2.1; have := HC.out.2.2.1; omega
      have hol : a < l.length := by have := HC.out.1; have := HC.out.2.1; omega
      obtain ⟨-, IXh, Lh⟩ := hrow.at tyE h hjl
      obtain ⟨-, IXa, La⟩ := hrow.at tyE a hol
      have CO := fun W : World => order_any l[h]! l[a]! (names_at HC.out.2.2.2.2.1 hjl) (names_at HC.out.2.2.2.2.1 hol) W
      obtain ⟨TB, hB⟩ : ∃ B, B = lessE l[h]! l[a]! := ⟨_, rfl⟩
      have hB2 : decide (Lib.compareBytes (thoughtL l[h]!) (thoughtL l[a]!) < 0) = TB := by rw [hB]; rfl
      obtain ⟨d, hd⟩ : ∃ d, d = Lib.compareBytes (thoughtL l[h]!) (thoughtL l[a]!) := ⟨_, rfl⟩
      rw [← hd] at hB2 CO
      rw [e1, e2] at hB
      obtain ⟨qj, hqj⟩ : ∃ p, p = l[h]! := ⟨_, rfl⟩
      obtain ⟨qo, hqo⟩ : ∃ p, p = l[a]! := ⟨_, rfl⟩
      rw [← hqj] at Lh CO
      rw [← hqo] at La CO
      have HB := Lib.hid (And.intro hB hh0)
      clear hjl hol hB hd hqj hqo e1 e2 hll hkB hi hj hs hh0
      go_upto_region 5 with (fail)
      refine wp_region_mg [(0, 0), (1, 0), (2, 0), (3, 0), (4, 0), (5, 0), (6, 0), (7, 0), (8, 0), (9, 0), (10, 0)] (by kernel_rfl) (by kernel_rfl) ?_
      iterate 4 (refine mg_calm rfl (fun K hK => ?_); go_simp; (refine hK _ ?_; clear hK K))
      refine mg_load rfl rfl _ _ rfl _ _ rfl Lh ?_
      iterate 3 (refine mg_calm rfl (fun K hK => ?_); go_simp; (refine hK _ ?_; clear hK K))
      refine mg_load rfl rfl _ _ rfl _ _ rfl La ?_
      (refine mg_calm rfl (fun K hK => ?_); go_simp; apply Exists.intro; refine ⟨fun z => CO z.1, hK _ ?_⟩; clear hK K)
      iterate 1 (refine mg_calm rfl (fun K hK => ?_); go_simp; (refine hK _ ?_; clear hK K))
      refine mg_nil fun w5 hw5 => ?_
      have hrow5 := hrow.later hw5

      have HR5 := Lib.hid hrow5
      clear Lh La CO hB2 hw5 hrow hrow5 IXh IXa
      cases TB
      · have HD : Hid (SrchRow w0 g N c l (fun y => lessE y x) B t (h - m) w5) := Lib.hid ⟨by
          obtain ⟨hi, hj, hs, -⟩ := HT.out
          exact hs.no lessE_weak (mono_lt lessE_weak x) HC.out.2.2.2.1 (by omega) (by omega) HB.out.1.symm, HR5.out⟩
        go_wp2_with fail
        go_roundw
        case rel => exact ⟨i, h, t, h - m, rfl, by first | rfl | (rw [hh]), HT.out.1, by omega, HD.out⟩
        case measure => simp [intOf]; omega
      · have HD : Hid (SrchRow w0 g N c l (fun y => lessE y x) B (h - m + 1) u w5) := Lib.hid ⟨by
          obtain ⟨hi, hj, hs, -⟩ := HT.out
          exact hs.yes lessE_weak (mono_lt lessE_weak x) HC.out.2.2.2.1 (by omega) HB.out.1.symm, HR5.out⟩
        go_wp2_with fail
        go_roundw
        case rel => exact ⟨h + 1, j, h - m + 1, u, by first | go_num | (rw [hh]; go_num), rfl, by omega, HT.out.2.1, HD.out⟩
        case measure => simp [intOf]; omega
    · obtain rfl : i = j := by omega
      have t1 : decide ((i : Int) < (i : Int)) = false := decide_eq_false (by omega)
      have t1' : decide (i < i) = false := decide_eq_false (by omega)
      have htu : t = u := by omega
      rw [← htu] at hs
      obtain ⟨T, hT⟩ : ∃ T, T = t := ⟨_, rfl⟩
      rw [← hT] at hs hi
      have hTl : T ≤ B.length := hs.2.1
      have HS := Lib.hid (And.intro hs hi)
      have HM0 : Hid (MvRow w0 g N c P x (B.take T) (B.drop T ++ S) 0 wr) := Lib.hid (by
        unfold MvRow
        rw [← mv_front, ← HC.out.2.2.2.2.2]
        exact hrow)
      clear hs hi hj htu hT hrow HT
      go_wp2_with fail
      go_loopw [13] (fun s13 wr => ∃ k t : Nat, s13 = .int .i64 (k : Int) ∧ k = a + t ∧ t ≤ T ∧ MvRow w0 g N c P x (B.take T) (B.drop T ++ S) t wr) (fun s13 _ => b - (intOf s13).toNat)
      case atStart => exact ⟨a, 0, rfl, rfl, Nat.zero_le _, HM0.out⟩
      case round =>
        clear HM0
        obtain ⟨k, t, rfl, hk, ht, hmv⟩ := hrel
        have hi := HS.out.2
        have hbl := HC.out.2.2.1
        by_cases hkt : t < T
        · have t2 : decide ((k : Int) < (i : Int) - 1) = true := decide_eq_true (by omega)
          obtain ⟨o, ho⟩ : ∃ o, o = k + 1 := ⟨_, rfl⟩
          have w1 : IntKind.i64.wrap ((k : Int) + 1) = (o : Int) := by rw [IntKind.wrap_i64]; omega
          have hup := mv_up (P := P) (B := B.take T) (R := B.drop T ++ S) (x := x) (t := t) (k := k) (by rw [List.length_take]; omega) (by rw [hk, HC.out.1])
          rw [← ho] at hup
          unfold MvRow at hmv
          obtain ⟨l2, hl2⟩ : ∃ l2, l2 = mvL P x (B.take T) (B.drop T ++ S) t := ⟨_, rfl⟩
          rw [← hl2] at hup hmv
          have hkl : k < l2.length := by have := hup.1; omega
          have hol : o < l2.length := by have := hup.1; omega
          obtain ⟨-, IXj, Lj⟩ := hmv.at tyE k hkl
          obtain ⟨-, IXo, Lo⟩ := hmv.at tyE o hol
          have HKL := Lib.hid (And.intro hkl (And.intro hol (And.intro hmv (And.intro hup.2 (And.intro ho (And.intro hi hk))))))
          have l9 : k ≤ 1000 := by omega
          have l8 : k < b := by have := HC.out.2.2.1; omega
          clear hl2 hup hkl hol hmv ho hk hi hbl
          obtain ⟨pj, hpj⟩ : ∃ p, p = l2[k]! := ⟨_, rfl⟩
          obtain ⟨po, hpo⟩ : ∃ p, p = l2[o]! := ⟨_, rfl⟩
          rw [← hpj] at Lj
          rw [← hpo] at Lo
          have HP := Lib.hid (And.intro hpj hpo)
          clear hpj hpo
          go_upto_region 11 with (fail)
          refine wp_region_mg [(0, 0), (1, 0), (2, 3), (3, 3), (4, 3), (5, 0), (6, 0), (7, 0), (8, 0), (9, 0), (10, 0), (11, 0), (12, 0), (13, 0), (14, 0), (15, 2), (16, 0), (17, 2)] (by kernel_rfl) (by kernel_rfl) ?_
          iterate 2 (refine mg_calm rfl (fun K hK => ?_); go_simp; (refine hK _ ?_; clear hK K))
          iterate 3 (refine mg_pure rfl (fun K hK => ?_); go_simp; (refine hK _ ?_; clear hK K))
          iterate 4 (refine mg_calm rfl (fun K hK => ?_); go_simp; (refine hK _ ?_; clear hK K))
          refine mg_load rfl rfl _ _ rfl _ _ rfl Lo ?_
          iterate 3 (refine mg_calm rfl (fun K hK => ?_); go_simp; (refine hK _ ?_; clear hK K))
          refine mg_load rfl rfl _ _ rfl _ _ rfl Lj ?_
          iterate 1 (refine mg_calm rfl (fun K hK => ?_); go_simp; (refine hK _ ?_; clear hK K))
          refine mg_storeR tyE rfl rfl rfl rfl _ _ rfl HKL.out.2.2.1 po k HKL.out.1 rfl rfl (fun w5 hw5 => ?_)
          clear Lj Lo
          iterate 1 (refine mg_calm rfl (fun K hK => ?_); go_simp; (refine hK _ ?_; clear hK K))
          refine mg_storeR tyE rfl rfl rfl rfl _ _ rfl hw5 pj o (by rw [List.length_set]; exact HKL.out.2.1) rfl rfl (fun w6 hw6 => ?_)
          refine mg_nil fun w7 hw7 => ?_
          have hw8 := hw6.later hw7
          rw [HP.out.1, HP.out.2] at hw8
          have HSW := Lib.hid hw8
          clear hw5 hw6 hw7 hw8

          rw [HKL.out.2.2.2.1] at HSW
          have l9' : o = k + 1 := by have := HKL.out.2.2.2.2.1; have := HKL.out.2.2.2.2.2.2; omega
          have HO := Lib.hid l9'
          clear IXj IXo l9'
          go_wp2_with fail
          go_roundw
          case rel => exact ⟨o, t + 1, by first | rfl | (rw [w1]) | (have := HO.out; subst this; go_num) | (have := HO.out; go_num), by have := HO.out; have := HKL.out.2.2.2.2.2.2; omega, by omega, HSW.out⟩
          case measure => simp [intOf]; have := HO.out; omega
        · have htT : t = T := by omega
          subst htT
          have t2 : decide ((k : Int) < (i : Int) - 1) = false := decide_eq_false (by omega)
          have t2b : True := trivial
          have HRES : Hid (SortRow w0 g N c P ([x] ++ B) S (.returned (.tuple #[])) wr) := Lib.hid (by
            have h1 := mv_done_front lessE_weak (P := P) (S := S) HC.out.2.2.2.1 HS.out.1
            unfold MvRow at hmv
            rw [List.length_take, Nat.min_eq_left hTl] at h1
            rw [h1.1] at hmv
            exact ⟨rfl, _, h1.2.1, h1.2.2, hmv⟩)
          clear hmv hk hi hbl
          go_wp2_with fail
          first
            | refine bodyPost_ret (results_none rfl _ _ _) rfl ?_
            | refine bodyPost_end (results_none rfl _ _ _) rfl ?_
          exact HRES.out

set_option maxRecDepth 100000 in
set_option maxHeartbeats 4000000 in
theorem symOne_back {w0 w : World} {g N c a m b : Nat} {P A S : List Ent} {z : Ent} (ha : a = P.length) (hm : m = a + A.length) (hb : b = m + 1) (hA2 : 2 ≤ A.length) (hb6 : b ≤ 1000) (hsA : SortedB lessE A) (hnm : NamesL (P ++ A ++ [z] ++ S))
    (h : OwnR encE 22 40 w0 w (SlE g N c) (P ++ A ++ [z] ++ S)) :
    Calls Try.prog 39 #[SlE g N c, .int .i64 (a : Int), .int .i64 (m : Int), .int .i64 (b : Int), cmpV] w (SortRow w0 g N c P (A ++ [z]) S) := by
  obtain ⟨l, hl⟩ : ∃ l, l = P ++ A ++ [z] ++ S := ⟨_, rfl⟩
  rw [← hl] at h hnm
  have HC := Lib.hid (And.intro ha (And.intro hm (And.intro hb (And.intro hsA (And.intro hnm hl)))))
  have H0 := Lib.hid h
  have l1 : m + 1 ≤ b := by omega
  have l2 : b ≤ m + 1 := by omega
  have l3 : a + 2 ≤ m := by omega
  obtain ⟨q, hq⟩ : ∃ q, q = m - a := ⟨_, rfl⟩
  have e0 : wrap64 ((m : Int) - (a : Int)) = (q : Int) := by rw [IntWalk.wrap64_in _ ⟨by omega, by omega⟩]; omega
  have e0' : (m : Int) - (a : Int) = (q : Int) := by omega
  have e1 : ((q : Int) == 1) = false := by rw [beq_eq_false_iff_ne]; omega
  have e1' : (q == 1) = false := by rw [beq_eq_false_iff_ne]; omega
  have e2 : wrap64 ((b : Int) - (m : Int)) = 1 := by rw [IntWalk.wrap64_in _ ⟨by omega, by omega⟩]; omega
  have e2' : (b : Int) - (m : Int) = 1 := by omega
  clear hq hA2
  clear h ha hm hb hnm hl hsA
  go_enter Try.func39, Try.ntmps39
  go_wp2_with fail
  clear e0 e0' e1 e1' e2 e2'
  go_loopw [14, 15] (fun s10 s11 wr => ∃ i j t u : Nat, s10 = .int .i64 (i : Int) ∧ s11 = .int .i64 (j : Int) ∧ i = a + t ∧ j = a + u ∧ SrchRow w0 g N c l (fun y => !lessE z y) A t u wr) (fun s10 s11 _ => (intOf s11).toNat - (intOf s10).toNat)
  case atStart => exact ⟨a, m, 0, A.length, rfl, rfl, rfl, HC.out.2.1, Srch.start _ _, H0.out⟩
  case round =>
    clear H0
    obtain ⟨i, j, t, u, rfl, rfl, hi, hj, hs, hrow⟩ := hrel
    have hju : j ≤ m := by have := hs.2.1; have := HC.out.2.1; omega
    have l4 : i ≤ j := by have := hs.1; omega
    have l5 : a ≤ i := by omega
    have HT := Lib.hid (And.intro hi (And.intro hj (And.intro hs hrow)))
    by_cases hij : i < j
    · have t1 : decide ((i : Int) < (j : Int)) = true := decide_eq_true (by omega)
      have t1' : decide (i < j) = true := decide_eq_true hij
      obtain ⟨h, hh0⟩ : ∃ h, h = (i + j) / 2 := ⟨_, rfl⟩
      have hh : ((i : Int) + (j : Int)) / 2 = (h : Int) := by omega
      have l7 : i ≤ h := by omega
      have l8 : h < j := by omega
      have hkB : h - a < A.length := by have := hs.2.1; omega
      have e1 : l[h]! = A[h - a]! := by
        rw [HC.out.2.2.2.2.2]
        have := at_A (P := P) (A := A) (B := [z]) (S := S) hkB
        rw [show P.length + (h - a) = h by have := HC.out.1; omega] at this
        exact this
      have e2 : l[m]! = z := by
        rw [HC.out.2.2.2.2.2]
        have := at_B (P := P) (A := A) (B := [z]) (S := S) (k := 0) (by simp)
        rw [show P.length + A.length + 0 = m by have := HC.out.1; have := HC.out.2.1; omega] at this
        exact this
      have hll : l.length = P.length + A.length + 1 + S.length := by rw [HC.out.2.2.2.2.2]; simp only [List.length_append, List.length_cons, List.length_nil] <;> omega
      have hjl : h < l.length := by have := HC.out.1; have := HC.out.2.1; have := HC.out.2.2.1; omega
      have hol : m < l.length := by have := HC.out.1; have := HC.out.2.1; omega
      obtain ⟨-, IXh, Lh⟩ := hrow.at tyE h hjl
      obtain ⟨-, IXa, La⟩ := hrow.at tyE m hol
      have CO := fun W : World => order_any l[m]! l[h]! (names_at HC.out.2.2.2.2.1 hol) (names_at HC.out.2.2.2.2.1 hjl) W
      obtain ⟨TB, hB⟩ : ∃ B, B = lessE l[m]! l[h]! := ⟨_, rfl⟩
      have hB2 : decide (Lib.compareBytes (thoughtL l[m]!) (thoughtL l[h]!) < 0) = TB := by rw [hB]; rfl
      obtain ⟨d, hd⟩ : ∃ d, d = Lib.compareBytes (thoughtL l[m]!) (thoughtL l[h]!) := ⟨_, rfl⟩
      rw [← hd] at hB2 CO
      rw [e1, e2] at hB
      obtain ⟨qj, hqj⟩ : ∃ p, p = l[h]! := ⟨_, rfl⟩
      obtain ⟨qo, hqo⟩ : ∃ p, p = l[m]! := ⟨_, rfl⟩
      rw [← hqj] at Lh CO
      rw [← hqo] at La CO
      have HB := Lib.hid (And.intro hB hh0)
      clear hjl hol hB hd hqj hqo e1 e2 hll hkB hi hj hs hh0
      go_upto_region 17 with (fail)
      refine wp_region_mg [(0, 0), (1, 0), (2, 0), (3, 0), (4, 0), (5, 0), (6, 0), (7, 0), (8, 0), (9, 0), (10, 0), (11, 0)] (by kernel_rfl) (by kernel_rfl) ?_
      iterate 4 (refine mg_calm rfl (fun K hK => ?_); go_simp; (refine hK _ ?_; clear hK K))
      refine mg_load rfl rfl _ _ rfl _ _ rfl La ?_
      iterate 3 (refine mg_calm rfl (fun K hK => ?_); go_simp; (refine hK _ ?_; clear hK K))
      refine mg_load rfl rfl _ _ rfl _ _ rfl Lh ?_
      (refine mg_calm rfl (fun K hK => ?_); go_simp; apply Exists.intro; refine ⟨fun z => CO z.1, hK _ ?_⟩; clear hK K)
      iterate 2 (refine mg_calm rfl (fun K hK => ?_); go_simp; (refine hK _ ?_; clear hK K))
      refine mg_nil fun w5 hw5 => ?_
      have hrow5 := hrow.later hw5

      have HR5 := Lib.hid hrow5
      clear Lh La CO hB2 hw5 hrow hrow5 IXh IXa
      cases TB
      · have HD : Hid (SrchRow w0 g N c l (fun y => !lessE z y) A (h - a + 1) u w5) := Lib.hid ⟨by
          obtain ⟨hi, hj, hs, -⟩ := HT.out
          exact hs.yes lessE_weak (mono_ge lessE_weak z) HC.out.2.2.2.1 (by omega) (by have := HB.out.1; rw [← this]; rfl), HR5.out⟩
        go_wp2_with fail
        go_roundw
        case rel => exact ⟨h + 1, j, h - a + 1, u, by first | go_num | (rw [hh]; go_num), rfl, by omega, HT.out.2.1, HD.out⟩
        case measure => simp [intOf]; omega
      · have HD : Hid (SrchRow w0 g N c l (fun y => !lessE z y) A t (h - a) w5) := Lib.hid ⟨by
          obtain ⟨hi, hj, hs, -⟩ := HT.out
          exact hs.no lessE_weak (mono_ge lessE_weak z) HC.out.2.2.2.1 (by omega) (by omega) (by have := HB.out.1; rw [← this]; rfl), HR5.out⟩
        go_wp2_with fail
        go_roundw
        case rel => exact ⟨i, h, t, h - a, rfl, by first | rfl | (rw [hh]), HT.out.1, by omega, HD.out⟩
        case measure => simp [intOf]; omega
    · obtain rfl : i = j := by omega
      have t1 : decide ((i : Int) < (i : Int)) = false := decide_eq_false (by omega)
      have t1' : decide (i < i) = false := decide_eq_false (by omega)
      have htu : t = u := by omega
      rw [← htu] at hs
      obtain ⟨T, hT⟩ : ∃ T, T = t := ⟨_, rfl⟩
      rw [← hT] at hs hi
      have hTl : T ≤ A.length := hs.2.1
      have HS := Lib.hid (And.intro hs hi)
      have HM0 : Hid (MvRow w0 g N c (P ++ A.take T) z (A.drop T) S (A.drop T).length wr) := Lib.hid (by
        unfold MvRow
        rw [← mv_back, ← HC.out.2.2.2.2.2]
        exact hrow)
      clear hs hi hj htu hT hrow HT
      go_wp2_with fail
      go_loopw [17] (fun s13 wr => ∃ k t : Nat, s13 = .int .i64 (k : Int) ∧ k = a + T + t ∧ t ≤ A.length - T ∧ MvRow w0 g N c (P ++ A.take T) z (A.drop T) S t wr) (fun s13 _ => (intOf s13).toNat)
      case atStart => exact ⟨m, (A.drop T).length, rfl, by have := HC.out.2.1; rw [List.length_drop]; omega, by rw [List.length_drop]; exact Nat.le_refl _, HM0.out⟩
      case round =>
        clear HM0
        obtain ⟨k, t, rfl, hk, ht, hmv⟩ := hrel
        have hi := HS.out.2
        have hml := HC.out.2.1
        by_cases hkt : 0 < t
        · have t2 : decide ((i : Int) < (k : Int)) = true := decide_eq_true (by omega)
          have t2' : decide (i < k) = true := decide_eq_true (by omega)
          obtain ⟨o, ho⟩ : ∃ o, o = k - 1 := ⟨_, rfl⟩
          have w1 : IntKind.i64.wrap ((k : Int) - 1) = (o : Int) := by rw [IntKind.wrap_i64]; omega
          have hup := mv_down (P := P ++ A.take T) (B := A.drop T) (R := S) (x := z) (t := t) (k := k) hkt (by rw [List.length_drop]; omega) (by rw [hk, HC.out.1, List.length_append, List.length_take]; omega)
          rw [← ho] at hup
          unfold MvRow at hmv
          obtain ⟨l2, hl2⟩ : ∃ l2, l2 = mvL (P ++ A.take T) z (A.drop T) S t := ⟨_, rfl⟩
          rw [← hl2] at hup hmv
          have hkl : k < l2.length := by have := hup.1; omega
          have hol : o < l2.length := by have := hup.1; omega
          obtain ⟨-, IXj, Lj⟩ := hmv.at tyE k hkl
          obtain ⟨-, IXo, Lo⟩ := hmv.at tyE o hol
          have HKL := Lib.hid (And.intro hkl (And.intro hol (And.intro hmv (And.intro hup.2 (And.intro ho (And.intro hi hk))))))
          have l9 : k ≤ 1000 := by omega
          have l8 : k < b := by have := HC.out.2.2.1; omega
          clear hl2 hup hkl hol hmv ho hk hi hml
          obtain ⟨pj, hpj⟩ : ∃ p, p = l2[k]! := ⟨_, rfl⟩
          obtain ⟨po, hpo⟩ : ∃ p, p = l2[o]! := ⟨_, rfl⟩
          rw [← hpj] at Lj
          rw [← hpo] at Lo
          have HP := Lib.hid (And.intro hpj hpo)
          clear hpj hpo
          go_upto_region 23 with (fail)
          refine wp_region_mg [(0, 0), (1, 0), (2, 3), (3, 3), (4, 3), (5, 0), (6, 0), (7, 0), (8, 0), (9, 0), (10, 0), (11, 0), (12, 0), (13, 0), (14, 0), (15, 2), (16, 0), (17, 2)] (by kernel_rfl) (by kernel_rfl) ?_
          iterate 2 (refine mg_calm rfl (fun K hK => ?_); go_simp; (refine hK _ ?_; clear hK K))
          iterate 3 (refine mg_pure rfl (fun K hK => ?_); go_simp; (refine hK _ ?_; clear hK K))
          iterate 4 (refine mg_calm rfl (fun K hK => ?_); go_simp; (refine hK _ ?_; clear hK K))
          refine mg_load rfl rfl _ _ rfl _ _ rfl Lo ?_
          iterate 3 (refine mg_calm rfl (fun K hK => ?_); go_simp; (refine hK _ ?_; clear hK K))
          refine mg_load rfl rfl _ _ rfl _ _ rfl Lj ?_
          iterate 1 (refine mg_calm rfl (fun K hK => ?_); go_simp; (refine hK _ ?_; clear hK K))
          refine mg_storeR tyE rfl rfl rfl rfl _ _ rfl HKL.out.2.2.1 po k HKL.out.1 rfl rfl (fun w5 hw5 => ?_)
          clear Lj Lo
          iterate 1 (refine mg_calm rfl (fun K hK => ?_); go_simp; (refine hK _ ?_; clear hK K))
          refine mg_storeR tyE rfl rfl rfl rfl _ _ rfl hw5 pj o (by rw [List.length_set]; exact HKL.out.2.1) rfl rfl (fun w6 hw6 => ?_)
          refine mg_nil fun w7 hw7 => ?_
          have hw8 := hw6.later hw7
          rw [HP.out.1, HP.out.2] at hw8
          have HSW := Lib.hid hw8
          clear hw5 hw6 hw7 hw8

          rw [HKL.out.2.2.2.1] at HSW
          have l9' : o + 1 = k := by have := HKL.out.2.2.2.2.1; have := HKL.out.2.2.2.2.2.2; omega
          have HO := Lib.hid l9'
          clear IXj IXo l9'
          go_wp2_with fail
          go_roundw
          case rel => exact ⟨o, t - 1, by first | rfl | (rw [w1]) | (have := HO.out; subst this; go_num) | (have := HO.out; go_num), by have := HO.out; have := HKL.out.2.2.2.2.2.2; omega, by omega, HSW.out⟩
          case measure => simp [intOf]; have := HO.out; omega
        · have htT : t = 0 := by omega
          subst htT
          have t2 : decide ((i : Int) < (k : Int)) = false := decide_eq_false (by omega)
          have t2' : decide (i < k) = false := decide_eq_false (by omega)
          have HRES : Hid (SortRow w0 g N c P (A ++ [z]) S (.returned (.tuple #[])) wr) := Lib.hid (by
            have h1 := mv_done_back lessE_weak (P := P) (S := S) HC.out.2.2.2.1 HS.out.1
            unfold MvRow at hmv
            have h2 := trivial
            rw [h1.1] at hmv
            exact ⟨rfl, _, h1.2.1, h1.2.2, hmv⟩)
          clear hmv hk hi hml
          go_wp2_with fail
          first
            | refine bodyPost_ret (results_none rfl _ _ _) rfl ?_
            | refine bodyPost_end (results_none rfl _ _ _) rfl ?_
          exact HRES.out
end Go.Proofs.Ytbllpjphlanchaa
namespace Go.Proofs.Ytbllpjphlanchaa
open Go.RowKit Go.Mix Go.WideMaps

theorem StEq.perm {l m : List Ent} (h : StEq lessE l m) : l.Perm m := List.perm_iff_count.2 fun x => StEq.count lessE_weak h x
/-- What merging two rows is, of fewer than n values. -/
def SymC (w0 : World) (g N c n : Nat) : Prop := ∀ (w : World) (a m b : Nat) (P A B S : List Ent), b - a < n → a = P.length → m = a + A.length → b = m + B.length → 1 ≤ A.length → 1 ≤ B.length → b ≤ 1000 → N ≤ 1000 →
  SortedB lessE A → SortedB lessE B → NamesL (P ++ A ++ B ++ S) → OwnR encE 22 40 w0 w (SlE g N c) (P ++ A ++ B ++ S) →
  Calls Try.prog 39 #[SlE g N c, .int .i64 (a : Int), .int .i64 (m : Int), .int .i64 (b : Int), cmpV] w (SortRow w0 g N c P (A ++ B) S)
def Srch3Row (w0 : World) (g N c : Nat) (l : List Ent) (n lo hi s r : Nat) (wr : World) : Prop := Srch3 lessE l n lo hi s r ∧ OwnR encE 22 40 w0 wr (SlE g N c) l
/-- The row, its parts merged so far. -/
def PartRow (w0 : World) (g N c : Nat) (l : List Ent) (wr : World) : Prop := OwnR encE 22 40 w0 wr (SlE g N c) l
def LeftRow (w0 : World) (g N c : Nat) (P X R : List Ent) (wr : World) : Prop := ∃ L, SortedB lessE L ∧ StEq lessE X L ∧ OwnR encE 22 40 w0 wr (SlE g N c) (P ++ L ++ R)
theorem NamesL.mem {l m : List Ent} (h : NamesL l) (hs : ∀ p ∈ m, p ∈ l) : NamesL m := fun p hp => h p (hs p hp)

theorem sym_fin {w0 w' : World} {g N c : Nat} {P A1 A2 B1 B2 L R S : List Ent} (hA : SortedB lessE (A1 ++ A2)) (hB : SortedB lessE (B1 ++ B2)) (p1 : ∀ x ∈ A1, ∀ y ∈ B2, lessE y x = false) (p2 : ∀ x ∈ A2, ∀ y ∈ B1, lessE y x = true)
    (hL : SortedB lessE L) (eL : StEq lessE (A1 ++ B1) L) (hR : SortedB lessE R) (eR : StEq lessE (A2 ++ B2) R) (h : OwnR encE 22 40 w0 w' (SlE g N c) (P ++ L ++ R ++ S)) :
    SortRow w0 g N c P (A1 ++ A2 ++ (B1 ++ B2)) S (.returned (.tuple #[])) w' := by
  obtain ⟨h1, h2⟩ := merge_parts lessE_weak hA hB p1 p2 hL hR eL eR
  exact ⟨rfl, L ++ R, h1, h2, by simp only [List.append_assoc] at h ⊢; exact h⟩
theorem nil_of_len {l : List Ent} (h : l.length = 0) : l = [] := List.eq_nil_of_length_eq_zero h

set_option maxRecDepth 100000 in
set_option maxHeartbeats 8000000 in
theorem sym_gen {w0 w : World} {g N c a m b : Nat} {P A B S : List Ent} (IH : SymC w0 g N c (b - a)) (ha : a = P.length) (hm : m = a + A.length) (hb : b = m + B.length) (hA2 : 2 ≤ A.length) (hB2 : 2 ≤ B.length) (hb6 : b ≤ 1000) (hN6 : N ≤ 1000)
    (hsA : SortedB lessE A) (hsB : SortedB lessE B) (hnm : NamesL (P ++ A ++ B ++ S)) (h : OwnR encE 22 40 w0 w (SlE g N c) (P ++ A ++ B ++ S)) :
    Calls Try.prog 39 #[SlE g N c, .int .i64 (a : Int), .int .i64 (m : Int), .int .i64 (b : Int), cmpV] w (SortRow w0 g N c P (A ++ B) S) := by
  obtain ⟨l, hl⟩ : ∃ l, l = P ++ A ++ B ++ S := ⟨_, rfl⟩
  rw [← hl] at h hnm
  obtain ⟨mid, hmid⟩ : ∃ x, x = (a + b) / 2 := ⟨_, rfl⟩
  obtain ⟨n, hn⟩ : ∃ x, x = mid + m := ⟨_, rfl⟩
  obtain ⟨lo, hi, hnums⟩ : ∃ lo hi, Nums3 a m b n lo hi := by
    rcases Nat.lt_or_ge mid m with h1 | h1
    · exact ⟨n - b, mid, by omega, by omega, by omega, .inl ⟨by omega, rfl, by omega⟩⟩
    · exact ⟨a, m, by omega, by omega, by omega, .inr ⟨by omega, rfl, rfl⟩⟩
  have hnl2 : N = P.length + A.length + B.length + S.length := by rw [(h.at tyE 0 (by rw [hl]; simp; omega)).1, hl]; simp only [List.length_append]
  have HNL := Lib.hid hnl2
  have hnl : N = l.length := (h.at tyE 0 (by rw [hl]; simp; omega)).1
  have HC := Lib.hid (And.intro ha (And.intro hm (And.intro hb (And.intro hsA (And.intro hsB (And.intro hnm (And.intro hl (And.intro hnl hnums))))))))
  have HIH := Lib.hid IH
  have H0 := Lib.hid h
  obtain ⟨q1, hq1⟩ : ∃ q, q = m - a := ⟨_, rfl⟩
  obtain ⟨q2, hq2⟩ : ∃ q, q = b - m := ⟨_, rfl⟩
  obtain ⟨p, hp⟩ : ∃ p, p = n - 1 := ⟨_, rfl⟩
  have l1 : a + 2 ≤ m := by omega
  have l2 : m + 2 ≤ b := by omega
  have l3 : a + b ≤ 2 * mid + 1 := by omega
  have l4 : 2 * mid ≤ a + b := by omega
  have l5 : lo ≤ hi := hnums.rng.2.1
  have l6 : hi ≤ m := hnums.rng.2.2.1
  have l7 : a ≤ lo := hnums.rng.1
  have hn1 : 1 ≤ n := by omega
  have e0 : wrap64 ((m : Int) - (a : Int)) = (q1 : Int) := by rw [IntWalk.wrap64_in _ ⟨by omega, by omega⟩]; omega
  have e0' : (m : Int) - (a : Int) = (q1 : Int) := by omega
  have e1 : ((q1 : Int) == 1) = false := by rw [beq_eq_false_iff_ne]; omega
  have e1' : (q1 == 1) = false := by rw [beq_eq_false_iff_ne]; omega
  have e2 : wrap64 ((b : Int) - (m : Int)) = (q2 : Int) := by rw [IntWalk.wrap64_in _ ⟨by omega, by omega⟩]; omega
  have e2' : (b : Int) - (m : Int) = (q2 : Int) := by omega
  have e3 : ((q2 : Int) == 1) = false := by rw [beq_eq_false_iff_ne]; omega
  have e3' : (q2 == 1) = false := by rw [beq_eq_false_iff_ne]; omega
  have e4 : ((a : Int) + (b : Int)) / 2 = (mid : Int) := by omega
  have e5 : (mid : Int) + (m : Int) = (n : Int) := by omega
  have E45 := Lib.hid (And.intro hn hmid)
  have E6 := Lib.hid hp
  clear h ha hm hb hnm hl hnl hnl2 hsA hsB hnums IH hq1 hq2 hp hn hmid hA2 hB2
  go_enter Try.func39, Try.ntmps39
  go_upto_if 140 with (fail)
  clear e0 e0' e1 e1' e2 e2' e3 e3' e4 e5
  go_cut [20, 21] from 141 (fun s r wx => s = .int .i64 (lo : Int) ∧ r = .int .i64 (hi : Int) ∧ wx = w)
  case first =>
    by_cases hmm : mid < m
    · have t1 : decide ((mid : Int) < (m : Int)) = true := decide_eq_true (by omega)
      have t1' : decide (mid < m) = true := decide_eq_true hmm
      have hlo : lo = n - b ∧ hi = mid ∧ b ≤ n := by
        obtain ⟨-, -, -, h⟩ := HC.out.2.2.2.2.2.2.2.2
        have := E45.out.1; have := E45.out.2
        rcases h with h | h <;> omega
      have e6 : (n : Int) - (b : Int) = (lo : Int) := by omega
      have HLO := Lib.hid hlo.2.1
      have l9 : b ≤ n := hlo.2.2
      have l10 : n ≤ 3000 := by have := E45.out.1; omega
      clear hlo
      go_wp2_with fail
      go_meet
      exact ⟨rfl, by rw [HLO.out], rfl⟩
    · have t1 : decide ((mid : Int) < (m : Int)) = false := decide_eq_false (by omega)
      have t1' : decide (mid < m) = false := decide_eq_false hmm
      have hlo : lo = a ∧ hi = m := by
        obtain ⟨-, -, -, h⟩ := HC.out.2.2.2.2.2.2.2.2
        have := E45.out.1; have := E45.out.2
        rcases h with h | h <;> omega
      have HLO := Lib.hid hlo
      clear hlo
      go_wp2_with fail
      go_meet
      exact ⟨by rw [HLO.out.1], by rw [HLO.out.2], rfl⟩
  case rest =>
  obtain ⟨rfl, rfl, rfl⟩ := hcut
  have l10 : n ≤ 3000 := by have := E45.out.1; omega
  have e6 : (n : Int) - 1 = (p : Int) := by have := E6.out; omega
  go_wp2_with fail
  clear e6
  go_loopw [20, 21] (fun s20 s21 wr => ∃ s r : Nat, s20 = .int .i64 (s : Int) ∧ s21 = .int .i64 (r : Int) ∧ Srch3Row w0 g N c l n lo hi s r wr) (fun s20 s21 _ => (intOf s21).toNat - (intOf s20).toNat)
  case atStart => exact ⟨lo, hi, rfl, rfl, Srch3.start l5, H0.out⟩
  case round =>
    clear H0
    obtain ⟨s, r, rfl, rfl, hs, hrow⟩ := hrel
    have l11 : lo ≤ s := hs.h1
    have l12 : s ≤ r := hs.h2
    have l13 : r ≤ hi := hs.h3
    have HS := Lib.hid hs
    have HROW := Lib.hid hrow
    by_cases hsr : s < r
    · have t1 : decide ((s : Int) < (r : Int)) = true := decide_eq_true (by omega)
      have t1' : decide (s < r) = true := decide_eq_true hsr
      obtain ⟨k, hk0⟩ : ∃ k, k = (s + r) / 2 := ⟨_, rfl⟩
      have hh : ((s : Int) + (r : Int)) / 2 = (k : Int) := by omega
      have l14 : s ≤ k := by omega
      have l15 : k < r := by omega
      obtain ⟨-, r2, r3, r4⟩ := HC.out.2.2.2.2.2.2.2.2.rng.2.2.2 k (by omega) (by omega)
      obtain ⟨pc, hpc⟩ : ∃ x, x = n - 1 - k := ⟨_, rfl⟩
      rw [← hpc] at r3 r4
      have w1 : IntKind.i64.wrap ((p : Int) - (k : Int)) = (pc : Int) := by rw [IntKind.wrap_i64]; have := E6.out; omega
      have hll : l.length = P.length + A.length + B.length + S.length := by rw [HC.out.2.2.2.2.2.2.1]; simp only [List.length_append]
      have hjl : k < l.length := by have := HC.out.1; have := HC.out.2.1; have := HC.out.2.2.1; omega
      have hol : pc < l.length := by have := HC.out.1; have := HC.out.2.1; have := HC.out.2.2.1; omega
      obtain ⟨-, IXh, Lh⟩ := hrow.at tyE k hjl
      obtain ⟨-, IXa, La⟩ := hrow.at tyE pc hol
      have CO := fun W : World => order_any l[pc]! l[k]! (names_at HC.out.2.2.2.2.2.1 hol) (names_at HC.out.2.2.2.2.2.1 hjl) W
      obtain ⟨TB, hB⟩ : ∃ B, B = lessE l[pc]! l[k]! := ⟨_, rfl⟩
      have hB2 : decide (Lib.compareBytes (thoughtL l[pc]!) (thoughtL l[k]!) < 0) = TB := by rw [hB]; rfl
      obtain ⟨d, hd⟩ : ∃ d, d = Lib.compareBytes (thoughtL l[pc]!) (thoughtL l[k]!) := ⟨_, rfl⟩
      rw [← hd] at hB2 CO
      obtain ⟨qj, hqj⟩ : ∃ p, p = l[k]! := ⟨_, rfl⟩
      obtain ⟨qo, hqo⟩ : ∃ p, p = l[pc]! := ⟨_, rfl⟩
      rw [← hqj] at Lh CO
      rw [← hqo] at La CO
      rw [hpc] at hB
      have HB := Lib.hid hB
      clear hjl hol hB hd hqj hqo hll hk0 hpc hs r2 r3 r4
      go_upto_region 35 with (fail)
      refine wp_region_mg [(0, 0), (1, 0), (2, 0), (3, 0), (4, 0), (5, 0), (6, 0), (7, 0), (8, 0), (9, 0), (10, 0), (11, 0), (12, 0), (13, 0)] (by kernel_rfl) (by kernel_rfl) ?_
      iterate 6 (refine mg_calm rfl (fun K hK => ?_); go_simp; (refine hK _ ?_; clear hK K))
      refine mg_load rfl rfl _ _ rfl _ _ rfl La ?_
      iterate 3 (refine mg_calm rfl (fun K hK => ?_); go_simp; (refine hK _ ?_; clear hK K))
      refine mg_load rfl rfl _ _ rfl _ _ rfl Lh ?_
      (refine mg_calm rfl (fun K hK => ?_); go_simp; apply Exists.intro; refine ⟨fun z => CO z.1, hK _ ?_⟩; clear hK K)
      iterate 2 (refine mg_calm rfl (fun K hK => ?_); go_simp; (refine hK _ ?_; clear hK K))
      refine mg_nil fun w5 hw5 => ?_
      have hrow5 := hrow.later hw5

      have HR5 := Lib.hid hrow5
      clear Lh La CO hB2 hw5 hrow hrow5 IXh IXa w1
      cases TB
      · have HD : Hid (Srch3Row w0 g N c l n lo hi (k + 1) r w5) := Lib.hid ⟨HS.out.up l14 l15 HB.out.symm, HR5.out⟩
        go_wp2_with fail
        go_roundw
        case rel => exact ⟨k + 1, r, by first | go_num | (rw [hh]; go_num), rfl, HD.out⟩
        case measure => simp [intOf]; omega
      · have HD : Hid (Srch3Row w0 g N c l n lo hi s k w5) := Lib.hid ⟨HS.out.down l14 l15 HB.out.symm, HR5.out⟩
        go_wp2_with fail
        go_roundw
        case rel => exact ⟨s, k, rfl, by first | rfl | (rw [hh]), HD.out⟩
        case measure => simp [intOf]; omega
    · obtain rfl : s = r := by omega
      have t1 : decide ((s : Int) < (s : Int)) = false := decide_eq_false (by omega)
      have t1' : decide (s < s) = false := decide_eq_false (by omega)
      obtain ⟨e, he⟩ : ∃ e, e = n - s := ⟨_, rfl⟩
      have hpt := parted lessE_weak HC.out.2.2.2.1 HC.out.2.2.2.2.1 HC.out.1 HC.out.2.1 HC.out.2.2.1 HC.out.2.2.2.2.2.2.2.2 (by rw [← HC.out.2.2.2.2.2.2.1]; exact hs)
      rw [← he] at hpt
      obtain ⟨p1, p2, b1, b2, b3, b4⟩ := hpt
      have e7 : (n : Int) - (s : Int) = (e : Int) := by omega
      have b5 : e + s = mid + m := by have := E45.out.1; omega
      obtain ⟨A1, hA1⟩ : ∃ x, x = A.take (s - a) := ⟨_, rfl⟩
      obtain ⟨A2, hA2⟩ : ∃ x, x = A.drop (s - a) := ⟨_, rfl⟩
      obtain ⟨B1, hB1⟩ : ∃ x, x = B.take (e - m) := ⟨_, rfl⟩
      obtain ⟨B2, hB2⟩ : ∃ x, x = B.drop (e - m) := ⟨_, rfl⟩
      have hA : A1 ++ A2 = A := by rw [hA1, hA2, List.take_append_drop]
      have hB : B1 ++ B2 = B := by rw [hB1, hB2, List.take_append_drop]
      have z1 : A1.length = s - a := by rw [hA1, List.length_take]; have := HC.out.2.1; omega
      have z2 : A2.length = m - s := by rw [hA2, List.length_drop]; have := HC.out.2.1; omega
      have z3 : B1.length = e - m := by rw [hB1, List.length_take]; have := HC.out.2.2.1; omega
      have z4 : B2.length = b - e := by rw [hB2, List.length_drop]; have := HC.out.2.2.1; omega
      rw [← hA1, ← hB2] at p1
      rw [← hA2, ← hB1] at p2
      have HP := Lib.hid (And.intro p1 (And.intro p2 (And.intro hA (And.intro hB (And.intro z1 (And.intro z2 (And.intro z3 z4)))))))
      have HE := Lib.hid he
      have hrow' : OwnR encE 22 40 w0 wr (SlE g N c) (P ++ A1 ++ A2 ++ (B1 ++ B2 ++ S)) := by
        have h1 := hrow
        rw [HC.out.2.2.2.2.2.2.1, ← hA, ← hB] at h1
        simp only [List.append_assoc] at h1 ⊢
        exact h1
      have HROW2 := Lib.hid hrow'
      clear he p1 p2 hA hB z1 z2 z3 z4 hA1 hA2 hB1 hB2 hs hrow hrow' HROW
      go_upto_region 39 with (fail)
      clear e7 t1 t1'
      obtain ⟨D1, hD1⟩ : ∃ D, D = (decide (s < m) && decide (m < e)) := ⟨_, rfl⟩
      have HD1 := Lib.hid hD1
      clear hD1
      go_cut [185] from 178 (fun t wx => t = .bool D1 ∧ wx = wr)
      case first =>
        have hD := HD1.out
        by_cases h1 : s < m
        · have t1 : decide ((s : Int) < (m : Int)) = true := decide_eq_true (by omega)
          have t1' : decide (s < m) = true := decide_eq_true h1
          by_cases h2 : m < e
          · have t2 : decide ((m : Int) < (e : Int)) = true := decide_eq_true (by omega)
            have t2' : decide (m < e) = true := decide_eq_true h2
            obtain rfl : D1 = true := by rw [hD, t1', t2']; rfl
            clear hD HD1
            go_wp2_with fail
            go_meet
            exact ⟨rfl, rfl⟩
          · have t2 : decide ((m : Int) < (e : Int)) = false := decide_eq_false (by omega)
            have t2' : decide (m < e) = false := decide_eq_false h2
            obtain rfl : D1 = false := by rw [hD, t2', Bool.and_false]
            clear hD HD1
            go_wp2_with fail
            go_meet
            exact ⟨rfl, rfl⟩
        · have t1 : decide ((s : Int) < (m : Int)) = false := decide_eq_false (by omega)
          have t1' : decide (s < m) = false := decide_eq_false h1
          obtain rfl : D1 = false := by rw [hD, t1', Bool.false_and]
          clear hD HD1
          go_wp2_with fail
          go_meet
          exact ⟨rfl, rfl⟩
      case rest =>
      obtain ⟨rfl, rfl⟩ := hcut

      obtain ⟨hp1, hp2, hA, hB, z1, z2, z3, z4⟩ := HP.out
      go_upto_if 185 with (fail)
      go_cut [24] from 186 (fun t wx => t = .int .i64 (e : Int) ∧ PartRow w0 g N c (P ++ A1 ++ B1 ++ (A2 ++ B2 ++ S)) wx)
      case first =>
        clear hA hB hp1 hp2
        have hD := HD1.out
        have HZ := Lib.hid (And.intro z1 (And.intro z2 (And.intro z3 z4)))
        clear z1 z2 z3 z4
        cases D1
        · have HX : Hid (PartRow w0 g N c (P ++ A1 ++ B1 ++ (A2 ++ B2 ++ S)) wc) := Lib.hid (by
            have h1 := HROW2.out
            have hz : A2 = [] ∨ B1 = [] := by
              by_cases h2 : s < m
              · by_cases h3 : m < e
                · rw [decide_eq_true h2, decide_eq_true h3] at hD; cases hD
                · exact .inr (nil_of_len (by have := HZ.out; omega))
              · exact .inl (nil_of_len (by have := HZ.out; omega))
            unfold PartRow
            rcases hz with rfl | rfl
            · simp only [List.append_assoc, List.nil_append] at h1 ⊢; exact h1
            · simp only [List.append_assoc, List.nil_append] at h1 ⊢; exact h1)
          clear hD HD1
          go_wp2_with fail
          go_meet
          exact ⟨rfl, HX.out⟩
        · have hsm : s < m ∧ m < e := by
            have h2 := hD.symm
            rw [Bool.and_eq_true, decide_eq_true_eq, decide_eq_true_eq] at h2
            exact h2
          have hpl : P.length = a := HC.out.1.symm
          have HHS := Lib.hid (And.intro hsm hpl)
          clear hD HD1 hsm hpl
          go_wp2_with (refine Calls.mono (rotate_any (P := P ++ A1) (U := A2) (V := B1) (S := B2 ++ S) cmpV (by simp only [List.append_assoc]) (by have := HZ.out; have := HHS.out; rw [List.length_append]; omega) (by have := HZ.out; have := HHS.out; rw [List.length_append]; omega) (by have := HZ.out; have := HHS.out; rw [List.length_append]; omega) (by have := HZ.out; have := HHS.out; have := HNL.out; have := HC.out.2.1; have := HC.out.2.2.1; rw [List.length_append, List.length_append]; omega) hN6 (by have := HZ.out; have := HHS.out; omega) (by have := HZ.out; have := HHS.out; omega) HROW2.out) ?_; rintro e5 w5 ⟨rfl, hw5⟩; have HW5 := Lib.hid hw5; clear hw5)
          go_meet
          exact ⟨rfl, by unfold PartRow; have := HW5.out; simp only [List.append_assoc] at this ⊢; exact this⟩
      case rest =>
      obtain ⟨rfl, hpart⟩ := hcut
      have HPART := Lib.hid hpart
      have HZ := Lib.hid (And.intro z1 (And.intro z2 (And.intro z3 z4)))
      clear hA hB hp1 hp2 HD1 hpart z1 z2 z3 z4
      go_upto_region 41 with (fail)
      obtain ⟨wb, rfl⟩ : ∃ wb, wb = wc := ⟨_, rfl⟩

      obtain ⟨D2, hD2⟩ : ∃ D, D = (decide (a < s) && decide (s < mid)) := ⟨_, rfl⟩
      have HD2 := Lib.hid hD2
      clear hD2
      go_cut [199] from 192 (fun t wx => t = .bool D2 ∧ wx = wb)
      case first =>
        have hD := HD2.out
        by_cases h1 : a < s
        · have t1 : decide ((a : Int) < (s : Int)) = true := decide_eq_true (by omega)
          have t1' : decide (a < s) = true := decide_eq_true h1
          by_cases h2 : s < mid
          · have t2 : decide ((s : Int) < (mid : Int)) = true := decide_eq_true (by omega)
            have t2' : decide (s < mid) = true := decide_eq_true h2
            obtain rfl : D2 = true := by rw [hD, t1', t2']; rfl
            clear hD HD2
            go_wp2_with fail
            go_meet
            exact ⟨rfl, rfl⟩
          · have t2 : decide ((s : Int) < (mid : Int)) = false := decide_eq_false (by omega)
            have t2' : decide (s < mid) = false := decide_eq_false h2
            obtain rfl : D2 = false := by rw [hD, t2', Bool.and_false]
            clear hD HD2
            go_wp2_with fail
            go_meet
            exact ⟨rfl, rfl⟩
        · have t1 : decide ((a : Int) < (s : Int)) = false := decide_eq_false (by omega)
          have t1' : decide (a < s) = false := decide_eq_false h1
          obtain rfl : D2 = false := by rw [hD, t1', Bool.false_and]
          clear hD HD2
          go_wp2_with fail
          go_meet
          exact ⟨rfl, rfl⟩
      case rest =>
      obtain ⟨rfl, rfl⟩ := hcut

      go_upto_if 199 with (fail)
      go_cut [24] from 200 (fun t wx => t = .int .i64 (e : Int) ∧ LeftRow w0 g N c P (A1 ++ B1) (A2 ++ B2 ++ S) wx)
      case first =>
        have hD := HD2.out
        cases D2
        · have HX : Hid (LeftRow w0 g N c P (A1 ++ B1) (A2 ++ B2 ++ S) wc) := Lib.hid (by
            have h1 := HPART.out
            obtain ⟨hp1, hp2, hA, hB, -⟩ := HP.out
            have hz : A1 = [] ∨ B1 = [] := by
              by_cases h2 : a < s
              · by_cases h3 : s < mid
                · rw [decide_eq_true h2, decide_eq_true h3] at hD; cases hD
                · exact .inr (nil_of_len (by have := HZ.out; omega))
              · exact .inl (nil_of_len (by have := HZ.out; omega))
            refine ⟨A1 ++ B1, ?_, StEq.refl _, by unfold PartRow at h1; simp only [List.append_assoc] at h1 ⊢; exact h1⟩
            have hsA := HC.out.2.2.2.1
            have hsB := HC.out.2.2.2.2.1
            rw [← hA] at hsA
            rw [← hB] at hsB
            rcases hz with rfl | rfl
            · exact (List.pairwise_append.1 hsB).1
            · rw [List.append_nil]; exact (List.pairwise_append.1 hsA).1)
          clear hD HD2
          go_wp2_with fail
          go_meet
          exact ⟨rfl, HX.out⟩
        · have hsm : a < s ∧ s < mid := by
            have h2 := hD.symm
            rw [Bool.and_eq_true, decide_eq_true_eq, decide_eq_true_eq] at h2
            exact h2
          have CI : Calls Try.prog 39 #[SlE g N c, .int .i64 (a : Int), .int .i64 (s : Int), .int .i64 (mid : Int), cmpV] wc (SortRow w0 g N c P (A1 ++ B1) (A2 ++ B2 ++ S)) := by
            obtain ⟨hp1, hp2, hA, hB, -⟩ := HP.out
            have hz := HZ.out
            have hsA := HC.out.2.2.2.1
            have hsB := HC.out.2.2.2.2.1
            rw [← hA] at hsA
            rw [← hB] at hsB
            have hn := HC.out.2.2.2.2.2.1
            rw [HC.out.2.2.2.2.2.2.1, ← hA, ← hB] at hn
            refine HIH.out wc a s mid P A1 B1 (A2 ++ B2 ++ S) (by omega) HC.out.1 (by omega) (by omega) (by omega) (by omega) (by omega) hN6 (List.pairwise_append.1 hsA).1 (List.pairwise_append.1 hsB).1 (hn.mem fun p hp => ?_) HPART.out
            simp only [List.mem_append] at hp ⊢
            grind
          clear hD HD2 hsm
          go_wp2_with (refine Calls.mono CI ?_; rintro e5 w5 ⟨rfl, hw5⟩; have HW5 := Lib.hid hw5; clear hw5 CI)
          go_meet
          exact ⟨rfl, HW5.out⟩
      case rest =>
      obtain ⟨rfl, L, hL1, hL2, hL3⟩ := hcut
      have HL := Lib.hid (And.intro hL1 (And.intro hL2 hL3))
      clear hL1 hL2 hL3 HD2 HPART
      go_upto_region 43 with (fail)
      obtain ⟨wb, rfl⟩ : ∃ wb, wb = wc := ⟨_, rfl⟩

      obtain ⟨D3, hD3⟩ : ∃ D, D = (decide (mid < e) && decide (e < b)) := ⟨_, rfl⟩
      have HD3 := Lib.hid hD3
      clear hD3
      go_cut [213] from 206 (fun t wx => t = .bool D3 ∧ wx = wb)
      case first =>
        have hD := HD3.out
        by_cases h1 : mid < e
        · have t1 : decide ((mid : Int) < (e : Int)) = true := decide_eq_true (by omega)
          have t1' : decide (mid < e) = true := decide_eq_true h1
          by_cases h2 : e < b
          · have t2 : decide ((e : Int) < (b : Int)) = true := decide_eq_true (by omega)
            have t2' : decide (e < b) = true := decide_eq_true h2
            obtain rfl : D3 = true := by rw [hD, t1', t2']; rfl
            clear hD HD3
            go_wp2_with fail
            go_meet
            exact ⟨rfl, rfl⟩
          · have t2 : decide ((e : Int) < (b : Int)) = false := decide_eq_false (by omega)
            have t2' : decide (e < b) = false := decide_eq_false h2
            obtain rfl : D3 = false := by rw [hD, t2', Bool.and_false]
            clear hD HD3
            go_wp2_with fail
            go_meet
            exact ⟨rfl, rfl⟩
        · have t1 : decide ((mid : Int) < (e : Int)) = false := decide_eq_false (by omega)
          have t1' : decide (mid < e) = false := decide_eq_false h1
          obtain rfl : D3 = false := by rw [hD, t1', Bool.false_and]
          clear hD HD3
          go_wp2_with fail
          go_meet
          exact ⟨rfl, rfl⟩
      case rest =>
      obtain ⟨rfl, rfl⟩ := hcut

      have hD := HD3.out
      cases D3
      · have HX : Hid (SortRow w0 g N c P (A ++ B) S (.returned (.tuple #[])) wc) := Lib.hid (by
          obtain ⟨h1, h2, h3⟩ := HL.out
          obtain ⟨hp1, hp2, hA, hB, -⟩ := HP.out
          have hz : A2 = [] ∨ B2 = [] := by
            by_cases h2 : mid < e
            · by_cases h3 : e < b
              · rw [decide_eq_true h2, decide_eq_true h3] at hD; cases hD
              · exact .inr (nil_of_len (by have := HZ.out; omega))
            · exact .inl (nil_of_len (by have := HZ.out; omega))
          have hsA := HC.out.2.2.2.1
          have hsB := HC.out.2.2.2.2.1
          rw [← hA] at hsA
          rw [← hB] at hsB
          have hs2 : SortedB lessE (A2 ++ B2) := by
            rcases hz with hz | hz
            · rw [hz]; exact (List.pairwise_append.1 hsB).2.1
            · rw [hz, List.append_nil]; exact (List.pairwise_append.1 hsA).2.1
          have := sym_fin (S := S) (R := A2 ++ B2) (w0 := w0) (w' := wc) (g := g) (N := N) (c := c) (P := P) hsA hsB hp1 hp2 h1 h2 hs2 (StEq.refl _) (by simp only [List.append_assoc] at h3 ⊢; exact h3)
          rw [hA, hB] at this
          exact this)
        clear hD HD3
        go_wp2_with fail
        refine bodyPost_end (results_none rfl _ _ _) rfl ?_
        exact HX.out
      · have hsm : mid < e ∧ e < b := by
          have h2 := hD.symm
          rw [Bool.and_eq_true, decide_eq_true_eq, decide_eq_true_eq] at h2
          exact h2
        have CI : Calls Try.prog 39 #[SlE g N c, .int .i64 (mid : Int), .int .i64 (e : Int), .int .i64 (b : Int), cmpV] wc (SortRow w0 g N c (P ++ L) (A2 ++ B2) S) := by
          obtain ⟨h1, h2, h3⟩ := HL.out
          obtain ⟨hp1, hp2, hA, hB, -⟩ := HP.out
          have hz := HZ.out
          have hsA := HC.out.2.2.2.1
          have hsB := HC.out.2.2.2.2.1
          rw [← hA] at hsA
          rw [← hB] at hsB
          have hn := HC.out.2.2.2.2.2.1
          rw [HC.out.2.2.2.2.2.2.1, ← hA, ← hB] at hn
          have hll : L.length = A1.length + B1.length := by rw [← (StEq.perm h2).length_eq, List.length_append]
          have hpl := HC.out.1
          refine HIH.out wc mid e b (P ++ L) A2 B2 S (by omega) (by rw [List.length_append]; omega) (by omega) (by omega) (by omega) (by omega) (by omega) hN6 (List.pairwise_append.1 hsA).2.1 (List.pairwise_append.1 hsB).2.1 (hn.mem fun p hp => ?_) (by simp only [List.append_assoc] at h3 ⊢; exact h3)
          have hm : p ∈ L → p ∈ A1 ++ B1 := fun h => (StEq.perm h2).mem_iff.2 h
          simp only [List.mem_append] at hp hm ⊢
          grind
        clear hD HD3 hsm
        go_wp2_with (refine Calls.mono CI ?_; rintro e5 w5 ⟨rfl, hw5⟩; have HW5 := Lib.hid hw5; clear hw5 CI)
        refine bodyPost_end (results_none rfl _ _ _) rfl ?_
        obtain ⟨R, hR1, hR2, hR3⟩ := HW5.out
        obtain ⟨h1, h2, h3⟩ := HL.out
        obtain ⟨hp1, hp2, hA, hB, -⟩ := HP.out
        have hsA := HC.out.2.2.2.1
        have hsB := HC.out.2.2.2.2.1
        rw [← hA] at hsA ⊢
        rw [← hB] at hsB ⊢
        exact sym_fin hsA hsB hp1 hp2 h1 h2 hR1 hR2 hR3

theorem symMerge_any (w0 : World) (g N c : Nat) : ∀ n, SymC w0 g N c n
  | 0 => fun _ _ _ _ _ _ _ _ h => absurd h (Nat.not_lt_zero _)
  | n + 1 => fun w a m b P A B S h ha hm hb hA hB hb6 hN6 hsA hsB hnm hrow => by
    rcases Nat.lt_or_ge 1 A.length with h1 | h1
    · rcases Nat.lt_or_ge 1 B.length with h2 | h2
      · exact sym_gen (fun w a' m' b' P A B S h' => symMerge_any w0 g N c n w a' m' b' P A B S (by omega)) ha hm hb h1 h2 hb6 hN6 hsA hsB hnm hrow
      · obtain ⟨z, rfl⟩ := List.length_eq_one_iff.1 (show B.length = 1 by omega)
        exact symOne_back ha hm (by simpa using hb) h1 hb6 hsA hnm hrow
    · obtain ⟨x, rfl⟩ := List.length_eq_one_iff.1 (show A.length = 1 by omega)
      exact symOne_front ha (by simpa using hm) hb hb6 hsB hnm hrow
end Go.Proofs.Ytbllpjphlanchaa
namespace Go.Proofs.Ytbllpjphlanchaa
open Go.RowKit Go.Mix Go.WideMaps

def MrgRow (w0 : World) (g N c S s a : Nat) (X : List Ent) (wr : World) : Prop := ∃ D R, MrgL lessE S s a X D R ∧ OwnR encE 22 40 w0 wr (SlE g N c) (D ++ R)
def BlkRow (w0 : World) (g N c s : Nat) (X : List Ent) (wr : World) : Prop := ∃ l, BlkS lessE s l ∧ StEq lessE X l ∧ l.length = X.length ∧ OwnR encE 22 40 w0 wr (SlE g N c) l
theorem blk_none (l : List Ent) : BlkS lessE 0 l := fun q => by simp [SortedB]
theorem names_of {X l : List Ent} (h : NamesL X) (e : StEq lessE X l) : NamesL l := fun p hp => h p (StEq.mem lessE_weak e.symm hp)
theorem steq_len {l m : List Ent} (h : StEq lessE l m) : l.length = m.length := (StEq.perm h).length_eq

theorem insertion_row {w0 w : World} {g N c a b : Nat} {X : List Ent} (hs : MrgRow w0 g N c 20 0 a X w) (hb : b = a + 20) (hbN : b ≤ X.length) (hN : X.length ≤ 900) (hnm : NamesL X) :
    Calls Try.prog 38 #[SlE g N c, .int .i64 (a : Int), .int .i64 (b : Int), cmpV] w fun e w' => e = .returned (.tuple #[]) ∧ MrgRow w0 g N c 20 0 b X w' := by
  obtain ⟨D, R, h, hrow⟩ := hs
  have hl := h.len
  have ha := h.ha
  refine (insertion_any (L := D ++ R) (P := D) (X := R.take 20) (S := R.drop 20) (by rw [List.append_assoc, List.take_append_drop]) ha (by rw [List.length_take]; omega) (by omega) (by rw [List.append_assoc, List.take_append_drop]; exact names_of hnm h.st) hrow).mono fun e w' h2 => ?_
  obtain ⟨rfl, Y, h3, h4, h5⟩ := h2
  subst hb
  have h6 := steq_len h4
  refine ⟨rfl, D ++ Y, R.drop 20, h.next (T := R.take 20) (by rw [List.take_append_drop]) h3 h4 h6 (by rw [← h6, List.length_take]; omega) (blk_none _), h5⟩
theorem insertion_last {w0 w : World} {g N c n a : Nat} {X : List Ent} (hs : MrgRow w0 g N c 20 0 a X w) (hn : n = X.length) (hN : X.length ≤ 900) (hnm : NamesL X) :
    Calls Try.prog 38 #[SlE g N c, .int .i64 (a : Int), .int .i64 (n : Int), cmpV] w fun e w' => e = .returned (.tuple #[]) ∧ BlkRow w0 g N c 20 X w' := by
  obtain ⟨D, R, h, hrow⟩ := hs
  have hl := h.len
  have ha := h.ha
  refine (insertion_any (L := D ++ R) (P := D) (X := R) (S := []) (by simp) ha (by omega) (by omega) (by rw [List.append_nil]; exact names_of hnm h.st) hrow).mono fun e w' h2 => ?_
  obtain ⟨rfl, Y, h3, h4, h5⟩ := h2
  obtain ⟨h6, h7, h8⟩ := h.last h3 h4 (steq_len h4)
  exact ⟨rfl, D ++ Y, h6, h7, h8, by rw [List.append_nil] at h5; exact h5⟩
theorem merge_row {w0 w : World} {g N c s a m b : Nat} {X : List Ent} (hs : MrgRow w0 g N c (2 * s) s a X w) (hs1 : 1 ≤ s) (hm : m = a + s) (hb : b = a + 2 * s) (hbN : b ≤ X.length) (hN : X.length ≤ 900) (hN6 : N ≤ 1000) (hnm : NamesL X) :
    Calls Try.prog 39 #[SlE g N c, .int .i64 (a : Int), .int .i64 (m : Int), .int .i64 (b : Int), cmpV] w fun e w' => e = .returned (.tuple #[]) ∧ MrgRow w0 g N c (2 * s) s b X w' := by
  obtain ⟨D, R, h, hrow⟩ := hs
  have hl := h.len
  have ha := h.ha
  have hR : R.take s ++ (R.drop s).take s ++ R.drop (2 * s) = R := by
    rw [show 2 * s = s + s by omega, ← List.drop_drop, List.append_assoc, List.take_append_drop, List.take_append_drop]
  have e1 : D ++ R.take s ++ (R.drop s).take s ++ R.drop (2 * s) = D ++ R := by
    conv => rhs; rw [← hR]
    simp only [List.append_assoc]
  have z1 : (R.take s).length = s := by rw [List.length_take]; omega
  have z2 : ((R.drop s).take s).length = s := by rw [List.length_take, List.length_drop]; omega
  have hsm := h.sml
  have hs2 : SortedB lessE ((R.drop s).take s) := by have := hsm 1; rw [Nat.one_mul] at this; exact this
  refine (symMerge_any w0 g N c (b - a + 1) w a m b D (R.take s) ((R.drop s).take s) (R.drop (2 * s)) (by omega) ha (by omega) (by omega) (by omega) (by omega) (by omega) hN6 hsm.first hs2 (by rw [e1]; exact names_of hnm h.st) (by rw [e1]; exact hrow)).mono fun e w' h2 => ?_
  obtain ⟨rfl, Y, h3, h4, h5⟩ := h2
  subst hb
  have h6 := steq_len h4
  refine ⟨rfl, D ++ Y, R.drop (2 * s), h.next (T := R.take s ++ (R.drop s).take s) hR.symm h3 h4 h6 (by rw [← h6, List.length_append]; omega) (hsm.rest 2), h5⟩
theorem merge_last {w0 w : World} {g N c s a m n : Nat} {X : List Ent} (hs : MrgRow w0 g N c (2 * s) s a X w) (hs1 : 1 ≤ s) (hm : m = a + s) (hmn : m < n) (hn : n = X.length) (hb : n ≤ a + 2 * s) (hN : X.length ≤ 900) (hN6 : N ≤ 1000) (hnm : NamesL X) :
    Calls Try.prog 39 #[SlE g N c, .int .i64 (a : Int), .int .i64 (m : Int), .int .i64 (n : Int), cmpV] w fun e w' => e = .returned (.tuple #[]) ∧ BlkRow w0 g N c (2 * s) X w' := by
  obtain ⟨D, R, h, hrow⟩ := hs
  have hl := h.len
  have ha := h.ha
  have e1 : D ++ R.take s ++ R.drop s ++ [] = D ++ R := by rw [List.append_nil, List.append_assoc, List.take_append_drop]
  have z1 : (R.take s).length = s := by rw [List.length_take]; omega
  have z2 : (R.drop s).length = n - m := by rw [List.length_drop]; omega
  have hsm := h.sml
  have hs2 : SortedB lessE (R.drop s) := by
    have := hsm 1
    rw [Nat.one_mul, List.take_of_length_le (by omega)] at this
    exact this
  refine (symMerge_any w0 g N c (n - a + 1) w a m n D (R.take s) (R.drop s) [] (by omega) ha (by omega) (by omega) (by omega) (by omega) (by omega) hN6 hsm.first hs2 (by rw [e1]; exact names_of hnm h.st) (by rw [e1]; exact hrow)).mono fun e w' h2 => ?_
  obtain ⟨rfl, Y, h3, h4, h5⟩ := h2
  rw [List.take_append_drop] at h4
  obtain ⟨h6, h7, h8⟩ := h.last h3 h4 (steq_len h4)
  exact ⟨rfl, D ++ Y, h6, h7, h8, by rw [List.append_nil] at h5; exact h5⟩
theorem merge_none {w0 w : World} {g N c s a m n : Nat} {X : List Ent} (hs : MrgRow w0 g N c (2 * s) s a X w) (hm : m = a + s) (hmn : n ≤ m) (hn : n = X.length) : BlkRow w0 g N c (2 * s) X w := by
  obtain ⟨D, R, h, hrow⟩ := hs
  have hl := h.len
  have ha := h.ha
  obtain ⟨h6, h7, h8⟩ := h.last (h.sml.all (by omega)) (StEq.refl _) rfl
  exact ⟨D ++ R, h6, h7, h8, hrow⟩

set_option maxRecDepth 100000 in
set_option maxHeartbeats 8000000 in
theorem stable_any {w0 w : World} {g N c : Nat} {X : List Ent} (hN : N = X.length) (hN6 : N ≤ 900) (hnm : NamesL X) (h : OwnR encE 22 40 w0 w (SlE g N c) X) :
    Calls Try.prog 32 #[SlE g N c, .int .i64 (N : Int), cmpV] w (SortRow w0 g N c [] X []) := by
  have HC := Lib.hid (And.intro hN (And.intro (show X.length ≤ 900 by omega) hnm))
  have H0 : Hid (MrgRow w0 g N c 20 0 0 X w) := Lib.hid ⟨[], X, MrgL.start (blk_none X) (StEq.refl _) rfl, h⟩
  clear h hN hnm
  go_enter Try.func32, Try.ntmps32
  go_wp2_with fail
  go_loopw [7, 8] (fun s7 s8 wr => ∃ a b : Nat, s7 = .int .i64 (a : Int) ∧ s8 = .int .i64 (b : Int) ∧ b = a + 20 ∧ a ≤ N ∧ MrgRow w0 g N c 20 0 a X wr) (fun s7 _ _ => N - (intOf s7).toNat)
  case atStart => exact ⟨0, 20, rfl, rfl, rfl, Nat.zero_le _, H0.out⟩
  case round =>
    clear H0
    obtain ⟨a, b, rfl, rfl, hb, haN, hM⟩ := hrel
    have HM := Lib.hid hM
    have l1 : b ≤ a + 20 := by omega
    have l2 : a + 20 ≤ b := by omega
    have HB := Lib.hid hb
    clear hM hb
    by_cases hbN : b ≤ N
    · have t1 : decide ((b : Int) ≤ (N : Int)) = true := decide_eq_true (by omega)
      have t1' : decide (b ≤ N) = true := decide_eq_true hbN
      have CI := insertion_row (b := b) HM.out HB.out (by have := HC.out.1; omega) HC.out.2.1 HC.out.2.2
      go_wp2_with (refine Calls.mono CI ?_; rintro e5 w5 ⟨rfl, hw5⟩; have HW5 := Lib.hid hw5; clear hw5 CI)
      go_roundw
      case rel => exact ⟨b, b + 20, rfl, by go_num, rfl, by omega, HW5.out⟩
      case measure => simp [intOf]; omega
    · have t1 : decide ((b : Int) ≤ (N : Int)) = false := decide_eq_false (by omega)
      have t1' : decide (b ≤ N) = false := decide_eq_false hbN
      have CI := insertion_last HM.out HC.out.1 HC.out.2.1 HC.out.2.2
      go_wp2_with (refine Calls.mono CI ?_; rintro e5 w5 ⟨rfl, hw5⟩; have HW5 := Lib.hid hw5; clear hw5 CI)
      clear t1 t1' hbN
      go_loopw [6] (fun s6 wr => ∃ s : Nat, s6 = .int .i64 (s : Int) ∧ 1 ≤ s ∧ s ≤ 2 * N + 20 ∧ BlkRow w0 g N c s X wr) (fun s6 _ => N - (intOf s6).toNat)
      case atStart => exact ⟨20, rfl, by omega, by omega, HW5.out⟩
      case round =>
        clear HW5
        obtain ⟨s, rfl, hs1, hs2, hB⟩ := hrel
        by_cases hsN : s < N
        · have t1 : decide ((s : Int) < (N : Int)) = true := decide_eq_true (by omega)
          have t1' : decide (s < N) = true := decide_eq_true hsN
          obtain ⟨z, hz⟩ : ∃ z, z = 2 * s := ⟨_, rfl⟩
          have e1 : 2 * (s : Int) = (z : Int) := by omega
          have e1' : (s : Int) * 2 = (z : Int) := by omega
          have l3 : z ≤ 2 * s := by omega
          have l4 : 2 * s ≤ z := by omega
          have HM0 : Hid (MrgRow w0 g N c z s 0 X wr) := Lib.hid (by
            obtain ⟨l, b1, b2, b3, b4⟩ := hB
            exact ⟨[], l, MrgL.start b1 b2 b3, b4⟩)
          have HZ := Lib.hid hz
          clear hB hz
          go_wp2_with fail
          go_loopw [7, 8] (fun s7 s8 wr => ∃ a b : Nat, s7 = .int .i64 (a : Int) ∧ s8 = .int .i64 (b : Int) ∧ b = a + z ∧ a ≤ N ∧ MrgRow w0 g N c z s a X wr) (fun s7 _ _ => N - (intOf s7).toNat)
          case atStart => exact ⟨0, z, rfl, rfl, by omega, Nat.zero_le _, HM0.out⟩
          case round =>
            clear HM0
            obtain ⟨a, b, rfl, rfl, hb, haN, hM⟩ := hrel
            have hM' := hM
            rw [HZ.out] at hM'
            have HM := Lib.hid hM'
            have l5 : b ≤ a + z := by omega
            have l6 : a + z ≤ b := by omega
            obtain ⟨m, hm⟩ : ∃ m, m = a + s := ⟨_, rfl⟩
            have e2 : (a : Int) + (s : Int) = (m : Int) := by omega
            have l7 : m ≤ a + s := by omega
            have l8 : a + s ≤ m := by omega
            have HB := Lib.hid (And.intro hb hm)
            clear hM hM' hb hm
            by_cases hbN : b ≤ N
            · have t2 : decide ((b : Int) ≤ (N : Int)) = true := decide_eq_true (by omega)
              have t2' : decide (b ≤ N) = true := decide_eq_true hbN
              have CI := merge_row (b := b) HM.out hs1 HB.out.2 (by have := HB.out.1; omega) (by have := HC.out.1; omega) HC.out.2.1 (by omega) HC.out.2.2
              go_wp2_with (refine Calls.mono CI ?_; rintro e5 w5 ⟨rfl, hw5⟩; have HW5 := Lib.hid hw5; clear hw5 CI)
              go_roundw
              case rel => exact ⟨b, b + z, rfl, by go_num, rfl, by omega, by rw [HZ.out]; exact HW5.out⟩
              case measure => simp [intOf]; omega
            · have t2 : decide ((b : Int) ≤ (N : Int)) = false := decide_eq_false (by omega)
              have t2' : decide (b ≤ N) = false := decide_eq_false hbN
              by_cases hmN : m < N
              · have t3 : decide ((m : Int) < (N : Int)) = true := decide_eq_true (by omega)
                have t3' : decide (m < N) = true := decide_eq_true hmN
                have CI := merge_last (n := N) HM.out hs1 HB.out.2 hmN HC.out.1 (by omega) HC.out.2.1 (by omega) HC.out.2.2
                go_wp2_with (refine Calls.mono CI ?_; rintro e5 w5 ⟨rfl, hw5⟩; have HW5 := Lib.hid hw5; clear hw5 CI)
                go_roundw
                case rel => exact ⟨z, by first | rfl | (rw [e1']), by omega, by omega, by rw [HZ.out]; exact HW5.out⟩
                case measure => simp [intOf]; omega
              · have t3 : decide ((m : Int) < (N : Int)) = false := decide_eq_false (by omega)
                have t3' : decide (m < N) = false := decide_eq_false hmN
                have HW5 := Lib.hid (merge_none HM.out HB.out.2 (by omega) HC.out.1)
                go_wp2_with fail
                go_roundw
                case rel => exact ⟨z, by first | rfl | (rw [e1']), by omega, by omega, by rw [HZ.out]; exact HW5.out⟩
                case measure => simp [intOf]; omega
        · have t1 : decide ((s : Int) < (N : Int)) = false := decide_eq_false (by omega)
          have t1' : decide (s < N) = false := decide_eq_false hsN
          have HRES : Hid (SortRow w0 g N c [] X [] (.returned (.tuple #[])) wr) := Lib.hid (by
            obtain ⟨l, b1, b2, b3, b4⟩ := hB
            exact ⟨rfl, l, b1.all (by have := HC.out.1; omega), b2, by rw [List.nil_append, List.append_nil]; exact b4⟩)
          clear hB
          go_wp2_with fail
          refine bodyPost_end (results_none rfl _ _ _) rfl ?_
          exact HRES.out
end Go.Proofs.Ytbllpjphlanchaa
namespace Go.Proofs.Ytbllpjphlanchaa
open Go.RowKit Go.Mix Go.WideMaps

set_option maxRecDepth 100000 in
set_option maxHeartbeats 2000000 in
theorem insertion_nil (w : World) : Calls Try.prog 38 #[.slice none 0 0, .int .i64 0, .int .i64 0, cmpV] w fun e w' => e = .returned (.tuple #[]) ∧ w = w' := by
  go_enter Try.func38, Try.ntmps38
  go_wp2_with fail
  go_loopw [8] (fun s8 wr => s8 = .int .i64 1 ∧ w = wr) (fun _ _ => 0)
  case atStart => exact ⟨rfl, rfl⟩
  case round =>
    obtain ⟨rfl, rfl⟩ := hrel
    go_wp2_with fail
    refine bodyPost_end (results_none rfl _ _ _) rfl ?_
    exact ⟨rfl, rfl⟩
set_option maxRecDepth 100000 in
set_option maxHeartbeats 2000000 in
theorem stable_nil (w : World) : Calls Try.prog 32 #[.slice none 0 0, .int .i64 0, cmpV] w fun e w' => e = .returned (.tuple #[]) ∧ w = w' := by
  go_enter Try.func32, Try.ntmps32
  go_wp2_with fail
  go_loopw [7, 8] (fun s7 s8 wr => s7 = .int .i64 0 ∧ s8 = .int .i64 20 ∧ w = wr) (fun _ _ _ => 0)
  case atStart => exact ⟨rfl, rfl, rfl⟩
  case round =>
    obtain ⟨rfl, rfl, rfl⟩ := hrel
    go_wp2_with (refine Calls.mono (insertion_nil _) ?_; rintro e5 w5 ⟨rfl, rfl⟩)
    go_loopw [6] (fun s6 wr => s6 = .int .i64 20 ∧ w = wr) (fun _ _ => 0)
    case atStart => exact ⟨rfl, rfl⟩
    case round =>
      obtain ⟨rfl, rfl⟩ := hrel
      go_wp2_with fail
      refine bodyPost_end (results_none rfl _ _ _) rfl ?_
      exact ⟨rfl, rfl⟩

set_option maxRecDepth 100000 in
set_option maxHeartbeats 2000000 in
theorem clone_any {w : World} {a : Option Addr} {n cap : Nat} {l : List Ent} (hg : RsAt encE 22 w a cap l) (hn : n = l.length) (hlen : n ≤ 900) :
    Calls Try.prog 26 #[.slice a n cap] w fun e w' => ∃ v, e = .returned v ∧ OwnR encE 22 40 w w' v l := by
  cases a with
  | none =>
    have h0 := hg.non rfl
    subst h0
    have hl0 : l = [] := List.eq_nil_of_length_eq_zero (by have := hg.le; omega)
    subst hl0
    subst hn
    have HO : Hid (OwnR encE 22 40 w w (.slice none 0 0) []) := Lib.hid (OwnR.nil (Below.refl _ _))
    clear hg
    have hnil := Lib.run_eql_slice_nil (P := Try.prog) w 23 40 none 0 0 0 0 Try.underlying23
    go_enter Try.func26, Try.ntmps26
    go_wp2_with fail
    go_ret
    exact ⟨_, rfl, HO.out⟩
  | some x =>
    have HG := Lib.hid (And.intro hg hn)
    have HM := Lib.hid (OwnR.made 22 encE w 40)
    clear hg hn
    have hnil := Lib.run_eql_slice_nil (P := Try.prog) w 23 40 (some x) n cap 0 0 Try.underlying23
    go_enter Try.func26, Try.ntmps26
    go_wp2_with (refine wpList_append_empty_r tyE rfl (.tmp 5) (.tmp 6) rfl w.heap.size rfl HM.out (some x) n cap l rfl HG.out.2 (HG.out.1.below HM.out.frame) (by have := HG.out.2; omega) (fun v5 w5 hv5 hw5 => ?_); have HV := Lib.hid hv5; clear hv5 hw5)
    go_ret
    exact ⟨_, rfl, HV.out⟩

def SortedOut (w0 : World) (l : List Ent) (e : Ending) (w' : World) : Prop := ∃ v Y, e = .returned v ∧ SortedB lessE Y ∧ StEq lessE l Y ∧ OwnR encE 22 40 w0 w' v Y

set_option maxRecDepth 100000 in
set_option maxHeartbeats 2000000 in
theorem stableFunc_any {w0 w : World} {v : Value} {l : List Ent} (hlen : l.length ≤ 900) (hnm : NamesL l) (h : OwnR encE 22 40 w0 w v l) :
    Calls Try.prog 27 #[v, cmpV] w fun e w' => e = .returned (.tuple #[]) ∧ SortedOut w0 l (.returned v) w' := by
  rcases h.own.2 with ⟨rfl, h0⟩ | ⟨g, cap, cur, rfl, -⟩
  · have hl0 := List.eq_nil_of_length_eq_zero h0
    subst hl0
    have HO : Hid (SortedOut w0 [] (.returned (.slice none 0 0)) w) := Lib.hid ⟨_, [], rfl, List.Pairwise.nil, StEq.refl _, h⟩
    clear h hlen hnm h0
    go_enter Try.func27, Try.ntmps27
    go_wp2_with (refine Calls.mono (stable_nil _) ?_; rintro e5 w5 ⟨rfl, rfl⟩)
    refine bodyPost_end (results_none rfl _ _ _) rfl ?_
    exact ⟨rfl, HO.out⟩
  · obtain ⟨N, hN⟩ : ∃ N, N = l.length := ⟨_, rfl⟩
    rw [← hN] at h ⊢
    have CI := stable_any hN (by omega) hnm h
    clear h hlen hnm hN
    go_enter Try.func27, Try.ntmps27
    go_wp2_with (refine Calls.mono CI ?_; rintro e5 w5 ⟨rfl, hw5⟩; have HW5 := Lib.hid hw5; clear hw5 CI)
    refine bodyPost_end (results_none rfl _ _ _) rfl ?_
    obtain ⟨Y, h1, h2, h3⟩ := HW5.out
    rw [List.nil_append, List.append_nil] at h3
    exact ⟨rfl, _, Y, rfl, h1, h2, h3⟩

set_option maxRecDepth 100000 in
set_option maxHeartbeats 2000000 in
theorem sort_any {w : World} {a : Option Addr} {n cap : Nat} {l : List Ent} (hg : RsAt encE 22 w a cap l) (hn : n = l.length) (hlen : n ≤ 900) (hnm : NamesL l) :
    Calls Try.prog 15 #[.slice a n cap] w (SortedOut w l) := by
  have CC := clone_any hg hn hlen
  have HC := Lib.hid (And.intro (show l.length ≤ 900 by omega) hnm)
  clear hg hn hlen hnm
  go_enter Try.func15, Try.ntmps15
  go_wp2_with fail
  ((with_reducible refine Calls.mono CC ?_))
  rintro e5 w5 ⟨v, rfl, hv⟩
  have CI := stableFunc_any HC.out.1 HC.out.2 hv
  clear hv CC
  go_wp2_with (refine Calls.mono CI ?_; rintro e6 w6 ⟨rfl, hw6⟩; have HW6 := Lib.hid hw6; clear hw6 CI)
  go_ret
  exact HW6.out
end Go.Proofs.Ytbllpjphlanchaa
