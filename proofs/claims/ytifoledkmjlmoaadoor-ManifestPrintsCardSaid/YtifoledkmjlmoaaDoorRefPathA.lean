/-
  The document's parts of a path: the walk.
-/
import Derived.Test.YtifoledkmjlmoaaDoorPathR
import Derived.Test.YtifoledkmjlmoaaDoorCat
namespace Go.Proofs.YtifoledkmjlmoaaDoor
open Go.RowKit Go.Mix Go.WideMaps

set_option maxRecDepth 100000 in
set_option maxHeartbeats 4000000 in
theorem parts_any (s : List UInt8) (hl : s.length ≤ 100000) (w : World) : Calls Tryd.prog 41 #[.string (strOf s)] w fun e w' => ∃ v, e = .returned v ∧ OwnR encS 1 9 w w' v (splitC 47 s) := by
  obtain ⟨n, hn⟩ : ∃ n, n = s.length := ⟨_, rfl⟩
  have hsz : (strOf s).size = n := by rw [strOf_size, hn]
  obtain ⟨S, hS⟩ : ∃ S, S = strOf s := ⟨_, rfl⟩
  have HS := Lib.hid (And.intro hn hS)
  rw [← hS] at hsz ⊢
  have hn6 : n ≤ 100000 := by omega
  have H0 : Hid (OwnR encS 1 9 w w (.slice none 0 0) (splitC 47 []).dropLast) := Lib.hid (OwnR.nil (Below.refl _ _))
  have HE : Hid (strOf ((splitC 47 []).getLastD []) = ⟨#[]⟩) := Lib.hid rfl
  clear hl hn hS
  go_enter Tryd.func41, Tryd.ntmps41
  go_wp2_with fail
  go_loopw [3, 4, 5] (fun s3 s4 s5 wr => ∃ i : Nat, s5 = .int .i64 (i : Int) ∧ i ≤ n ∧ s4 = .string (strOf ((splitC 47 (s.take i)).getLastD [])) ∧ OwnR encS 1 9 w wr s3 (splitC 47 (s.take i)).dropLast) (fun _ _ s5 _ => n - (intOf s5).toNat)
  case atStart => exact ⟨0, rfl, Nat.zero_le _, by rw [List.take_zero, HE.out], by rw [List.take_zero]; exact H0.out⟩
  case round =>
    clear H0 HE
    obtain ⟨i, rfl, hi, rfl, hrow⟩ := hrel
    obtain ⟨L, hL⟩ : ∃ L, L = splitC 47 (s.take i) := ⟨_, rfl⟩
    have hne : L ≠ [] := by rw [hL]; exact splitC_ne _ _
    have hLl : L.length ≤ i + 1 := by have := splitC_len 47 (s.take i); rw [List.length_take] at this; rw [hL]; omega
    have hpl : (L.getLastD []).length ≤ i := by
      obtain ⟨p, ps, e⟩ := List.exists_cons_of_ne_nil hne
      have hm : L.getLastD [] ∈ L := by rw [e, List.getLastD_cons]; exact List.getLastD_mem_cons
      rw [hL] at hm ⊢
      have := splitC_part 47 (s.take i) _ hm
      rw [List.length_take] at this
      omega
    obtain ⟨one, hone⟩ : ∃ o, o = L.getLastD [] := ⟨_, rfl⟩
    have hfull : L = L.dropLast ++ [one] := by
      obtain ⟨p, ps, e⟩ := List.exists_cons_of_ne_nil hne
      rw [hone, e, List.getLastD_cons]
      conv => lhs; rw [← List.dropLast_concat_getLast (l := p :: ps) (by simp)]
      rw [List.getLast_eq_getLastD]
    rw [← hL] at hrow ⊢
    rw [← hone] at hpl ⊢
    have HLO := Lib.hid (And.intro hL (And.intro hfull (And.intro hone hne)))
    have hdl : L.dropLast.length ≤ i := by rw [List.length_dropLast]; omega
    have HDL := Lib.hid hdl
    clear hL hfull hone hne hLl hdl
    by_cases hin : i < n
    · have t1 : decide ((i : Int) < (n : Int)) = true := decide_eq_true (by omega)
      have t1' : decide (i < n) = true := decide_eq_true hin
      have hil : i < s.length := by rw [← HS.out.1]; exact hin
      have hsn := splitC_snoc 47 (s.take i) s[i]
      rw [← List.take_succ_eq_append_getElem hil, ← HLO.out.1] at hsn
      have IX := fun W : World => str_at Tryd.underlying9 s (i := i) (i : Int) rfl (c := s[i]) (List.getElem?_eq_getElem hil) W
      have EX := ext_one s hil
      rw [← HS.out.2] at IX EX
      obtain ⟨x, hx⟩ : ∃ x, x = s[i] := ⟨_, rfl⟩
      rw [← hx] at IX EX hsn
      have HSN := Lib.hid hsn
      clear hx hsn hil
      by_cases h47 : x = 47
      · have t2 : ((x.toNat : Int) == 47) = true := by rw [h47]; rfl
        have hsn := HSN.out
        rw [if_pos h47] at hsn
        have hd : (splitC 47 (s.take (i + 1))).dropLast = L.dropLast ++ [one] := by rw [hsn, List.dropLast_concat]; exact HLO.out.2.1
        have hg : (splitC 47 (s.take (i + 1))).getLastD [] = [] := by rw [hsn]; simp
        have HD := Lib.hid (And.intro hd hg)
        have HE : Hid (strOf [] = ⟨#[]⟩) := Lib.hid rfl
        have S1 := tyS.slice1 one wr
        have HP9 := Lib.hid (RsAt.one (enc := encS) (L := 1) wr 9 one)
        have HR9 := Lib.hid (hrow.later ((Below.refl _ _).alloc (Nat.le_refl _) (.cells (recA encS one) 9)))
        clear hrow hd hg hsn EX h47 HSN
        go_wp2_with (first | (refine wpList_index_at rfl _ _ _ rfl _ _ _ rfl rfl IX ?_) | (refine wpList_buildSlice_at rfl _ _ _ rfl [(0, strV one)] _ rfl S1 ?_) | (refine wpList_append_1 tyS rfl (.tmp 16) (.tmp 18) rfl _ L.dropLast rfl HR9.out (some ⟨wr.heap.size, 0, none⟩) 1 1 [one] rfl rfl HP9.out (by have := HDL.out; have h2 : [one].length = 1 := rfl; omega) ?_; intro v8 w8 hb8 hg8 hn8; have H8 := Lib.hid hb8; clear hb8 hg8 hn8 S1))
        go_roundw
        case rel => exact ⟨i + 1, by go_num, by omega, by rw [HD.out.2, HE.out], by rw [HD.out.1]; exact H8.out⟩
        case measure => simp [intOf]; omega
      · have t2 : ((x.toNat : Int) == 47) = false := by
          rw [beq_eq_false_iff_ne]
          intro h
          exact h47 (UInt8.toNat_inj.1 (by show x.toNat = 47; omega))
        have hsn := HSN.out
        rw [if_neg h47] at hsn
        have hd : (splitC 47 (s.take (i + 1))).dropLast = L.dropLast := by rw [hsn, List.dropLast_concat]
        have hg : (splitC 47 (s.take (i + 1))).getLastD [] = one ++ [x] := by rw [hsn, HLO.out.2.2.1]; simp
        have HD := Lib.hid (And.intro hd hg)
        have HROW := Lib.hid hrow
        have SA := fun W => str_add one [x] (by omega) (by simp) W
        obtain ⟨X1, hX1⟩ : ∃ X, X = strOf [x] := ⟨_, rfl⟩
        obtain ⟨O1, hO1⟩ : ∃ X, X = strOf one := ⟨_, rfl⟩
        obtain ⟨O2, hO2⟩ : ∃ X, X = strOf (one ++ [x]) := ⟨_, rfl⟩
        rw [← hX1] at SA EX
        rw [← hO1, ← hO2] at SA
        rw [← hO1]
        have HO2 := Lib.hid hO2
        clear hrow hd hg hsn h47 HSN hX1 hO1 hO2
        go_wp2_with (first | (refine wpList_index_at rfl _ _ _ rfl _ _ _ rfl rfl IX ?_))
        go_roundw
        case rel => exact ⟨i + 1, by go_num, by omega, by rw [HD.out.2, HO2.out], by rw [HD.out.1]; exact HROW.out⟩
        case measure => simp [intOf]; omega
    · obtain rfl : i = n := by omega
      have t1 : decide ((i : Int) < (i : Int)) = false := decide_eq_false (by omega)
      have t1' : decide (i < i) = false := decide_eq_false (by omega)
      have S1 := tyS.slice1 one wr
      have HP9 := Lib.hid (RsAt.one (enc := encS) (L := 1) wr 9 one)
      have HR9 := Lib.hid (hrow.later ((Below.refl _ _).alloc (Nat.le_refl _) (.cells (recA encS one) 9)))
      clear hrow
      go_wp2_with (first | (refine wpList_buildSlice_at rfl _ _ _ rfl [(0, strV one)] _ rfl S1 ?_) | (refine wpList_append_1 tyS rfl (.tmp 27) (.tmp 29) rfl _ L.dropLast rfl HR9.out (some ⟨wr.heap.size, 0, none⟩) 1 1 [one] rfl rfl HP9.out (by have := HDL.out; have h2 : [one].length = 1 := rfl; omega) ?_; intro v8 w8 hb8 hg8 hn8; have H8 := Lib.hid hb8; clear hb8 hg8 hn8 S1))
      go_ret
      refine ⟨_, rfl, ?_⟩
      have := H8.out
      rw [← HLO.out.2.1, HLO.out.1, List.take_of_length_le (by rw [← HS.out.1]; exact Nat.le_refl _)] at this
      exact this
end Go.Proofs.YtifoledkmjlmoaaDoor
