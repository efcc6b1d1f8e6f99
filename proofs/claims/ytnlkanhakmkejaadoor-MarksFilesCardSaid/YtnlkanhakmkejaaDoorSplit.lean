/-
  strings.Split at one byte: plain, and its contract.
-/
import Derived.Test.YtnlkanhakmkejaaDoorTexts
import Derived.Test.YtnlkanhakmkejaaDoorShelfT
import Derived.Lib.IndexBytes
import Derived.Lib.IndexLaws
import Derived.Lib.SplitLaws
import Derived.Lib.Split
namespace Go.Proofs.YtnlkanhakmkejaaDoor
open Go.RowKit Go.Mix

/-- A text's parts between a byte. -/
def splitC (c : UInt8) : List UInt8 → List (List UInt8)
  | [] => [[]]
  | x :: l => if x = c then [] :: splitC c l else match splitC c l with
    | p :: ps => (x :: p) :: ps
    | [] => [[x]]
theorem splitC_ne (c : UInt8) : ∀ l, splitC c l ≠ []
  | [] => by simp [splitC]
  | x :: l => by
    unfold splitC
    split
    · simp
    · split <;> simp
theorem splitC_none {c : UInt8} : ∀ {l : List UInt8}, c ∉ l → splitC c l = [l]
  | [], _ => rfl
  | x :: l, h => by
    have h1 : x ≠ c := fun e => h (by simp [e])
    unfold splitC
    rw [if_neg h1, splitC_none (l := l) (fun hm => h (by simp [hm]))]
theorem splitC_hit {c : UInt8} : ∀ {a b : List UInt8}, c ∉ a → splitC c (a ++ c :: b) = a :: splitC c b
  | [], b, _ => by rw [List.nil_append, splitC, if_pos rfl]
  | x :: a, b, h => by
    have h1 : x ≠ c := fun e => h (by simp [e])
    rw [List.cons_append, splitC, if_neg h1, splitC_hit (a := a) (fun hm => h (by simp [hm]))]
/-- One byte more at the end. -/
theorem splitC_snoc (c : UInt8) : ∀ (l : List UInt8) (x : UInt8), splitC c (l ++ [x]) = if x = c then splitC c l ++ [[]] else (splitC c l).dropLast ++ [(splitC c l).getLastD [] ++ [x]]
  | [], x => by
    by_cases h : x = c
    · simp [splitC, h]
    · simp [splitC, h]
  | y :: l, x => by
    have ih := splitC_snoc c l x
    rw [List.cons_append]
    obtain ⟨p, ps, hp⟩ := List.exists_cons_of_ne_nil (splitC_ne c l)
    rw [hp] at ih
    by_cases hy : y = c
    · have e : ∀ m, splitC c (y :: m) = [] :: splitC c m := fun m => by rw [splitC, if_pos hy]
      rw [e, e, ih, hp]
      by_cases h : x = c
      · rw [if_pos h, if_pos h]; rfl
      · rw [if_neg h, if_neg h]; rfl
    · have e : splitC c (y :: l) = (y :: p) :: ps := by rw [splitC, if_neg hy, hp]
      rw [e]
      by_cases h : x = c
      · rw [if_pos h] at ih ⊢
        rw [splitC, if_neg hy, ih]; rfl
      · rw [if_neg h] at ih ⊢
        rw [splitC, if_neg hy, ih]
        cases ps with
        | nil => rfl
        | cons q qs => rfl
theorem splitC_len (c : UInt8) (l : List UInt8) : (splitC c l).length ≤ l.length + 1 := by
  induction l with
  | nil => simp [splitC]
  | cons x l ih =>
    unfold splitC
    split
    · simp; omega
    · split
      · rename_i p ps h; rw [h] at ih; simp at ih ⊢; omega
      · simp
theorem splitC_part (c : UInt8) : ∀ (l : List UInt8), ∀ p ∈ splitC c l, p.length ≤ l.length
  | [] => by simp [splitC]
  | x :: l => by
    have ih := splitC_part c l
    unfold splitC
    split
    · intro p hp
      rcases List.mem_cons.1 hp with rfl | hp
      · simp
      · have := ih p hp; simp; omega
    · split
      · rename_i q qs h
        rw [h] at ih
        intro p hp
        rcases List.mem_cons.1 hp with rfl | hp
        · have := ih q (by simp); simp; omega
        · have := ih p (by simp [hp]); simp; omega
      · intro p hp
        simp at hp
        subst hp
        simp
theorem splitK_eq (c : UInt8) : ∀ (n : Nat) (l : List UInt8), l.count c = n → Lib.splitK [c] 0 n l = splitC c l
  | 0, l, h => by rw [splitC_none (List.count_eq_zero.1 h)]; rfl
  | n + 1, l, h => by
    unfold Lib.splitK
    rw [Lib.index_one]
    rcases (show Lib.indexByte l c = -1 ∨ ∃ i : Nat, Lib.indexByte l c = i by
      have := Lib.indexByte_ge l c
      rcases Int.lt_or_le (Lib.indexByte l c) 0 with h1 | h1
      · exact .inl (by omega)
      · exact .inr ⟨_, (Int.toNat_of_nonneg h1).symm⟩) with hi | ⟨i, hi⟩
    · exfalso
      have h0 : c ∉ l := fun hm => by
        obtain ⟨k, hk, e⟩ := List.getElem_of_mem hm
        exact Lib.indexByte_none hi k (by rw [List.getElem?_eq_getElem hk, e])
      rw [List.count_eq_zero.2 h0] at h
      cases h
    · obtain ⟨h1, h2⟩ := Lib.indexByte_some hi
      obtain ⟨hil, he⟩ := List.getElem?_eq_some_iff.1 h1
      have hno : c ∉ l.take i := fun hm => by
        obtain ⟨k, hk, e⟩ := List.getElem_of_mem hm
        rw [List.length_take] at hk
        rw [List.getElem_take] at e
        exact h2 k (by omega) (by rw [List.getElem?_eq_getElem (by omega), e])
      have hl : l = l.take i ++ c :: l.drop (i + 1) := by
        conv => lhs; rw [← List.take_append_drop i l, List.drop_eq_getElem_cons hil, he]
      have hc : (l.drop (i + 1)).count c = n := by
        rw [hl, List.count_append, List.count_cons_self, List.count_eq_zero.2 hno] at h
        omega
      rw [if_neg (by rw [hi]; simp <;> omega), hi]
      have e1 : ((i : Int).toNat + [c].length) = i + 1 := by simp
      have e2 : ((i : Int).toNat + 0) = i := by simp
      rw [e1, e2, splitK_eq c n _ hc]
      conv => rhs; rw [hl, splitC_hit hno]

/-- The parts' cells. -/
theorem splitB_cells (l : List UInt8) (c : UInt8) : (Lib.splitB ⟨#[c]⟩ 0 (Lib.countB (strOf l) ⟨#[c]⟩) (strOf l)).map Value.string = (splitC c l).map strV ∧ Lib.countB (strOf l) ⟨#[c]⟩ + 1 = (splitC c l).length := by
  have hc : Lib.countB (strOf l) ⟨#[c]⟩ = l.count c := Lib.count_one c l
  have h1 := Lib.splitB_data ⟨#[c]⟩ 0 (Lib.countB (strOf l) ⟨#[c]⟩) (strOf l)
  have h2 : Lib.splitK [c] 0 (Lib.countB (strOf l) ⟨#[c]⟩) l = splitC c l := splitK_eq c _ l hc.symm
  have h3 : (Lib.splitB ⟨#[c]⟩ 0 (Lib.countB (strOf l) ⟨#[c]⟩) (strOf l)).map (·.data.toList) = splitC c l := h1.trans h2
  have h4 : ∀ L : List ByteArray, L.map Value.string = (L.map (·.data.toList)).map strV := fun L => by
    rw [List.map_map]
    refine List.map_congr_left fun b _ => ?_
    show Value.string b = Value.string (strOf b.data.toList)
    rfl
  refine ⟨by rw [h4, h3], ?_⟩
  have := Lib.splitB_all ⟨#[c]⟩ (Nat.le_refl 1) 0 _ (strOf l) rfl
  rw [← h3, List.length_map]
  exact this.symm

set_option maxRecDepth 100000 in
set_option maxHeartbeats 2000000 in
/-- strings.Split: the parts, in a new block. -/
theorem split_any (l : List UInt8) (c : UInt8) (hl : l.length ≤ 1000000000) (w : World) : Calls Tryd.prog 59 #[.string (strOf l), .string ⟨#[c]⟩] w fun e w' =>
    e = .returned (.slice (some ⟨w.heap.size, 0, none⟩) (splitC c l).length (splitC c l).length) ∧ w' = w.alloc (.cells ((splitC c l).map strV).toArray 9) := by
  obtain ⟨e1, e2⟩ := splitB_cells l c
  have hs : (strOf l).size = l.length := strOf_size l
  have hlen := Lib.splitB_all ⟨#[c]⟩ (Nat.le_refl 1) 0 _ (strOf l) rfl
  have hle := Lib.countB_le ⟨#[c]⟩ (Nat.le_refl 1) (strOf l).size (strOf l) (Nat.le_refl _)
  have ec : Lib.cellsOf (Lib.splitB ⟨#[c]⟩ 0 (Lib.countB (strOf l) ⟨#[c]⟩) (strOf l)) (Lib.countB (strOf l) ⟨#[c]⟩ + 1) = ((Lib.splitB ⟨#[c]⟩ 0 (Lib.countB (strOf l) ⟨#[c]⟩) (strOf l)).map Value.string).toArray := by rw [← hlen]; exact Lib.cellsOf_full _
  have C := Any.strings_genSplit_core Tryd.lays221 (by kernel_rfl) (strOf l) ⟨#[c]⟩ 0 (-1) (Lib.countB (strOf l) ⟨#[c]⟩ + 1) w (by omega) (Nat.le_refl 1) (Nat.zero_le _)
    (fun x cs _ => (Tryd.strings_Index_one x c _).mono fun e w' ⟨h1, h2⟩ => ⟨by rw [h1, ← Lib.index_one], h2⟩)
    ((Tryd.strings_Count_one (strOf l) c w).mono fun e w' ⟨h1, h2⟩ => ⟨by
      rw [h1, show Lib.countB (strOf l) ⟨#[c]⟩ = l.count c from Lib.count_one c l]
      rfl, h2⟩) (by decide) (by decide) (by rw [if_pos (by decide)]; omega)
  rw [Nat.add_sub_cancel, hlen, ec, e1, e2] at C
  change Calls Tryd.prog 70 _ _ _ at C
  generalize (splitC c l).length = n at *
  generalize ((splitC c l).map strV).toArray = cs at *
  generalize strOf l = S at *
  clear e1 e2 hs hlen hle ec hl
  go_enter Tryd.func59, Tryd.ntmps59
  go_wp2_with (refine Calls.mono C ?_; rintro e5 w5 ⟨rfl, hw5⟩; rw [hw5])
  go_ret
  exact ⟨rfl, rfl⟩
end Go.Proofs.YtnlkanhakmkejaaDoor
