/-
  Marks as text: the plain law.
-/
import Derived.Test.YtnlkanhakmkejaaStrCut
namespace Go.Proofs.Ytnlkanhakmkejaa
open Go.RowKit Go.Mix Go.WideMaps Go.Proofs

theorem lineL_inj {p q : Pr} (h : lineL p = lineL q) : p = q := by
  have l1 := hexL_len p.1.1
  have l2 := hexL_len q.1.1
  rw [p.1.2] at l1
  rw [q.1.2] at l2
  unfold lineL at h
  simp only [List.append_assoc] at h
  obtain ⟨h1, h2⟩ := List.append_inj h (by omega)
  obtain ⟨_, h3⟩ := List.append_inj h2 rfl
  have m1 := hexL_len p.2.1
  have m2 := hexL_len q.2.1
  rw [p.2.2] at m1
  rw [q.2.2] at m2
  obtain ⟨h4, _⟩ := List.append_inj h3 (by omega)
  exact Prod.ext (Subtype.ext (hexL_inj _ _ h1)) (Subtype.ext (hexL_inj _ _ h4))
theorem textL_cons (p : Pr) (l : List Pr) : textL (p :: l) = lineL p ++ textL l := by simp [textL]
theorem textL_app (a b : List Pr) : textL (a ++ b) = textL a ++ textL b := by simp [textL]
theorem textL_rest : ∀ {a l : List Pr} {s : List UInt8}, textL l = textL a ++ s → s = textL (l.drop a.length)
  | [], l, s, h => by simpa [textL] using h.symm
  | p :: a, [], s, h => by
    have := congrArg List.length h
    rw [textL_cons, List.length_append, List.length_append, lineL_len] at this
    simp [textL] at this
    omega
  | p :: a, q :: l, s, h => by
    rw [textL_cons, textL_cons, List.append_assoc] at h
    obtain ⟨h1, h2⟩ := List.append_inj h (by rw [lineL_len, lineL_len])
    have := textL_rest h2
    simpa using this
theorem textL_inj {a b : List Pr} (h : textL a = textL b) : a = b := by
  have h2 := textL_rest (s := []) (a := b) (l := a) (by simpa using h)
  have hl := congrArg List.length h
  rw [textL_len, textL_len] at hl
  clear h2
  induction a generalizing b with
  | nil => cases b with
    | nil => rfl
    | cons q b => simp at hl
  | cons p a ih => cases b with
    | nil => simp at hl
    | cons q b =>
      rw [textL_cons, textL_cons] at h
      obtain ⟨h1, h3⟩ := List.append_inj h (by rw [lineL_len, lineL_len])
      rw [lineL_inj h1, ih h3 (by simp at hl; omega)]

/-- What a text's marks are, and the error's number. -/
noncomputable def parseO (s : List UInt8) : List Pr × Int := open Classical in if h : ∃ l, s = textL l then (if Rt h.choose then (h.choose, 0) else ([], 9)) else ([], 4)
theorem parseO_text {s : List UInt8} {l : List Pr} (h : s = textL l) : (Rt l → parseO s = (l, 0)) ∧ (¬ Rt l → parseO s = ([], 9)) := by
  have hx : ∃ l, s = textL l := ⟨l, h⟩
  have e : hx.choose = l := textL_inj (hx.choose_spec.symm.trans h)
  unfold parseO
  rw [dif_pos hx, e]
  exact ⟨fun h => if_pos h, fun h => if_neg h⟩
theorem parseO_none {s : List UInt8} (h : ∀ l, s ≠ textL l) : parseO s = ([], 4) := by
  unfold parseO
  rw [dif_neg fun ⟨l, hl⟩ => h l hl]
/-- A rest that begins with no line. -/
theorem parseO_bad {s s' : List UInt8} {acc : List Pr} (h : s = textL acc ++ s') (h0 : s' ≠ []) (hno : ∀ p r, s' ≠ lineL p ++ r) : parseO s = ([], 4) := by
  refine parseO_none fun l hl => ?_
  have := textL_rest (hl.symm.trans h)
  cases hd : l.drop acc.length with
  | nil => rw [hd] at this; exact h0 this
  | cons p r => rw [hd, textL_cons] at this; exact hno _ _ this

theorem idx_app {c : UInt8} : ∀ {a : List UInt8} {b : List UInt8}, c ∉ a → Lib.indexByte (a ++ c :: b) c = (a.length : Int)
  | [], b, _ => by simp [Lib.indexByte]
  | x :: a, b, h => by
    have hx : (x == c) = false := by rw [beq_eq_false_iff_ne]; exact fun e => h (by simp [e])
    have ih := idx_app (c := c) (a := a) (b := b) (fun e => h (List.mem_cons_of_mem _ e))
    simp only [List.cons_append, Lib.indexByte, hx, ih]
    have : (((a.length : Int)) == -1) = false := by rw [beq_eq_false_iff_ne]; omega
    rw [this]
    simp
theorem idx_none {c : UInt8} : ∀ {l : List UInt8}, c ∉ l → Lib.indexByte l c = -1
  | [], _ => rfl
  | x :: l, h => by
    have hx : (x == c) = false := by rw [beq_eq_false_iff_ne]; exact fun e => h (by simp [e])
    simp [Lib.indexByte, hx, idx_none (c := c) (l := l) (fun e => h (List.mem_cons_of_mem _ e))]
/-- The three parts that Cut hands back. -/
def cutB (l : List UInt8) (c : UInt8) : List UInt8 × List UInt8 × Bool := if Lib.indexByte l c < 0 then (l, [], false) else (l.take (Lib.indexByte l c).toNat, l.drop ((Lib.indexByte l c).toNat + 1), true)
theorem cutV_eq (l : List UInt8) (c : UInt8) : cutV l c = .tuple #[.string (strOf (cutB l c).1), .string (strOf (cutB l c).2.1), .bool (cutB l c).2.2] := by
  unfold cutV cutB; split <;> rfl
theorem cutB_app {c : UInt8} {a b : List UInt8} (h : c ∉ a) : cutB (a ++ c :: b) c = (a, b, true) := by
  unfold cutB
  rw [idx_app h, if_neg (by omega), Int.toNat_natCast]
  simp
theorem cutB_true {l : List UInt8} {c : UInt8} (h : (cutB l c).2.2 = true) : l = (cutB l c).1 ++ c :: (cutB l c).2.1 := by
  unfold cutB at *
  split
  · rename_i hn; rw [if_pos hn] at h; cases h
  · rename_i hn
    have hge := Lib.indexByte_ge l c
    obtain ⟨i, hi⟩ := Int.eq_ofNat_of_zero_le (show 0 ≤ Lib.indexByte l c by omega)
    have hs := (Lib.indexByte_some hi).1
    obtain ⟨hil, hc⟩ := List.getElem?_eq_some_iff.1 hs
    rw [hi, Int.toNat_natCast]
    conv => lhs; rw [← List.take_append_drop i l, List.drop_eq_getElem_cons hil, hc]
theorem cutB_len (l : List UInt8) (c : UInt8) : (cutB l c).1.length ≤ l.length ∧ (cutB l c).2.1.length ≤ l.length := by
  unfold cutB; split
  · simp
  · simp; omega

theorem not_hex {c : UInt8} (h : ∀ d : Fin 16, hexd d.val ≠ c) (l : List UInt8) : c ∉ hexL l := fun hm => by
  obtain ⟨d, hd, e⟩ := mem_hexL hm
  exact h ⟨d, hd⟩ e.symm
theorem no10 : ∀ d : Fin 16, hexd d.val ≠ 10 := by decide
theorem no32 : ∀ d : Fin 16, hexd d.val ≠ 32 := by decide

/-- The program's look at the first line: right exactly where the text begins with one. -/
theorem prog_line (s : List UInt8) :
    (∃ p r, s = lineL p ++ r ∧ (cutB s 10).2.2 = true ∧ (cutB (cutB s 10).1 32).2.2 = true ∧ unhex (cutB (cutB s 10).1 32).1 = some p.1 ∧ unhex (cutB (cutB s 10).1 32).2.1 = some p.2 ∧ (cutB s 10).2.1 = r) ∨
      ((∀ p r, s ≠ lineL p ++ r) ∧ ((cutB s 10).2.2 = false ∨ (cutB (cutB s 10).1 32).2.2 = false ∨ unhex (cutB (cutB s 10).1 32).1 = none ∨ unhex (cutB (cutB s 10).1 32).2.1 = none)) := by
  by_cases hx : ∃ p r, s = lineL p ++ r
  · obtain ⟨p, r, rfl⟩ := hx
    have e : lineL p ++ r = (hexL p.1.1 ++ 32 :: hexL p.2.1) ++ 10 :: r := by simp [lineL]
    have c1 : cutB (lineL p ++ r) 10 = (hexL p.1.1 ++ 32 :: hexL p.2.1, r, true) := by
      rw [e]
      refine cutB_app fun h => ?_
      rcases List.mem_append.1 h with h | h
      · exact not_hex no10 _ h
      · rcases List.mem_cons.1 h with h | h
        · cases h
        · exact not_hex no10 _ h
    have c2 : cutB (hexL p.1.1 ++ 32 :: hexL p.2.1) 32 = (hexL p.1.1, hexL p.2.1, true) := cutB_app (not_hex no32 _)
    refine .inl ⟨p, r, rfl, ?_, ?_, ?_, ?_, ?_⟩ <;> rw [c1]
    · show (cutB (hexL p.1.1 ++ 32 :: hexL p.2.1) 32).2.2 = true
      rw [c2]
    · show unhex (cutB (hexL p.1.1 ++ 32 :: hexL p.2.1) 32).1 = some p.1
      rw [c2]; exact unhex_some rfl
    · show unhex (cutB (hexL p.1.1 ++ 32 :: hexL p.2.1) 32).2.1 = some p.2
      rw [c2]; exact unhex_some rfl
  · refine .inr ⟨fun p r h => hx ⟨p, r, h⟩, ?_⟩
    cases h1 : (cutB s 10).2.2 with
    | false => exact .inl rfl
    | true =>
      cases h2 : (cutB (cutB s 10).1 32).2.2 with
      | false => exact .inr (.inl rfl)
      | true =>
        rcases unhex_cases (cutB (cutB s 10).1 32).1 with ⟨x, hx1, _⟩ | ⟨_, hn⟩
        · rcases unhex_cases (cutB (cutB s 10).1 32).2.1 with ⟨y, hy1, _⟩ | ⟨_, hn⟩
          · refine absurd ⟨(x, y), (cutB s 10).2.1, ?_⟩ hx
            have e1 := cutB_true h1
            have e2 := cutB_true h2
            rw [hx1, hy1] at e2
            have e4 : s = (hexL x.1 ++ 32 :: hexL y.1) ++ 10 :: (cutB s 10).2.1 := by rw [← e2]; exact e1
            refine e4.trans ?_
            generalize (cutB s 10).2.1 = t
            simp [lineL]
          · exact .inr (.inr (.inr hn))
        · exact .inr (.inr (.inl hn))

/-- The document's look at the first line. -/
theorem ref_line (s : List UInt8) :
    (∃ p r, s = lineL p ++ r ∧ 82 ≤ s.length ∧ s[40]? = some 32 ∧ s[81]? = some 10 ∧ unhex (s.take 40) = some p.1 ∧ unhex ((s.drop 41).take 40) = some p.2 ∧ s.drop 82 = r) ∨
      ((∀ p r, s ≠ lineL p ++ r) ∧ (s.length < 82 ∨ s[40]? ≠ some 32 ∨ s[81]? ≠ some 10 ∨ unhex (s.take 40) = none ∨ unhex ((s.drop 41).take 40) = none)) := by
  by_cases hx : ∃ p r, s = lineL p ++ r
  · obtain ⟨p, r, rfl⟩ := hx
    have l1 := hexL_len p.1.1
    have l2 := hexL_len p.2.1
    rw [p.1.2] at l1
    rw [p.2.2] at l2
    refine .inl ⟨p, r, rfl, by rw [List.length_append, lineL_len]; omega, ?_, ?_, ?_, ?_, ?_⟩
    · unfold lineL
      simp only [List.append_assoc]
      rw [List.getElem?_append_right (by omega), l1]; rfl
    · unfold lineL
      simp only [List.append_assoc]
      rw [List.getElem?_append_right (by omega), l1, List.getElem?_append_right (by simp), List.getElem?_append_right (by rw [l2]; decide), l2]; rfl
    · refine unhex_some ?_
      unfold lineL
      simp only [List.append_assoc]
      rw [List.take_append_of_le_length (by omega), List.take_of_length_le (by omega)]
    · refine unhex_some ?_
      have e : lineL p ++ r = (hexL p.1.1 ++ [32]) ++ (hexL p.2.1 ++ ([10] ++ r)) := by simp [lineL]
      rw [e, show (41 : Nat) = (hexL p.1.1 ++ [32]).length by rw [List.length_append, l1]; rfl, List.drop_left, List.take_append_of_le_length (by omega), List.take_of_length_le (by omega)]
    · rw [← lineL_len p, List.drop_left]
  · refine .inr ⟨fun p r h => hx ⟨p, r, h⟩, ?_⟩
    by_cases c0 : s.length < 82
    · exact .inl c0
    by_cases c1 : s[40]? = some 32
    · by_cases c2 : s[81]? = some 10
      · rcases unhex_cases (s.take 40) with ⟨x, hx1, _⟩ | ⟨_, hn⟩
        · rcases unhex_cases ((s.drop 41).take 40) with ⟨y, hy1, _⟩ | ⟨_, hn⟩
          · refine absurd ⟨(x, y), s.drop 82, ?_⟩ hx
            obtain ⟨h40, e40⟩ := List.getElem?_eq_some_iff.1 c1
            obtain ⟨h81, e81⟩ := List.getElem?_eq_some_iff.1 c2
            unfold lineL
            rw [← hx1, ← hy1]
            have d40 := List.drop_eq_getElem_cons h40
            have d81 := List.drop_eq_getElem_cons h81
            rw [e40] at d40
            rw [e81] at d81
            have t2 := List.take_append_drop 40 (s.drop 41)
            rw [List.drop_drop, d81] at t2
            conv => lhs; rw [← List.take_append_drop 40 s, d40, ← t2]
            simp
          · exact .inr (.inr (.inr (.inr hn)))
        · exact .inr (.inr (.inr (.inl hn)))
      · exact .inr (.inr (.inl c2))
    · exact .inr (.inl c1)
end Go.Proofs.Ytnlkanhakmkejaa
