/-
  strings.ContainsAny at any bytes, sought: a nought and a '/': the walk.
-/
import Derived.Test.YtifoledkmjlmoaaDoorRune
import Derived.Test.YtifoledkmjlmoaaDoorRecs
namespace Go.Proofs.YtifoledkmjlmoaaDoor
open Go.RowKit Go.Mix Go.WideMaps

/-- What a text's rune at i is, where the byte there is no ASCII. -/
theorem decode_high (s : ByteArray) (i : Nat) (hi : i < s.size) (hb : 128 ≤ (s.get! i).toNat) :
    128 ≤ (Utf8.decode s i).1 ∧ 1 ≤ (Utf8.decode s i).2 ∧ i + (Utf8.decode s i).2 ≤ s.size ∧ ∀ k, k < (Utf8.decode s i).2 → 128 ≤ (s.get! (i + k)).toNat := by
  have hb1 : ∀ k, k < 1 → 128 ≤ (s.get! (i + k)).toNat := fun k hk => by
    obtain rfl : k = 0 := by omega
    exact hb
  have err : 128 ≤ (Utf8.runeError, 1).1 ∧ 1 ≤ (Utf8.runeError, 1).2 ∧ i + (Utf8.runeError, 1).2 ≤ s.size ∧ ∀ k, k < (Utf8.runeError, 1).2 → 128 ≤ (s.get! (i + k)).toNat := ⟨by decide, by decide, hi, hb1⟩
  unfold Utf8.decode
  simp only [Nat.add_zero]
  rw [if_neg (by omega)]
  have cont : ∀ k, (decide (i + k < s.size) && (s.get! (i + k)).toNat / 64 == 2) = true → i + k < s.size ∧ 128 ≤ (s.get! (i + k)).toNat := fun k h => by
    rw [Bool.and_eq_true, decide_eq_true_eq, beq_iff_eq] at h
    exact ⟨h.1, by omega⟩
  split
  · rename_i h
    rw [Bool.and_eq_true] at h
    have c1 := cont 1 h.2
    split
    · rename_i h2
      refine ⟨h2, Nat.le_succ _, c1.1, fun k hk => ?_⟩
      rcases (show k = 0 ∨ k = 1 by simp at hk; omega) with rfl | rfl
      · exact hb
      · exact c1.2
    · exact err
  · split
    · rename_i h
      rw [Bool.and_eq_true, Bool.and_eq_true] at h
      have c1 := cont 1 h.1.2
      have c2 := cont 2 h.2
      split
      · rename_i h2
        rw [Bool.and_eq_true, decide_eq_true_eq] at h2
        refine ⟨Nat.le_trans (by decide) h2.1, (show 1 ≤ 3 by decide), c2.1, fun k hk => ?_⟩
        rcases (show k = 0 ∨ k = 1 ∨ k = 2 by simp at hk; omega) with rfl | rfl | rfl
        · exact hb
        · exact c1.2
        · exact c2.2
      · exact err
    · split
      · rename_i h
        rw [Bool.and_eq_true, Bool.and_eq_true, Bool.and_eq_true] at h
        have c1 := cont 1 h.1.1.2
        have c2 := cont 2 h.1.2
        have c3 := cont 3 h.2
        split
        · rename_i h2
          rw [Bool.and_eq_true, decide_eq_true_eq] at h2
          refine ⟨Nat.le_trans (by decide) h2.1, (show 1 ≤ 4 by decide), c3.1, fun k hk => ?_⟩
          rcases (show k = 0 ∨ k = 1 ∨ k = 2 ∨ k = 3 by simp at hk; omega) with rfl | rfl | rfl | rfl
          · exact hb
          · exact c1.2
          · exact c2.2
          · exact c3.2
        · exact err
      · exact err

/-- The world in which the text's reader at k stands at pos. -/
def atPos (W : World) (k : Nat) (s : ByteArray) (pos : Nat) : World := { W with heap := W.heap.setIfInBounds k (.stringIter s pos) }
theorem atPos_at {W : World} {k : Nat} {s : ByteArray} {p q : Nat} (h : W.heap[k]? = some (.stringIter s p)) : (atPos W k s q).heap[k]? = some (.stringIter s q) := by
  have hk : k < W.heap.size := lt_of_block h
  show (W.heap.setIfInBounds k _)[k]? = _
  rw [Array.getElem?_setIfInBounds_self_of_lt hk]
theorem atPos_below {B : Nat} {a W : World} {k : Nat} {s : ByteArray} {q : Nat} (h : Below B a W) (hk : B ≤ k) : Below B a (atPos W k s q) :=
  ⟨h.os, h.tape, h.output, by show _ ≤ (W.heap.setIfInBounds k _).size; rw [Array.size_setIfInBounds]; exact h.size, fun i hi => by
    show (W.heap.setIfInBounds k _)[i]? = _
    rw [Array.getElem?_setIfInBounds_ne (by omega)]
    exact h.block i hi⟩
theorem run_next_rune {P : Program} (W : World) (k : Nat) (s : ByteArray) (pos : Nat) (ty : TypeId) (hk : W.heap[k]? = some (.stringIter s pos)) (h : pos < s.size) :
    (Instr.next (.pointer (some ⟨k, 0, none⟩)) true ty).run P W =
      .ok (.tuple #[.bool true, .int .i64 pos, .int .i32 (Utf8.decode s pos).1]) (atPos W k s (pos + (Utf8.decode s pos).2)) := by
  simp only [Instr.next, getObj, setObj, Sem.run_bind, Sem.run, hk, Result.andThen, h, if_true]
  simp [goInt, atPos]
theorem run_next_last {P : Program} (W : World) (k : Nat) (s : ByteArray) (pos : Nat) (ty : TypeId) (hk : W.heap[k]? = some (.stringIter s pos)) (h : ¬ pos < s.size) :
    (Instr.next (.pointer (some ⟨k, 0, none⟩)) true ty).run P W = .ok (.tuple #[.bool false]) W := by
  simp [Instr.next, getObj, Sem.run, hk, h]

/-- Is a byte one of the two? -/
def isLow (b : UInt8) : Bool := [0, 10, 13].contains b
theorem isLow_high {b : UInt8} (h : 128 ≤ b.toNat) : isLow b = false := by
  unfold isLow
  rw [Bool.eq_false_iff]
  intro hc
  simp at hc
  rcases hc with rfl | rfl | rfl
  · exact absurd h (by decide)
  · exact absurd h (by decide)
  · exact absurd h (by decide)
/-- What the rune at i says of the bytes that it takes. -/
theorem rune_at (l : List UInt8) (i : Nat) (hi : i < l.length) : ∃ c n : Nat, Utf8.decode (strOf l) i = (c, n) ∧ 1 ≤ n ∧ i + n ≤ l.length ∧
    ((c < 128 ∧ c = (l[i]).toNat ∧ n = 1) ∨ (128 ≤ c ∧ ∀ k (h : k < l.length), i ≤ k → k < i + n → isLow l[k] = false)) := by
  have hs : (strOf l).size = l.length := strOf_size l
  by_cases h : (l[i]).toNat < 128
  · refine ⟨_, _, (?_ : _ = ((l[i]).toNat, 1)), by decide, hi, .inl ⟨h, rfl, rfl⟩⟩
    unfold Utf8.decode
    simp only [Nat.add_zero, strOf_get l i hi]
    rw [if_pos h]
  · obtain ⟨h1, h2, h3, h4⟩ := decode_high (strOf l) i (by omega) (by rw [strOf_get l i hi]; omega)
    generalize Utf8.decode (strOf l) i = D at *
    obtain ⟨c, n⟩ := D
    refine ⟨c, n, rfl, h2, by rw [← hs]; exact h3, .inr ⟨h1, fun k hk hik hkn => isLow_high ?_⟩⟩
    have := h4 (k - i) (by show k - i < n; omega)
    rw [show i + (k - i) = k by omega, strOf_get l k hk] at this
    exact this
theorem isLow_nat (b : UInt8) : decide (0 ≤ Lib.indexByte ([0, 10, 13] : List UInt8) b) = isLow b := (Lib.contains_iff_indexByte _ _).symm
theorem rune_any (c : Nat) (W : World) : Calls Tryd.prog 77 #[.string ⟨#[0, 10, 13]⟩, .int .i32 (c : Int)] W fun e w' => ∃ n : Int, e = .returned (.int .i64 n) ∧ decide (0 ≤ n) = (if c < 128 then isLow (UInt8.ofNat c) else false) ∧ Below W.heap.size W w' := by
  by_cases h : c < 128
  · rw [if_pos h]
    refine (Tryd.strings_IndexRune_ascii ⟨#[0, 10, 13]⟩ c W (by omega) (by omega)).mono ?_
    rintro e w' ⟨rfl, rfl⟩
    refine ⟨_, rfl, ?_, Below.refl _ _⟩
    rw [← isLow_nat]; rfl
  · rw [if_neg h]
    by_cases he : (c : Int) = 65533
    · rw [he]
      exact (rune_err W).mono fun e w' ⟨h1, h2⟩ => ⟨-1, h1, rfl, h2⟩
    · exact (rune_high c (by omega) he W).mono fun e w' ⟨h1, h2⟩ => ⟨-1, h1, rfl, h2⟩

theorem any_take_add {l : List UInt8} {i n : Nat} (h : (l.take i).any isLow = false) (hn : ∀ k (hk : k < l.length), i ≤ k → k < i + n → isLow l[k] = false) : (l.take (i + n)).any isLow = false := by
  rw [List.any_eq_false] at h ⊢
  intro x hx
  obtain ⟨k, hk, rfl⟩ := List.getElem_of_mem hx
  rw [List.length_take] at hk
  rw [List.getElem_take]
  rcases Nat.lt_or_ge k i with h1 | h1
  · refine h _ ?_
    have : k < (l.take i).length := by rw [List.length_take]; omega
    have e := List.getElem_mem this
    rwa [List.getElem_take] at e
  · rw [hn k (by omega) h1 (by omega)]; exact Bool.false_ne_true

set_option maxRecDepth 100000 in
set_option maxHeartbeats 4000000 in
theorem indexAny_short (l : List UInt8) (h8 : l.length ≤ 8) (w : World) : Calls Tryd.prog 59 #[.string (strOf l), .string ⟨#[0, 10, 13]⟩] w fun e w' => ∃ n : Int, e = .returned (.int .i64 n) ∧ decide (0 ≤ n) = l.any isLow ∧ Below w.heap.size w w' := by
  have hb : ∀ p, Below w.heap.size w (w.iter (strOf l) p) := fun p => (Below.refl _ _).alloc (Nat.le_refl _) _
  have hss : (strOf l).size = l.length := strOf_size l
  have h8' : decide ((8 : Int) < (l.length : Int)) = false := decide_eq_false (by omega)
  have HB := Lib.hid hb
  have C0 := fun n W => Tryd.strings_shouldUseASCIISet n W
  have CA := fun (c : Nat) W => rune_any c W
  have HG := Lib.hid (rune_at l)
  clear hb
  generalize hS : strOf l = S at *
  go_enter Tryd.func59, Tryd.ntmps59
  go_wp2_with (go_at_call 78; refine (C0 _ _).mono ?_; rintro e w' ⟨rfl, hw⟩; rw [hw])
  clear C0 h8'
  generalize hw0 : w.iter S 0 = w0 at *
  go_loopg [9, 10] l.length (fun g _ _ wx => ∃ i : Nat, i ≤ l.length ∧ l.length - i ≤ g ∧ wx.heap[w.heap.size]? = some (.stringIter S i) ∧ Below w.heap.size w wx ∧ (l.take i).any isLow = false)
  case atStart => exact ⟨0, by omega, by omega, by rw [← hw0]; exact World.iter_heap _ _ _, by rw [← hw0]; exact HB.out 0, by simp⟩
  case round =>
    obtain ⟨i, hil, hig, hat, hbel, hno⟩ := hrel
    have HR := Lib.hid (And.intro hat (And.intro hbel hno))
    clear hbel hno
    by_cases hi : i < l.length
    · have hnx := fun ty => run_next_rune (P := Tryd.prog) wr w.heap.size S i ty hat (by omega)
      obtain ⟨c, n, hdec, hn1, hn2, hcase⟩ := HG.out i hi
      rw [hdec] at hnx
      have hat2 : (atPos wr w.heap.size S (i + n)).heap[w.heap.size]? = some (.stringIter S (i + n)) := atPos_at hat
      have hbel2 : Below w.heap.size w (atPos wr w.heap.size S (i + n)) := atPos_below HR.out.2.1 (Nat.le_refl _)
      have HA := Lib.hid (And.intro hat2 hbel2)
      obtain ⟨d, hd⟩ : ∃ d, d = (if c < 128 then isLow (UInt8.ofNat c) else false) := ⟨_, rfl⟩
      have CC := CA c
      rw [← hd] at CC
      have HC := Lib.hid (And.intro hcase hd)
      clear hcase hd CA hat hat2 hbel2 hdec
      simp only at hnx
      generalize atPos wr w.heap.size S (i + n) = w2 at *
      go_wp2_with fail
      refine (CC _).mono ?_
      rintro e w3 ⟨m, rfl, hm, hw3⟩
      have HW := Lib.hid hw3
      clear CC hnx hw3
      cases d
      · have hm' : ¬ (0 ≤ m) := of_decide_eq_false hm
        clear hm
        go_wp2_with fail
        go_roundg (l.length - (i + n))
        case measure => omega
        case rel =>
          refine ⟨i + n, hn2, Nat.le_refl _, ?_, HA.out.2.trans (HW.out.mono HA.out.2.size), any_take_add HR.out.2.2 ?_⟩
          · exact blockR_below HA.out.1 HW.out
          · rcases HC.out.1 with ⟨h1, h2, h3⟩ | ⟨h1, h2⟩
            · intro k hk h4 h5
              obtain rfl : k = i := by omega
              have := HC.out.2
              rw [if_pos h1, h2, UInt8.ofNat_toNat] at this
              exact this.symm
            · exact h2
      · have hm' : 0 ≤ m := of_decide_eq_true hm
        clear hm
        go_wp2_with fail
        go_ret
        refine ⟨i, rfl, ?_, HA.out.2.trans (HW.out.mono HA.out.2.size)⟩
        rw [decide_eq_true (by omega)]
        rcases HC.out.1 with ⟨h1, h2, h3⟩ | ⟨h1, h2⟩
        · have := HC.out.2
          rw [if_pos h1, h2, UInt8.ofNat_toNat] at this
          exact (List.any_eq_true.2 ⟨l[i], List.getElem_mem hi, this.symm⟩).symm
        · have := HC.out.2
          rw [if_neg (by omega)] at this
          cases this
    · have hnx := fun ty => run_next_last (P := Tryd.prog) wr w.heap.size S i ty hat (by omega)
      clear hat
      go_wp2_with fail
      go_ret
      refine ⟨-1, rfl, ?_, HR.out.2.1⟩
      obtain rfl : i = l.length := by omega
      have := HR.out.2.2
      rw [List.take_length] at this
      rw [this]; rfl
end Go.Proofs.YtifoledkmjlmoaaDoor
