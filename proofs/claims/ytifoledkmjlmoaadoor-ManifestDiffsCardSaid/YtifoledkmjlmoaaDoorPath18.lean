/-
  strings.IndexRune at a rune beyond ASCII in a text of three ASCII bytes: the walk.
  strings.ContainsAny at any bytes, sought: a nought and a '/': the walk.
  names.Right, with slices.ContainsFunc at its closure: the walks.
  The document's parts of a path: the walk.
  The document's Right of a path: the walk. (Printed by gen/gen_refpath.py.)
-/
import Derived.Test.YtifoledkmjlmoaaDoorStrOps
import Derived.Test.YtifoledkmjlmoaaDoorShelfT
import Derived.Test.YtifoledkmjlmoaaDoorMixG
import Derived.Laws.RangeString
import Derived.Laws.Strings3
import Derived.Laws.Runes
import Derived.WalkMore
import Derived.Test.YtifoledkmjlmoaaDoorRecs
import Derived.Test.YtifoledkmjlmoaaDoorSplit
import Derived.Test.YtifoledkmjlmoaaDoorCat
namespace Go.Proofs.YtifoledkmjlmoaaDoor
open Go.RowKit Go.Mix Go.WideMaps

set_option maxRecDepth 100000 in
set_option maxHeartbeats 2000000 in
theorem rune_err (w : World) : Calls Tryd.prog 77 #[.string ⟨#[0, 10, 13]⟩, .int .i32 65533] w fun e w' => e = .returned (.int .i64 (-1)) ∧ Below w.heap.size w w' := by
  have hb : ∀ p, Below w.heap.size w (w.iter ⟨#[0, 10, 13]⟩ p) := fun p => (Below.refl _ _).alloc (Nat.le_refl _) _
  have HB := Lib.hid hb
  clear hb
  have HN := fun ty => run_next_ascii (P := Tryd.prog) w ⟨#[0, 10, 13]⟩ 0 ty (by decide) (by decide)
  have HN1 := fun ty => run_next_ascii (P := Tryd.prog) w ⟨#[0, 10, 13]⟩ 1 ty (by decide) (by decide)
  have HN2 := fun ty => run_next_ascii (P := Tryd.prog) w ⟨#[0, 10, 13]⟩ 2 ty (by decide) (by decide)
  have HN3 := fun ty => run_next_end (P := Tryd.prog) w ⟨#[0, 10, 13]⟩ 3 ty (by decide)
  go_enter Tryd.func77, Tryd.ntmps77
  go_wp2_with fail
  go_loopg [5, 6] 3 (fun g _ _ wx => ∃ i : Nat, i + g = 3 ∧ wx = w.iter ⟨#[0, 10, 13]⟩ i)
  case atStart => exact ⟨0, rfl, rfl⟩
  case round =>
    obtain ⟨i, hig, rfl⟩ := hrel
    rcases (show (i = 3 ∧ gk = 0) ∨ (i = 2 ∧ gk = 1) ∨ (i = 1 ∧ gk = 2) ∨ (i = 0 ∧ gk = 3) by omega) with ⟨rfl, rfl⟩ | ⟨rfl, rfl⟩ | ⟨rfl, rfl⟩ | ⟨rfl, rfl⟩
    · clear HN HN1 HN2
      go_wp2_with fail
      go_ret
      exact ⟨rfl, HB.out 3⟩
    · clear HN HN1 HN3
      go_wp2_with fail
      go_roundg 0
      case measure => omega
      case rel => exact ⟨3, rfl, rfl⟩
    · clear HN HN2 HN3
      go_wp2_with fail
      go_roundg 1
      case measure => omega
      case rel => exact ⟨2, rfl, rfl⟩
    · clear HN1 HN2 HN3
      go_wp2_with fail
      go_roundg 2
      case measure => omega
      case rel => exact ⟨1, rfl, rfl⟩

theorem idx_13 : ∀ c : Fin 256, 128 ≤ c.val → Lib.indexByte (ByteArray.extract ⟨#[0, 10, 13]⟩ 2 3).data.toList (UInt8.ofNat c.val) = -1 := by decide +kernel
theorem idx_14 : ∀ c : Fin 256, 128 ≤ c.val → Lib.indexByte (ByteArray.extract ⟨#[0, 10, 13]⟩ 3 3).data.toList (UInt8.ofNat c.val) = -1 := by decide +kernel

set_option maxRecDepth 100000 in
set_option maxHeartbeats 2000000 in
theorem rune_high (r : Int) (h0 : 128 ≤ r) (he : r ≠ 65533) (w : World) : Calls Tryd.prog 77 #[.string ⟨#[0, 10, 13]⟩, .int .i32 r] w fun e w' => e = .returned (.int .i64 (-1)) ∧ Below w.heap.size w w' := by
  have t1 : ¬ r < 128 := by omega
  have t2 : (r == 65533) = false := by rw [beq_eq_false_iff_ne]; exact he
  have hb := Below.refl w.heap.size w
  have HB := Lib.hid hb
  have C0 := fun W => Tryd.utf8_ValidRune r W
  clear hb
  cases hv : Lib.validRune r
  · rw [hv] at C0
    clear hv he h0
    go_enter Tryd.func77, Tryd.ntmps77
    go_wp2_with (go_at_call 91; refine (C0 _).mono ?_; rintro e w' ⟨rfl, rfl⟩)
    go_ret
    exact ⟨rfl, HB.out⟩
  · obtain ⟨k2, k4, kb⟩ := encode_facts r (by rw [validRune_eq]; exact hv) h0
    have A : ∀ W, (convert 21 9 (.int .i32 r)).run Tryd.prog W = .ok (.string (Utf8.encode r)) W := fun W => run_convert_int_string W _ _ _ r (by rw [Tryd.underlying21]; rfl) Tryd.underlying9
    generalize Utf8.encode r = R at *
    rw [hv] at C0
    clear hv he h0
    go_enter Tryd.func77, Tryd.ntmps77
    go_wp2_with (go_at_call 91; refine (C0 _).mono ?_; rintro e w' ⟨rfl, rfl⟩)
    go_step3
    go_wp2_with fail
    have C1 := fun s c W => Tryd.strings_IndexByte s c W
    go_loopw [9, 10] (fun s9 _ wr => s9 = .int .i64 ((R.size : Int) - 1) ∧ wr = w') (fun _ _ _ => 0)
    case atStart => exact ⟨rfl, rfl⟩
    case round =>
      obtain ⟨rfl, rfl⟩ := hrel
      by_cases h2 : R.size = 2
      · have hs : 1 < R.size := by omega
        have h8 : 128 ≤ (R[1]).toNat := by
          have := kb (by omega)
          simpa only [h2] using this
        obtain ⟨c, hc⟩ : ∃ c, c = (R[1]).toNat := ⟨_, rfl⟩
        have hlt : c < 256 := by rw [hc]; exact (R[1]).toNat_lt
        rw [← hc] at h8
        have hI : ∀ W : World, (Instr.index 9 (.string R) (.int .i64 1)).run Tryd.prog W = .ok (.int .u8 (c : Int)) W := fun W => by
          rw [run_index_string _ _ _ _ _ Tryd.underlying9, dif_pos (by omega), hc]
          rfl
        have hk : ((10 : Int) == (c : Int)) = false := by rw [beq_eq_false_iff_ne]; omega
        have hI2 : ∀ W : World, (Instr.index 9 (.string ⟨#[0, 10, 13]⟩) (.int .i64 1)).run Tryd.prog W = .ok (.int .u8 10) W := fun W => by
          rw [run_index_string _ _ _ _ _ Tryd.underlying9, dif_pos (by decide)]
          rfl
        have hz : (R.size : Int) - 1 = 1 := by omega
        have hz2 : (R.size : Int) = 2 := by omega
        have C1c : ∀ W, Calls Tryd.prog 44 #[.string (ByteArray.extract ⟨#[0, 10, 13]⟩ 2 3), .int .u8 (c : Int)] W fun e w' => e = .returned (.int .i64 (-1)) ∧ W = w' := fun W => (C1 _ (c : Int) W).mono fun e w' ⟨h1, h2⟩ => ⟨by rw [h1]; exact congrArg (fun z => Ending.returned (.int .i64 z)) (idx_13 ⟨c, hlt⟩ h8), h2.symm⟩
        simp only [hz2]
        clear hc kb hs hz hz2 h2 k2 k4 h8 hlt C1
        go_wp2_with fail
        go_step3
        go_wp2_with fail
        go_region
        go_wp2_with fail
        have W2 : IntKind.i64.wrap 2 = 2 := by decide
        have W3 : Int.toNat 2 = 2 := rfl
        clear hk
        refine wp_region_mg [(0, 0), (1, 0), (2, 0), (3, 0), (4, 0), (5, 0), (6, 0), (7, 0), (8, 0)] (by kernel_rfl) (by kernel_rfl) ?_
        iterate 7 (refine mg_calm rfl (fun K hK => ?_); go_simp; (first | (refine hK _ ?_) | (apply Exists.intro; refine ⟨fun z => ⟨rfl, rfl⟩, hK _ ?_⟩)); clear hK K)
        refine mg_calm rfl (fun K hK => ?_)
        go_simp
        apply Exists.intro
        refine ⟨fun z => calls_calm (C1c z.1), hK _ ?_⟩
        clear hK K
        refine mg_calm rfl (fun K hK => ?_); go_simp; (refine hK _ ?_; clear hK K)
        refine mg_nil fun w7 hw7 => ?_
        have HB7 := Lib.hid (HB.out.drew.trans (Below.mono hw7 HB.out.size))
        clear hw7 C1c
        go_wp2_with fail
        rw [Exit.noGoto_ret]
        dsimp +zetaDelta only [Exit.inBlock, Exit.then, Exit.noGoto]
        go_ret
        exact ⟨rfl, HB7.out⟩
      by_cases h2 : R.size = 3
      · have hs : 2 < R.size := by omega
        have h8 : 128 ≤ (R[2]).toNat := by
          have := kb (by omega)
          simpa only [h2] using this
        obtain ⟨c, hc⟩ : ∃ c, c = (R[2]).toNat := ⟨_, rfl⟩
        have hlt : c < 256 := by rw [hc]; exact (R[2]).toNat_lt
        rw [← hc] at h8
        have hI : ∀ W : World, (Instr.index 9 (.string R) (.int .i64 2)).run Tryd.prog W = .ok (.int .u8 (c : Int)) W := fun W => by
          rw [run_index_string _ _ _ _ _ Tryd.underlying9, dif_pos (by omega), hc]
          rfl
        have hk : ((13 : Int) == (c : Int)) = false := by rw [beq_eq_false_iff_ne]; omega
        have hI2 : ∀ W : World, (Instr.index 9 (.string ⟨#[0, 10, 13]⟩) (.int .i64 2)).run Tryd.prog W = .ok (.int .u8 13) W := fun W => by
          rw [run_index_string _ _ _ _ _ Tryd.underlying9, dif_pos (by decide)]
          rfl
        have hz : (R.size : Int) - 1 = 2 := by omega
        have hz2 : (R.size : Int) = 3 := by omega
        have C1c : ∀ W, Calls Tryd.prog 44 #[.string (ByteArray.extract ⟨#[0, 10, 13]⟩ 3 3), .int .u8 (c : Int)] W fun e w' => e = .returned (.int .i64 (-1)) ∧ W = w' := fun W => (C1 _ (c : Int) W).mono fun e w' ⟨h1, h2⟩ => ⟨by rw [h1]; exact congrArg (fun z => Ending.returned (.int .i64 z)) (idx_14 ⟨c, hlt⟩ h8), h2.symm⟩
        simp only [hz2]
        clear hc kb hs hz hz2 h2 k2 k4 h8 hlt C1
        go_wp2_with fail
        go_step3
        go_wp2_with fail
        go_region
        go_wp2_with fail
        have W2 : IntKind.i64.wrap 3 = 3 := by decide
        have W3 : Int.toNat 3 = 3 := rfl
        clear hk
        refine wp_region_mg [(0, 0), (1, 0), (2, 0), (3, 0), (4, 0), (5, 0), (6, 0), (7, 0), (8, 0)] (by kernel_rfl) (by kernel_rfl) ?_
        iterate 7 (refine mg_calm rfl (fun K hK => ?_); go_simp; (first | (refine hK _ ?_) | (apply Exists.intro; refine ⟨fun z => ⟨rfl, rfl⟩, hK _ ?_⟩)); clear hK K)
        refine mg_calm rfl (fun K hK => ?_)
        go_simp
        apply Exists.intro
        refine ⟨fun z => calls_calm (C1c z.1), hK _ ?_⟩
        clear hK K
        refine mg_calm rfl (fun K hK => ?_); go_simp; (refine hK _ ?_; clear hK K)
        refine mg_nil fun w7 hw7 => ?_
        have HB7 := Lib.hid (HB.out.drew.trans (Below.mono hw7 HB.out.size))
        clear hw7 C1c
        go_wp2_with fail
        rw [Exit.noGoto_ret]
        dsimp +zetaDelta only [Exit.inBlock, Exit.then, Exit.noGoto]
        go_ret
        exact ⟨rfl, HB7.out⟩
      have h3 : ¬ ((R.size : Int) - 1 < 3) := by omega
      clear kb h2
      go_wp2_with fail
      go_ret
      exact ⟨rfl, HB.out⟩
end Go.Proofs.YtifoledkmjlmoaaDoor
namespace Go.Proofs.YtifoledkmjlmoaaDoor
open Go.RowKit Go.Mix Go.WideMaps

/-- What a text's rune at i is, where the byte there is no ASCII. -/
theorem decode_high (s : ByteArray) (i : Nat) (hi : i < s.size) (hb : 128 ≤ (s.get! i).toNat) :
    128 ≤ (Utf8.decode s i).1 ∧ 1 ≤ (Utf8.decode s i).2 ∧ i + (Utf8.decode s i).2 ≤ s.size ∧ ∀ k, k < (Utf8.decode s i).2 → 128 ≤ (s.get! (i + k)).toNat := by
  have hb1 : ∀ k, k < 1 → 128 ≤ (s.get! (i + k)).toNat := fun k hk => by
    obtain rfl : k = 0 := by omega
    exact hb
  have err : 128 ≤ (Utf8.runeError, 1).1 ∧ 1 ≤ (Utf8.runeError, 1).2 ∧ i + (Utf8.runeError, 1).2 ≤ s.size ∧ ∀ k, k < (Utf8.runeError, 1).2 → 128 ≤ (s.get! (i + k)).toNat := ⟨by decide, by decide, hi, hb1⟩
  unfold Utf8.decode
  simp only [Nat.add_zero]
  rw [if_neg (by omega)]
  have cont : ∀ k, (decide (i + k < s.size) && (s.get! (i + k)).toNat / 64 == 2) = true → i + k < s.size ∧ 128 ≤ (s.get! (i + k)).toNat := fun k h => by
    rw [Bool.and_eq_true, decide_eq_true_eq, beq_iff_eq] at h
    exact ⟨h.1, by omega⟩
  split
  · rename_i h
    rw [Bool.and_eq_true] at h
    have c1 := cont 1 h.2
    split
    · rename_i h2
      refine ⟨h2, Nat.le_succ _, c1.1, fun k hk => ?_⟩
      rcases (show k = 0 ∨ k = 1 by simp at hk; omega) with rfl | rfl
      · exact hb
      · exact c1.2
    · exact err
  · split
    · rename_i h
      rw [Bool.and_eq_true, Bool.and_eq_true] at h
      have c1 := cont 1 h.1.2
      have c2 := cont 2 h.2
      split
      · rename_i h2
        rw [Bool.and_eq_true, decide_eq_true_eq] at h2
        refine ⟨Nat.le_trans (by decide) h2.1, (show 1 ≤ 3 by decide), c2.1, fun k hk => ?_⟩
        rcases (show k = 0 ∨ k = 1 ∨ k = 2 by simp at hk; omega) with rfl | rfl | rfl
        · exact hb
        · exact c1.2
        · exact c2.2
      · exact err
    · split
      · rename_i h
        rw [Bool.and_eq_true, Bool.and_eq_true, Bool.and_eq_true] at h
        have c1 := cont 1 h.1.1.2
        have c2 := cont 2 h.1.2
        have c3 := cont 3 h.2
        split
        · rename_i h2
          rw [Bool.and_eq_true, decide_eq_true_eq] at h2
          refine ⟨Nat.le_trans (by decide) h2.1, (show 1 ≤ 4 by decide), c3.1, fun k hk => ?_⟩
          rcases (show k = 0 ∨ k = 1 ∨ k = 2 ∨ k = 3 by simp at hk; omega) with rfl | rfl | rfl | rfl
          · exact hb
          · exact c1.2
          · exact c2.2
          · exact c3.2
        · exact err
      · exact err

/-- The world in which the text's reader at k stands at pos. -/
def atPos (W : World) (k : Nat) (s : ByteArray) (pos : Nat) : World := { W with heap := W.heap.setIfInBounds k (.stringIter s pos) }
theorem atPos_at {W : World} {k : Nat} {s : ByteArray} {p q : Nat} (h : W.heap[k]? = some (.stringIter s p)) : (atPos W k s q).heap[k]? = some (.stringIter s q) := by
  have hk : k < W.heap.size := lt_of_block h
  show (W.heap.setIfInBounds k _)[k]? = _
  rw [Array.getElem?_setIfInBounds_self_of_lt hk]
theorem atPos_below {B : Nat} {a W : World} {k : Nat} {s : ByteArray} {q : Nat} (h : Below B a W) (hk : B ≤ k) : Below B a (atPos W k s q) :=
  ⟨h.os, h.tape, h.output, by show _ ≤ (W.heap.setIfInBounds k _).size; rw [Array.size_setIfInBounds]; exact h.size, fun i hi => by
    show (W.heap.setIfInBounds k _)[i]? = _
    rw [Array.getElem?_setIfInBounds_ne (by omega)]
    exact h.block i hi⟩
theorem run_next_rune {P : Program} (W : World) (k : Nat) (s : ByteArray) (pos : Nat) (ty : TypeId) (hk : W.heap[k]? = some (.stringIter s pos)) (h : pos < s.size) :
    (Instr.next (.pointer (some ⟨k, 0, none⟩)) true ty).run P W =
      .ok (.tuple #[.bool true, .int .i64 pos, .int .i32 (Utf8.decode s pos).1]) (atPos W k s (pos + (Utf8.decode s pos).2)) := by
  simp only [Instr.next, getObj, setObj, Sem.run_bind, Sem.run, hk, Result.andThen, h, if_true]
  simp [goInt, atPos]
theorem run_next_last {P : Program} (W : World) (k : Nat) (s : ByteArray) (pos : Nat) (ty : TypeId) (hk : W.heap[k]? = some (.stringIter s pos)) (h : ¬ pos < s.size) :
    (Instr.next (.pointer (some ⟨k, 0, none⟩)) true ty).run P W = .ok (.tuple #[.bool false]) W := by
  simp [Instr.next, getObj, Sem.run, hk, h]

/-- Is a byte one of the two? -/
def isLow (b : UInt8) : Bool := [0, 10, 13].contains b
theorem isLow_high {b : UInt8} (h : 128 ≤ b.toNat) : isLow b = false := by
  unfold isLow
  rw [Bool.eq_false_iff]
  intro hc
  simp at hc
  rcases hc with rfl | rfl | rfl
  · exact absurd h (by decide)
  · exact absurd h (by decide)
  · exact absurd h (by decide)
/-- What the rune at i says of the bytes that it takes. -/
theorem rune_at (l : List UInt8) (i : Nat) (hi : i < l.length) : ∃ c n : Nat, Utf8.decode (strOf l) i = (c, n) ∧ 1 ≤ n ∧ i + n ≤ l.length ∧
    ((c < 128 ∧ c = (l[i]).toNat ∧ n = 1) ∨ (128 ≤ c ∧ ∀ k (h : k < l.length), i ≤ k → k < i + n → isLow l[k] = false)) := by
  have hs : (strOf l).size = l.length := strOf_size l
  by_cases h : (l[i]).toNat < 128
  · refine ⟨_, _, (?_ : _ = ((l[i]).toNat, 1)), by decide, hi, .inl ⟨h, rfl, rfl⟩⟩
    unfold Utf8.decode
    simp only [Nat.add_zero, strOf_get l i hi]
    rw [if_pos h]
  · obtain ⟨h1, h2, h3, h4⟩ := decode_high (strOf l) i (by omega) (by rw [strOf_get l i hi]; omega)
    generalize Utf8.decode (strOf l) i = D at *
    obtain ⟨c, n⟩ := D
    refine ⟨c, n, rfl, h2, by rw [← hs]; exact h3, .inr ⟨h1, fun k hk hik hkn => isLow_high ?_⟩⟩
    have := h4 (k - i) (by show k - i < n; omega)
    rw [show i + (k - i) = k by omega, strOf_get l k hk] at this
    exact this
theorem isLow_nat (b : UInt8) : decide (0 ≤ Lib.indexByte ([0, 10, 13] : List UInt8) b) = isLow b := (Lib.contains_iff_indexByte _ _).symm
theorem rune_any (c : Nat) (W : World) : Calls Tryd.prog 77 #[.string ⟨#[0, 10, 13]⟩, .int .i32 (c : Int)] W fun e w' => ∃ n : Int, e = .returned (.int .i64 n) ∧ decide (0 ≤ n) = (if c < 128 then isLow (UInt8.ofNat c) else false) ∧ Below W.heap.size W w' := by
  by_cases h : c < 128
  · rw [if_pos h]
    refine (Tryd.strings_IndexRune_ascii ⟨#[0, 10, 13]⟩ c W (by omega) (by omega)).mono ?_
    rintro e w' ⟨rfl, rfl⟩
    refine ⟨_, rfl, ?_, Below.refl _ _⟩
    rw [← isLow_nat]; rfl
  · rw [if_neg h]
    by_cases he : (c : Int) = 65533
    · rw [he]
      exact (rune_err W).mono fun e w' ⟨h1, h2⟩ => ⟨-1, h1, rfl, h2⟩
    · exact (rune_high c (by omega) he W).mono fun e w' ⟨h1, h2⟩ => ⟨-1, h1, rfl, h2⟩

theorem any_take_add {l : List UInt8} {i n : Nat} (h : (l.take i).any isLow = false) (hn : ∀ k (hk : k < l.length), i ≤ k → k < i + n → isLow l[k] = false) : (l.take (i + n)).any isLow = false := by
  rw [List.any_eq_false] at h ⊢
  intro x hx
  obtain ⟨k, hk, rfl⟩ := List.getElem_of_mem hx
  rw [List.length_take] at hk
  rw [List.getElem_take]
  rcases Nat.lt_or_ge k i with h1 | h1
  · refine h _ ?_
    have : k < (l.take i).length := by rw [List.length_take]; omega
    have e := List.getElem_mem this
    rwa [List.getElem_take] at e
  · rw [hn k (by omega) h1 (by omega)]; exact Bool.false_ne_true

set_option maxRecDepth 100000 in
set_option maxHeartbeats 4000000 in
theorem indexAny_short (l : List UInt8) (h8 : l.length ≤ 8) (w : World) : Calls Tryd.prog 59 #[.string (strOf l), .string ⟨#[0, 10, 13]⟩] w fun e w' => ∃ n : Int, e = .returned (.int .i64 n) ∧ decide (0 ≤ n) = l.any isLow ∧ Below w.heap.size w w' := by
  have hb : ∀ p, Below w.heap.size w (w.iter (strOf l) p) := fun p => (Below.refl _ _).alloc (Nat.le_refl _) _
  have hss : (strOf l).size = l.length := strOf_size l
  have h8' : decide ((8 : Int) < (l.length : Int)) = false := decide_eq_false (by omega)
  have HB := Lib.hid hb
  have C0 := fun n W => Tryd.strings_shouldUseASCIISet n W
  have CA := fun (c : Nat) W => rune_any c W
  have HG := Lib.hid (rune_at l)
  clear hb
  generalize hS : strOf l = S at *
  go_enter Tryd.func59, Tryd.ntmps59
  go_wp2_with (go_at_call 78; refine (C0 _ _).mono ?_; rintro e w' ⟨rfl, hw⟩; rw [hw])
  clear C0 h8'
  generalize hw0 : w.iter S 0 = w0 at *
  go_loopg [9, 10] l.length (fun g _ _ wx => ∃ i : Nat, i ≤ l.length ∧ l.length - i ≤ g ∧ wx.heap[w.heap.size]? = some (.stringIter S i) ∧ Below w.heap.size w wx ∧ (l.take i).any isLow = false)
  case atStart => exact ⟨0, by omega, by omega, by rw [← hw0]; exact World.iter_heap _ _ _, by rw [← hw0]; exact HB.out 0, by simp⟩
  case round =>
    obtain ⟨i, hil, hig, hat, hbel, hno⟩ := hrel
    have HR := Lib.hid (And.intro hat (And.intro hbel hno))
    clear hbel hno
    by_cases hi : i < l.length
    · have hnx := fun ty => run_next_rune (P := Tryd.prog) wr w.heap.size S i ty hat (by omega)
      obtain ⟨c, n, hdec, hn1, hn2, hcase⟩ := HG.out i hi
      rw [hdec] at hnx
      have hat2 : (atPos wr w.heap.size S (i + n)).heap[w.heap.size]? = some (.stringIter S (i + n)) := atPos_at hat
      have hbel2 : Below w.heap.size w (atPos wr w.heap.size S (i + n)) := atPos_below HR.out.2.1 (Nat.le_refl _)
      have HA := Lib.hid (And.intro hat2 hbel2)
      obtain ⟨d, hd⟩ : ∃ d, d = (if c < 128 then isLow (UInt8.ofNat c) else false) := ⟨_, rfl⟩
      have CC := CA c
      rw [← hd] at CC
      have HC := Lib.hid (And.intro hcase hd)
      clear hcase hd CA hat hat2 hbel2 hdec
      simp only at hnx
      generalize atPos wr w.heap.size S (i + n) = w2 at *
      go_wp2_with fail
      refine (CC _).mono ?_
      rintro e w3 ⟨m, rfl, hm, hw3⟩
      have HW := Lib.hid hw3
      clear CC hnx hw3
      cases d
      · have hm' : ¬ (0 ≤ m) := of_decide_eq_false hm
        clear hm
        go_wp2_with fail
        go_roundg (l.length - (i + n))
        case measure => omega
        case rel =>
          refine ⟨i + n, hn2, Nat.le_refl _, ?_, HA.out.2.trans (HW.out.mono HA.out.2.size), any_take_add HR.out.2.2 ?_⟩
          · exact blockR_below HA.out.1 HW.out
          · rcases HC.out.1 with ⟨h1, h2, h3⟩ | ⟨h1, h2⟩
            · intro k hk h4 h5
              obtain rfl : k = i := by omega
              have := HC.out.2
              rw [if_pos h1, h2, UInt8.ofNat_toNat] at this
              exact this.symm
            · exact h2
      · have hm' : 0 ≤ m := of_decide_eq_true hm
        clear hm
        go_wp2_with fail
        go_ret
        refine ⟨i, rfl, ?_, HA.out.2.trans (HW.out.mono HA.out.2.size)⟩
        rw [decide_eq_true (by omega)]
        rcases HC.out.1 with ⟨h1, h2, h3⟩ | ⟨h1, h2⟩
        · have := HC.out.2
          rw [if_pos h1, h2, UInt8.ofNat_toNat] at this
          exact (List.any_eq_true.2 ⟨l[i], List.getElem_mem hi, this.symm⟩).symm
        · have := HC.out.2
          rw [if_neg (by omega)] at this
          cases this
    · have hnx := fun ty => run_next_last (P := Tryd.prog) wr w.heap.size S i ty hat (by omega)
      clear hat
      go_wp2_with fail
      go_ret
      refine ⟨-1, rfl, ?_, HR.out.2.1⟩
      obtain rfl : i = l.length := by omega
      have := HR.out.2.2
      rw [List.take_length] at this
      rw [this]; rfl
end Go.Proofs.YtifoledkmjlmoaaDoor
namespace Go.Proofs.YtifoledkmjlmoaaDoor
open Go.RowKit Go.Mix Go.WideMaps

/-- A part that no path may have. -/
def badP (p : List UInt8) : Bool := decide (p = []) || decide (p = [46]) || decide (p = [46, 46])
theorem eq_text (s : List UInt8) (t : List UInt8) : ((strOf s).toList == t) = decide (s = t) := by rw [strOf_list, Bool.eq_iff_iff, beq_iff_eq, decide_eq_true_eq]
theorem empty_text (s : List UInt8) : ((strOf s).toList.isEmpty) = decide (s = []) := by rw [strOf_list]; cases s <;> rfl

set_option maxRecDepth 100000 in
set_option maxHeartbeats 2000000 in
theorem bad_any (s : List UInt8) (w : World) : Calls Tryd.prog 52 #[.string (strOf s)] w fun e w' => e = .returned (.bool (badP s)) ∧ w = w' := by
  have E0 := empty_text s
  have E1 := eq_text s [46]
  have E2 := eq_text s [46, 46]
  have hB : badP s = (decide (s = []) || decide (s = [46]) || decide (s = [46, 46])) := rfl
  generalize badP s = B at *
  generalize strOf s = S at *
  generalize decide (s = []) = b0 at *
  generalize decide (s = [46]) = b1 at *
  generalize decide (s = [46, 46]) = b2 at *
  subst hB
  cases b0
  · cases b1
    · go_enter Tryd.func52, Tryd.ntmps52
      go_wp2_with fail
      go_ret
      exact ⟨rfl, rfl⟩
    · go_enter Tryd.func52, Tryd.ntmps52
      go_wp2_with fail
      go_ret
      exact ⟨rfl, rfl⟩
  · go_enter Tryd.func52, Tryd.ntmps52
    go_wp2_with fail
    go_ret
    exact ⟨rfl, rfl⟩

abbrev badV : Value := .func (.func 52) #[] #[]
set_option maxRecDepth 100000 in
set_option maxHeartbeats 2000000 in
theorem idxBad_any {w : World} {l : List (List UInt8)} {a : Option Addr} {n cap : Nat} (hg : RsAt encS 1 w a cap l) (hn : n = l.length) (hl : n ≤ 1000000) :
    Calls Tryd.prog 60 #[.slice a n cap, badV] w fun e w' => ∃ m : Int, e = .returned (.int .i64 m) ∧ decide (0 ≤ m) = l.any badP ∧ w = w' := by
  have HG := Lib.hid (And.intro hg hn)
  clear hg hn
  go_enter Tryd.func60, Tryd.ntmps60
  go_wp2_with fail
  go_loopw [8] (fun s8 wr => ∃ i : Nat, s8 = .int .i64 (i : Int) ∧ i ≤ n ∧ (l.take i).any badP = false ∧ w = wr) (fun s8 _ => n - (intOf s8).toNat)
  case atStart => exact ⟨0, rfl, Nat.zero_le _, by simp, rfl⟩
  case round =>
    obtain ⟨i, rfl, hi, hno, rfl⟩ := hrel
    have HNO := Lib.hid hno
    clear hno
    by_cases hin : i < n
    · have t1 : decide ((i : Int) < (n : Int)) = true := decide_eq_true (by omega)
      have t1' : decide (i < n) = true := decide_eq_true hin
      have hil : i < l.length := by rw [← HG.out.2]; exact hin
      obtain ⟨b, q, IX, -, L⟩ := HG.out.1.at1 tyS (i : Int) i rfl hil
      rw [← HG.out.2] at IX
      have L0 := L w (Below.refl _ _)
      have hs : (l.take (i + 1)).any badP = ((l.take i).any badP || badP l[i]!) := by rw [List.take_succ_eq_append_getElem hil, List.any_append, getElem!_pos l i hil]; simp
      obtain ⟨x, hx⟩ : ∃ x, x = l[i]! := ⟨_, rfl⟩
      rw [← hx] at L0 hs
      obtain ⟨B, hB⟩ : ∃ B, B = badP x := ⟨_, rfl⟩
      have CB := bad_any x w
      rw [← hB] at CB hs
      have HS := Lib.hid (And.intro hs (And.intro hx hB))
      unfold strV at L0
      generalize strOf x = X at *
      clear L hs hx hB hil
      cases B
      · go_wp2_with (first | (refine wpList_load_at rfl _ _ rfl _ _ rfl L0 ?_) | (refine Calls.mono CB ?_; rintro e5 w5 ⟨rfl, rfl⟩))
        go_roundw
        case rel => exact ⟨i + 1, by go_num, by omega, by rw [HS.out.1, HNO.out]; rfl, by first | rfl | trivial⟩
        case measure => simp [intOf]; omega
      · go_wp2_with (first | (refine wpList_load_at rfl _ _ rfl _ _ rfl L0 ?_) | (refine Calls.mono CB ?_; rintro e5 w5 ⟨rfl, rfl⟩))
        go_ret
        refine ⟨i, rfl, ?_, rfl⟩
        rw [decide_eq_true (by omega)]
        have hil : i < l.length := by rw [← HG.out.2]; exact hin
        exact (List.any_eq_true.2 ⟨x, by rw [HS.out.2.1, getElem!_pos l i hil]; exact List.getElem_mem hil, HS.out.2.2.symm⟩).symm
    · obtain rfl : i = n := by omega
      have t1 : decide ((i : Int) < (i : Int)) = false := decide_eq_false (by omega)
      have t1' : decide (i < i) = false := decide_eq_false (by omega)
      go_wp2_with fail
      go_ret
      refine ⟨-1, rfl, ?_, rfl⟩
      have := HNO.out
      rw [List.take_of_length_le (by rw [← HG.out.2]; exact Nat.le_refl _)] at this
      rw [this]; rfl
set_option maxRecDepth 100000 in
set_option maxHeartbeats 2000000 in
theorem hasBad_any {w : World} {l : List (List UInt8)} {a : Option Addr} {n cap : Nat} (hg : RsAt encS 1 w a cap l) (hn : n = l.length) (hl : n ≤ 1000000) :
    Calls Tryd.prog 50 #[.slice a n cap, badV] w fun e w' => e = .returned (.bool (l.any badP)) ∧ w = w' := by
  have C := idxBad_any hg hn hl
  clear hg hn hl
  generalize l.any badP = B at *
  go_enter Tryd.func50, Tryd.ntmps50
  go_wp2_with fail
  refine Calls.mono C ?_
  rintro e w5 ⟨m, rfl, hm, rfl⟩
  clear C
  go_wp2_with fail
  go_ret
  exact ⟨by rw [← hm]; rfl, rfl⟩

theorem indexAny_any (chars : List UInt8) : ∀ l : List UInt8, decide (0 ≤ Lib.indexAny l chars) = l.any fun b => chars.contains b
  | [] => rfl
  | b :: l => by
    have ih := indexAny_any chars l
    have hge := Lib.indexAny_ge chars l
    rw [List.any_cons, ← ih, Lib.indexAny]
    cases h : chars.contains b
    · rw [if_neg Bool.false_ne_true, Bool.false_or]
      split
      · rename_i h1
        have := beq_iff_eq.1 h1
        rw [decide_eq_false (by omega), decide_eq_false (by omega)]
      · rename_i h1
        have h2 : Lib.indexAny l chars ≠ -1 := fun e => h1 (beq_iff_eq.2 e)
        rw [decide_eq_true (by omega), decide_eq_true (by omega)]
    · rw [if_pos rfl, Bool.true_or]; rfl
theorem indexLow (l : List UInt8) (hl : l.length ≤ 1000000) (w : World) : Calls Tryd.prog 59 #[.string (strOf l), .string ⟨#[0, 10, 13]⟩] w fun e w' => ∃ n : Int, e = .returned (.int .i64 n) ∧ decide (0 ≤ n) = l.any isLow ∧ Below w.heap.size w w' := by
  by_cases h8 : l.length ≤ 8
  · exact indexAny_short l h8 w
  · have hs : (strOf l).size = l.length := strOf_size l
    refine (Tryd.strings_IndexAny_long ((zero_of_info (P := Tryd.prog) (n := 256) (by kernel_rfl)).1) (strOf l) ⟨#[0, 10, 13]⟩ w (by decide) (by omega) (by omega) (by decide) ?_).mono ?_
    · intro j b hj
      have : b ∈ ([0, 10, 13] : List UInt8) := List.mem_of_getElem? hj
      simp at this
      rcases this with rfl | rfl | rfl <;> decide
    · rintro e w' ⟨rfl, rfl⟩
      exact ⟨_, rfl, indexAny_any _ _, ((Below.refl _ _).alloc (Nat.le_refl _) _).alloc (by simp) _⟩
set_option maxRecDepth 100000 in
set_option maxHeartbeats 2000000 in
theorem containsLow (l : List UInt8) (hl : l.length ≤ 1000000) (w : World) : Calls Tryd.prog 49 #[.string (strOf l), .string ⟨#[0, 10, 13]⟩] w fun e w' => e = .returned (.bool (l.any isLow)) ∧ Below w.heap.size w w' := by
  have C := fun W => indexLow l hl W
  generalize strOf l = S at *
  go_enter Tryd.func49, Tryd.ntmps49
  go_wp2_with fail
  refine (C _).mono ?_
  rintro e w3 ⟨m, rfl, hm, hw3⟩
  have HW := Lib.hid (And.intro hw3 hm)
  clear C hw3 hm
  go_wp2_with fail
  go_ret
  exact ⟨by rw [← HW.out.2]; rfl, HW.out.1⟩

/-- Is it a path? -/
def pathL (s : List UInt8) : Bool := decide (s.length ≤ 255) && !s.any isLow && !(splitC 47 s).any badP

set_option maxRecDepth 100000 in
set_option maxHeartbeats 2000000 in
theorem path_any (s : List UInt8) (hl : s.length ≤ 100000) (w : World) : Calls Tryd.prog 38 #[.string (strOf s)] w fun e w' => e = .returned (.bool (pathL s)) ∧ Below w.heap.size w w' := by
  have C := fun W => containsLow s (by omega) W
  have CS := fun W => split_any s 47 (by omega) W
  have hsz : (strOf s).size = s.length := strOf_size s
  have hpl := splitC_len 47 s
  have HB := Lib.hid (Below.refl w.heap.size w)
  have hN : pathL s = (decide (s.length ≤ 255) && !s.any isLow && !(splitC 47 s).any badP) := rfl
  generalize pathL s = N at *
  obtain ⟨P, hP⟩ : ∃ P, P = splitC 47 s := ⟨_, rfl⟩
  rw [← hP] at CS hpl hN
  clear hP
  generalize strOf s = S at *
  generalize s.any isLow = L at *
  obtain ⟨n, hn⟩ : ∃ n, n = P.length := ⟨_, rfl⟩
  rw [← hn] at CS
  obtain ⟨B, hB⟩ : ∃ B, B = P.any badP := ⟨_, rfl⟩
  rw [← hB] at hN
  have HN := Lib.hid (And.intro hn (And.intro hpl hB))
  clear hpl hn hB
  by_cases h1 : s.length ≤ 255
  case neg =>
    obtain rfl : N = false := by rw [hN, decide_eq_false h1]; rfl
    have h1' : decide ((255 : Int) < (s.length : Int)) = true := decide_eq_true (by omega)
    have h1'' : decide (255 < s.length) = true := decide_eq_true (by omega)
    clear hN C CS hl h1
    go_enter Tryd.func38, Tryd.ntmps38
    go_wp2_with fail
    go_ret
    exact ⟨rfl, HB.out⟩
  have hn6 : n ≤ 1000 := by have := HN.out; omega
  rw [decide_eq_true h1, Bool.true_and] at hN
  have h1' : decide ((255 : Int) < (s.length : Int)) = false := decide_eq_false (by omega)
  have h1'' : decide (255 < s.length) = false := decide_eq_false (by omega)
  cases L
  · rw [Bool.not_false, Bool.true_and] at hN
    subst hN
    clear h1 hl
    go_enter Tryd.func38, Tryd.ntmps38
    go_wp2_with fail
    refine (C _).mono ?_
    rintro e w3 ⟨rfl, hw3⟩
    have HW := Lib.hid hw3
    clear C hw3
    go_wp2_with fail
    refine (CS _).mono ?_
    rintro e w4 ⟨rfl, hw4⟩
    have hb4 : Grow w3 w4 := by rw [hw4]; exact (Below.refl _ _).alloc (Nat.le_refl _) _
    have hblk : w4.heap[w3.heap.size]? = some (.cells (P.map strV).toArray 9 (0, 0)) := by rw [hw4]; exact heap_alloc_last _ _ _ rfl
    have CB := hasBad_any (texts_block hblk (by have := HN.out; omega)) rfl (by have := HN.out; omega)
    rw [← HN.out.1, ← HN.out.2.2] at CB
    have HW4 := Lib.hid (Grow.trans HW.out hb4)
    clear CS hw4 hb4 hblk
    go_wp2_with fail
    refine CB.mono ?_
    rintro e w5 ⟨rfl, rfl⟩
    clear CB
    go_wp2_with fail
    go_ret
    exact ⟨rfl, HW4.out⟩
  · rw [Bool.not_true, Bool.false_and] at hN
    subst hN
    clear CS h1 hl
    go_enter Tryd.func38, Tryd.ntmps38
    go_wp2_with fail
    refine (C _).mono ?_
    rintro e w3 ⟨rfl, hw3⟩
    have HW := Lib.hid hw3
    clear C hw3
    go_wp2_with fail
    go_ret
    exact ⟨rfl, HW.out⟩
end Go.Proofs.YtifoledkmjlmoaaDoor
namespace Go.Proofs.YtifoledkmjlmoaaDoor
open Go.RowKit Go.Mix Go.WideMaps

set_option maxRecDepth 100000 in
set_option maxHeartbeats 4000000 in
theorem parts_any (s : List UInt8) (hl : s.length ≤ 100000) (w : World) : Calls Tryd.prog 41 #[.string (strOf s)] w fun e w' => ∃ v, e = .returned v ∧ OwnR encS 1 9 w w' v (splitC 47 s) := by
  obtain ⟨n, hn⟩ : ∃ n, n = s.length := ⟨_, rfl⟩
  have hsz : (strOf s).size = n := by rw [strOf_size, hn]
  obtain ⟨S, hS⟩ : ∃ S, S = strOf s := ⟨_, rfl⟩
  have HS := Lib.hid (And.intro hn hS)
  rw [← hS] at hsz ⊢
  have hn6 : n ≤ 100000 := by omega
  have H0 : Hid (OwnR encS 1 9 w w (.slice none 0 0) (splitC 47 []).dropLast) := Lib.hid (OwnR.nil (Below.refl _ _))
  have HE : Hid (strOf ((splitC 47 []).getLastD []) = ⟨#[]⟩) := Lib.hid rfl
  clear hl hn hS
  go_enter Tryd.func41, Tryd.ntmps41
  go_wp2_with fail
  go_loopw [3, 4, 5] (fun s3 s4 s5 wr => ∃ i : Nat, s5 = .int .i64 (i : Int) ∧ i ≤ n ∧ s4 = .string (strOf ((splitC 47 (s.take i)).getLastD [])) ∧ OwnR encS 1 9 w wr s3 (splitC 47 (s.take i)).dropLast) (fun _ _ s5 _ => n - (intOf s5).toNat)
  case atStart => exact ⟨0, rfl, Nat.zero_le _, by rw [List.take_zero, HE.out], by rw [List.take_zero]; exact H0.out⟩
  case round =>
    clear H0 HE
    obtain ⟨i, rfl, hi, rfl, hrow⟩ := hrel
    obtain ⟨L, hL⟩ : ∃ L, L = splitC 47 (s.take i) := ⟨_, rfl⟩
    have hne : L ≠ [] := by rw [hL]; exact splitC_ne _ _
    have hLl : L.length ≤ i + 1 := by have := splitC_len 47 (s.take i); rw [List.length_take] at this; rw [hL]; omega
    have hpl : (L.getLastD []).length ≤ i := by
      obtain ⟨p, ps, e⟩ := List.exists_cons_of_ne_nil hne
      have hm : L.getLastD [] ∈ L := by rw [e, List.getLastD_cons]; exact List.getLastD_mem_cons
      rw [hL] at hm ⊢
      have := splitC_part 47 (s.take i) _ hm
      rw [List.length_take] at this
      omega
    obtain ⟨one, hone⟩ : ∃ o, o = L.getLastD [] := ⟨_, rfl⟩
    have hfull : L = L.dropLast ++ [one] := by
      obtain ⟨p, ps, e⟩ := List.exists_cons_of_ne_nil hne
      rw [hone, e, List.getLastD_cons]
      conv => lhs; rw [← List.dropLast_concat_getLast (l := p :: ps) (by simp)]
      rw [List.getLast_eq_getLastD]
    rw [← hL] at hrow ⊢
    rw [← hone] at hpl ⊢
    have HLO := Lib.hid (And.intro hL (And.intro hfull (And.intro hone hne)))
    have hdl : L.dropLast.length ≤ i := by rw [List.length_dropLast]; omega
    have HDL := Lib.hid hdl
    clear hL hfull hone hne hLl hdl
    by_cases hin : i < n
    · have t1 : decide ((i : Int) < (n : Int)) = true := decide_eq_true (by omega)
      have t1' : decide (i < n) = true := decide_eq_true hin
      have hil : i < s.length := by rw [← HS.out.1]; exact hin
      have hsn := splitC_snoc 47 (s.take i) s[i]
      rw [← List.take_succ_eq_append_getElem hil, ← HLO.out.1] at hsn
      have IX := fun W : World => str_at Tryd.underlying9 s (i := i) (i : Int) rfl (c := s[i]) (List.getElem?_eq_getElem hil) W
      have EX := ext_one s hil
      rw [← HS.out.2] at IX EX
      obtain ⟨x, hx⟩ : ∃ x, x = s[i] := ⟨_, rfl⟩
      rw [← hx] at IX EX hsn
      have HSN := Lib.hid hsn
      clear hx hsn hil
      by_cases h47 : x = 47
      · have t2 : ((x.toNat : Int) == 47) = true := by rw [h47]; rfl
        have hsn := HSN.out
        rw [if_pos h47] at hsn
        have hd : (splitC 47 (s.take (i + 1))).dropLast = L.dropLast ++ [one] := by rw [hsn, List.dropLast_concat]; exact HLO.out.2.1
        have hg : (splitC 47 (s.take (i + 1))).getLastD [] = [] := by rw [hsn]; simp
        have HD := Lib.hid (And.intro hd hg)
        have HE : Hid (strOf [] = ⟨#[]⟩) := Lib.hid rfl
        have S1 := tyS.slice1 one wr
        have HP9 := Lib.hid (RsAt.one (enc := encS) (L := 1) wr 9 one)
        have HR9 := Lib.hid (hrow.later ((Below.refl _ _).alloc (Nat.le_refl _) (.cells (recA encS one) 9)))
        clear hrow hd hg hsn EX h47 HSN
        go_wp2_with (first | (refine wpList_index_at rfl _ _ _ rfl _ _ _ rfl rfl IX ?_) | (refine wpList_buildSlice_at rfl _ _ _ rfl [(0, strV one)] _ rfl S1 ?_) | (refine wpList_append_1 tyS rfl (.tmp 16) (.tmp 18) rfl _ L.dropLast rfl HR9.out (some ⟨wr.heap.size, 0, none⟩) 1 1 [one] rfl rfl HP9.out (by have := HDL.out; have h2 : [one].length = 1 := rfl; omega) ?_; intro v8 w8 hb8 hg8 hn8; have H8 := Lib.hid hb8; clear hb8 hg8 hn8 S1))
        go_roundw
        case rel => exact ⟨i + 1, by go_num, by omega, by rw [HD.out.2, HE.out], by rw [HD.out.1]; exact H8.out⟩
        case measure => simp [intOf]; omega
      · have t2 : ((x.toNat : Int) == 47) = false := by
          rw [beq_eq_false_iff_ne]
          intro h
          exact h47 (UInt8.toNat_inj.1 (by show x.toNat = 47; omega))
        have hsn := HSN.out
        rw [if_neg h47] at hsn
        have hd : (splitC 47 (s.take (i + 1))).dropLast = L.dropLast := by rw [hsn, List.dropLast_concat]
        have hg : (splitC 47 (s.take (i + 1))).getLastD [] = one ++ [x] := by rw [hsn, HLO.out.2.2.1]; simp
        have HD := Lib.hid (And.intro hd hg)
        have HROW := Lib.hid hrow
        have SA := fun W => str_add one [x] (by omega) (by simp) W
        obtain ⟨X1, hX1⟩ : ∃ X, X = strOf [x] := ⟨_, rfl⟩
        obtain ⟨O1, hO1⟩ : ∃ X, X = strOf one := ⟨_, rfl⟩
        obtain ⟨O2, hO2⟩ : ∃ X, X = strOf (one ++ [x]) := ⟨_, rfl⟩
        rw [← hX1] at SA EX
        rw [← hO1, ← hO2] at SA
        rw [← hO1]
        have HO2 := Lib.hid hO2
        clear hrow hd hg hsn h47 HSN hX1 hO1 hO2
        go_wp2_with (first | (refine wpList_index_at rfl _ _ _ rfl _ _ _ rfl rfl IX ?_))
        go_roundw
        case rel => exact ⟨i + 1, by go_num, by omega, by rw [HD.out.2, HO2.out], by rw [HD.out.1]; exact HROW.out⟩
        case measure => simp [intOf]; omega
    · obtain rfl : i = n := by omega
      have t1 : decide ((i : Int) < (i : Int)) = false := decide_eq_false (by omega)
      have t1' : decide (i < i) = false := decide_eq_false (by omega)
      have S1 := tyS.slice1 one wr
      have HP9 := Lib.hid (RsAt.one (enc := encS) (L := 1) wr 9 one)
      have HR9 := Lib.hid (hrow.later ((Below.refl _ _).alloc (Nat.le_refl _) (.cells (recA encS one) 9)))
      clear hrow
      go_wp2_with (first | (refine wpList_buildSlice_at rfl _ _ _ rfl [(0, strV one)] _ rfl S1 ?_) | (refine wpList_append_1 tyS rfl (.tmp 27) (.tmp 29) rfl _ L.dropLast rfl HR9.out (some ⟨wr.heap.size, 0, none⟩) 1 1 [one] rfl rfl HP9.out (by have := HDL.out; have h2 : [one].length = 1 := rfl; omega) ?_; intro v8 w8 hb8 hg8 hn8; have H8 := Lib.hid hb8; clear hb8 hg8 hn8 S1))
      go_ret
      refine ⟨_, rfl, ?_⟩
      have := H8.out
      rw [← HLO.out.2.1, HLO.out.1, List.take_of_length_le (by rw [← HS.out.1]; exact Nat.le_refl _)] at this
      exact this
end Go.Proofs.YtifoledkmjlmoaaDoor
namespace Go.Proofs.YtifoledkmjlmoaaDoor
open Go.RowKit Go.Mix Go.WideMaps

theorem low_cases (x : UInt8) : (x = 0 ∧ isLow x = true) ∨ (x ≠ 0 ∧ x = 10 ∧ isLow x = true) ∨ (x ≠ 0 ∧ x ≠ 10 ∧ x = 13 ∧ isLow x = true) ∨ (x ≠ 0 ∧ x ≠ 10 ∧ x ≠ 13 ∧ isLow x = false) := by
  by_cases h0 : x = 0
  · subst h0; exact .inl ⟨rfl, by decide⟩
  by_cases h1 : x = 10
  · subst h1; exact .inr (.inl ⟨h0, rfl, by decide⟩)
  by_cases h2 : x = 13
  · subst h2; exact .inr (.inr (.inl ⟨h0, h1, rfl, by decide⟩))
  · refine .inr (.inr (.inr ⟨h0, h1, h2, ?_⟩))
    unfold isLow
    simp [h0, h1, h2]
theorem byte_eq (x c : UInt8) : ((x.toNat : Int) == (c.toNat : Int)) = decide (x = c) := by
  rw [Bool.eq_iff_iff, beq_iff_eq, decide_eq_true_eq]
  constructor
  · intro h; exact UInt8.toNat_inj.1 (by omega)
  · rintro rfl; rfl

set_option maxRecDepth 100000 in
set_option maxHeartbeats 4000000 in
theorem refPath_any (s : List UInt8) (hl : s.length ≤ 100000) (w : World) : Calls Tryd.prog 24 #[.string (strOf s)] w fun e w' => e = .returned (.bool (pathL s)) ∧ Below w.heap.size w w' := by
  have CP := parts_any s hl w
  have hpl := splitC_len 47 s
  have hN : pathL s = (decide (s.length ≤ 255) && !s.any isLow && !(splitC 47 s).any badP) := rfl
  obtain ⟨N, hNN⟩ : ∃ N, N = pathL s := ⟨_, rfl⟩
  rw [← hNN] at hN ⊢
  clear hNN
  obtain ⟨n, hn⟩ : ∃ n, n = s.length := ⟨_, rfl⟩
  have hsz : (strOf s).size = n := by rw [strOf_size, hn]
  obtain ⟨P, hP⟩ : ∃ P, P = splitC 47 s := ⟨_, rfl⟩
  rw [← hP] at CP hpl hN
  clear hP
  obtain ⟨S, hS⟩ : ∃ S, S = strOf s := ⟨_, rfl⟩
  rw [← hS] at hsz CP ⊢
  have HN := Lib.hid hN
  have HS := Lib.hid (And.intro hn (And.intro hS hpl))
  have HB := Lib.hid (Below.refl w.heap.size w)
  have hn6 : n ≤ 100000 := by omega
  clear hl hn hS hN hpl
  go_enter Tryd.func24, Tryd.ntmps24
  by_cases h1 : n ≤ 255
  case neg =>
    have t1 : decide ((255 : Int) < (n : Int)) = true := decide_eq_true (by omega)
    have t1' : decide (255 < n) = true := decide_eq_true (by omega)
    obtain rfl : N = false := by rw [HN.out, ← HS.out.1, decide_eq_false h1]; rfl
    clear CP
    go_wp2_with fail
    go_ret
    exact ⟨rfl, HB.out⟩
  have t1 : decide ((255 : Int) < (n : Int)) = false := decide_eq_false (by omega)
  have t1' : decide (255 < n) = false := decide_eq_false (by omega)
  go_wp2_with fail
  clear t1 t1'
  go_loopw [3] (fun s3 wr => ∃ i : Nat, s3 = .int .i64 (i : Int) ∧ i ≤ n ∧ (s.take i).any isLow = false ∧ w = wr) (fun s3 _ => n - (intOf s3).toNat)
  case atStart => exact ⟨0, rfl, Nat.zero_le _, by simp, rfl⟩
  case round =>
    obtain ⟨i, rfl, hi, hno, rfl⟩ := hrel
    have HNO := Lib.hid hno
    clear hno
    by_cases hin : i < n
    · have t1 : decide ((i : Int) < (n : Int)) = true := decide_eq_true (by omega)
      have t1' : decide (i < n) = true := decide_eq_true hin
      have hil : i < s.length := by rw [← HS.out.1]; exact hin
      have IX := fun W : World => str_at Tryd.underlying9 s (i := i) (i : Int) rfl (c := s[i]) (List.getElem?_eq_getElem hil) W
      rw [← HS.out.2.1] at IX
      obtain ⟨x, hx⟩ : ∃ x, x = s[i] := ⟨_, rfl⟩
      have hst : (s.take (i + 1)).any isLow = ((s.take i).any isLow || isLow x) := by rw [List.take_succ_eq_append_getElem hil, List.any_append, ← hx]; simp
      have hmem : x ∈ s := by rw [hx]; exact List.getElem_mem hil
      rw [← hx] at IX
      have q0 := byte_eq x 0
      have q1 := byte_eq x 10
      have q2 := byte_eq x 13
      have HST := Lib.hid (And.intro hst hmem)
      clear hx hst hmem hil
      rcases low_cases x with ⟨c0, hb⟩ | ⟨c0, c1, hb⟩ | ⟨c0, c1, c2, hb⟩ | ⟨c0, c1, c2, hb⟩
      · rw [decide_eq_true c0] at q0
        have r0 : ((x.toNat : Int) == 0) = true := q0
        clear q0 q1 q2 c0
        obtain rfl : N = false := by
          rw [HN.out, show s.any isLow = true from List.any_eq_true.2 ⟨x, HST.out.2, hb⟩, Bool.not_true, Bool.and_false, Bool.false_and]
        clear hb CP
        go_wp2_with (first | (refine wpList_index_at rfl _ _ _ rfl _ _ _ rfl rfl IX ?_) | (refine wpList_unguard rfl ?_; refine wpList_index_at rfl _ _ _ rfl _ _ _ rfl rfl IX ?_))
        go_ret
        exact ⟨rfl, HB.out⟩
      · rw [decide_eq_false c0] at q0
        rw [decide_eq_true c1] at q1
        have r0 : ((x.toNat : Int) == 0) = false := q0
        have r1 : ((x.toNat : Int) == 10) = true := q1
        clear q0 q1 q2 c0 c1
        obtain rfl : N = false := by
          rw [HN.out, show s.any isLow = true from List.any_eq_true.2 ⟨x, HST.out.2, hb⟩, Bool.not_true, Bool.and_false, Bool.false_and]
        clear hb CP
        go_wp2_with (first | (refine wpList_index_at rfl _ _ _ rfl _ _ _ rfl rfl IX ?_) | (refine wpList_unguard rfl ?_; refine wpList_index_at rfl _ _ _ rfl _ _ _ rfl rfl IX ?_))
        go_ret
        exact ⟨rfl, HB.out⟩
      · rw [decide_eq_false c0] at q0
        rw [decide_eq_false c1] at q1
        rw [decide_eq_true c2] at q2
        have r0 : ((x.toNat : Int) == 0) = false := q0
        have r1 : ((x.toNat : Int) == 10) = false := q1
        have r2 : ((x.toNat : Int) == 13) = true := q2
        clear q0 q1 q2 c0 c1 c2
        obtain rfl : N = false := by
          rw [HN.out, show s.any isLow = true from List.any_eq_true.2 ⟨x, HST.out.2, hb⟩, Bool.not_true, Bool.and_false, Bool.false_and]
        clear hb CP
        go_wp2_with (first | (refine wpList_index_at rfl _ _ _ rfl _ _ _ rfl rfl IX ?_) | (refine wpList_unguard rfl ?_; refine wpList_index_at rfl _ _ _ rfl _ _ _ rfl rfl IX ?_))
        go_ret
        exact ⟨rfl, HB.out⟩
      · rw [decide_eq_false c0] at q0
        rw [decide_eq_false c1] at q1
        rw [decide_eq_false c2] at q2
        have r0 : ((x.toNat : Int) == 0) = false := q0
        have r1 : ((x.toNat : Int) == 10) = false := q1
        have r2 : ((x.toNat : Int) == 13) = false := q2
        clear q0 q1 q2 c0 c1 c2
        have HX := Lib.hid (show (s.take (i + 1)).any isLow = false by rw [HST.out.1, HNO.out, hb]; rfl)
        clear hb CP
        go_wp2_with (first | (refine wpList_index_at rfl _ _ _ rfl _ _ _ rfl rfl IX ?_) | (refine wpList_unguard rfl ?_; refine wpList_index_at rfl _ _ _ rfl _ _ _ rfl rfl IX ?_))
        go_roundw
        case rel => exact ⟨i + 1, by go_num, by omega, HX.out, by first | rfl | trivial⟩
        case measure => simp [intOf]; omega
    · obtain rfl : i = n := by omega
      have t1 : decide ((i : Int) < (i : Int)) = false := decide_eq_false (by omega)
      have t1' : decide (i < i) = false := decide_eq_false (by omega)
      have hlow : s.any isLow = false := by
        have := HNO.out
        rw [List.take_of_length_le (by rw [← HS.out.1]; exact Nat.le_refl _)] at this
        exact this
      have hN2 : N = !P.any badP := by rw [HN.out, hlow, ← HS.out.1, decide_eq_true h1]; rfl
      have HN2 := Lib.hid hN2
      clear hN2 hlow
      go_wp2_with fail
      refine Calls.mono CP ?_
      rintro e w5 ⟨v5, rfl, hown⟩
      obtain ⟨a5, c5, rfl, hrs5, -⟩ := hown.rs1 tyS
      obtain ⟨m, hm⟩ : ∃ m, m = P.length := ⟨_, rfl⟩
      rw [← hm]
      have HP := Lib.hid (And.intro hrs5 (And.intro hm hown.frame))
      have hm6 : m ≤ 1000 := by have := HS.out.2.2; have := HS.out.1; omega
      clear hown hrs5 hm CP t1 t1'
      go_wp2_with fail
      go_loopw [5] (fun s5 wr => ∃ j : Nat, s5 = .int .i64 (j : Int) ∧ j ≤ m ∧ (P.take j).any badP = false ∧ w5 = wr) (fun s5 _ => m - (intOf s5).toNat)
      case atStart => exact ⟨0, rfl, Nat.zero_le _, by simp, rfl⟩
      case round =>
        obtain ⟨j, rfl, hj, hno, rfl⟩ := hrel
        have HNO := Lib.hid hno
        clear hno
        by_cases hjm : j < m
        · have t1 : decide ((j : Int) < (m : Int)) = true := decide_eq_true (by omega)
          have t1' : decide (j < m) = true := decide_eq_true hjm
          have hjl : j < P.length := by rw [← HP.out.2.1]; exact hjm
          obtain ⟨b, q, IX, -, L⟩ := HP.out.1.at1 tyS (j : Int) j rfl hjl
          rw [← HP.out.2.1] at IX
          have L0 := L w5 (Below.refl _ _)
          obtain ⟨x, hx⟩ : ∃ x, x = P[j]! := ⟨_, rfl⟩
          rw [← hx] at L0
          have hst : (P.take (j + 1)).any badP = ((P.take j).any badP || badP x) := by rw [List.take_succ_eq_append_getElem hjl, List.any_append, hx, getElem!_pos P j hjl]; simp
          have hmem : x ∈ P := by rw [hx, getElem!_pos P j hjl]; exact List.getElem_mem hjl
          have q0 := empty_text x
          have q1 := eq_text x [46]
          have q2 := eq_text x [46, 46]
          have hbd : badP x = (decide (x = []) || decide (x = [46]) || decide (x = [46, 46])) := rfl
          have hbt : badP x = true → P.any badP = true := fun h => List.any_eq_true.2 ⟨x, hmem, h⟩
          have HST := Lib.hid (And.intro hst hmem)
          have HBT := Lib.hid hbt
          clear hbt
          unfold strV at L0
          clear L hx hst hmem hjl
          generalize badP x = B at *
          generalize strOf x = X at *
          generalize decide (x = []) = b0 at *
          generalize decide (x = [46]) = b1 at *
          generalize decide (x = [46, 46]) = b2 at *
          have HBD := Lib.hid hbd
          clear hbd
          cases b0
          · cases b1
            · cases b2
              · have HX := Lib.hid (show (P.take (j + 1)).any badP = false by rw [HST.out.1, HNO.out, HBD.out]; rfl)
                go_wp2_with (first | (refine wpList_load_at rfl _ _ rfl _ _ rfl L0 ?_) | (refine wpList_unguard rfl ?_; refine wpList_load_at rfl _ _ rfl _ _ rfl L0 ?_))
                go_roundw
                case rel => exact ⟨j + 1, by go_num, by omega, HX.out, by first | rfl | trivial⟩
                case measure => simp [intOf]; omega
              · obtain rfl : N = false := by
                  rw [HN2.out, show P.any badP = true from HBT.out (by rw [HBD.out]; first | rfl | (rw [Bool.or_true]) | simp)]; rfl
                go_wp2_with (first | (refine wpList_load_at rfl _ _ rfl _ _ rfl L0 ?_) | (refine wpList_unguard rfl ?_; refine wpList_load_at rfl _ _ rfl _ _ rfl L0 ?_))
                go_ret
                exact ⟨rfl, HP.out.2.2⟩
            · obtain rfl : N = false := by
                rw [HN2.out, show P.any badP = true from HBT.out (by rw [HBD.out]; first | rfl | (rw [Bool.or_true]) | simp)]; rfl
              go_wp2_with (first | (refine wpList_load_at rfl _ _ rfl _ _ rfl L0 ?_) | (refine wpList_unguard rfl ?_; refine wpList_load_at rfl _ _ rfl _ _ rfl L0 ?_))
              go_ret
              exact ⟨rfl, HP.out.2.2⟩
          · obtain rfl : N = false := by
              rw [HN2.out, show P.any badP = true from HBT.out (by rw [HBD.out]; first | rfl | (rw [Bool.or_true]) | simp)]; rfl
            go_wp2_with (first | (refine wpList_load_at rfl _ _ rfl _ _ rfl L0 ?_) | (refine wpList_unguard rfl ?_; refine wpList_load_at rfl _ _ rfl _ _ rfl L0 ?_))
            go_ret
            exact ⟨rfl, HP.out.2.2⟩
        · obtain rfl : j = m := by omega
          have t1 : decide ((j : Int) < (j : Int)) = false := decide_eq_false (by omega)
          have t1' : decide (j < j) = false := decide_eq_false (by omega)
          have hbad : P.any badP = false := by
            have := HNO.out
            rw [List.take_of_length_le (by rw [← HP.out.2.1]; exact Nat.le_refl _)] at this
            exact this
          obtain rfl : N = true := by rw [HN2.out, hbad]; rfl
          clear hbad
          go_wp2_with fail
          go_ret
          exact ⟨rfl, HP.out.2.2⟩
end Go.Proofs.YtifoledkmjlmoaaDoor
