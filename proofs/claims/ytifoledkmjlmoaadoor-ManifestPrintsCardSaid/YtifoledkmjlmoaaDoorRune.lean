/-
  strings.IndexRune at a rune beyond ASCII in a text of three ASCII bytes: the walk.
-/
import Derived.Test.YtifoledkmjlmoaaDoorStrOps
import Derived.Test.YtifoledkmjlmoaaDoorShelfT
import Derived.Test.YtifoledkmjlmoaaDoorMixG
import Derived.Laws.RangeString
import Derived.Laws.Strings3
import Derived.Laws.Runes
import Derived.WalkMore
namespace Go.Proofs.YtifoledkmjlmoaaDoor
open Go.RowKit Go.Mix Go.WideMaps

set_option maxRecDepth 100000 in
set_option maxHeartbeats 2000000 in
theorem rune_err (w : World) : Calls Tryd.prog 77 #[.string ⟨#[0, 10, 13]⟩, .int .i32 65533] w fun e w' => e = .returned (.int .i64 (-1)) ∧ Below w.heap.size w w' := by
  have hb : ∀ p, Below w.heap.size w (w.iter ⟨#[0, 10, 13]⟩ p) := fun p => (Below.refl _ _).alloc (Nat.le_refl _) _
  have HB := Lib.hid hb
  clear hb
  have HN := fun ty => run_next_ascii (P := Tryd.prog) w ⟨#[0, 10, 13]⟩ 0 ty (by decide) (by decide)
  have HN1 := fun ty => run_next_ascii (P := Tryd.prog) w ⟨#[0, 10, 13]⟩ 1 ty (by decide) (by decide)
  have HN2 := fun ty => run_next_ascii (P := Tryd.prog) w ⟨#[0, 10, 13]⟩ 2 ty (by decide) (by decide)
  have HN3 := fun ty => run_next_end (P := Tryd.prog) w ⟨#[0, 10, 13]⟩ 3 ty (by decide)
  go_enter Tryd.func77, Tryd.ntmps77
  go_wp2_with fail
  go_loopg [5, 6] 3 (fun g _ _ wx => ∃ i : Nat, i + g = 3 ∧ wx = w.iter ⟨#[0, 10, 13]⟩ i)
  case atStart => exact ⟨0, rfl, rfl⟩
  case round =>
    obtain ⟨i, hig, rfl⟩ := hrel
    rcases (show (i = 3 ∧ gk = 0) ∨ (i = 2 ∧ gk = 1) ∨ (i = 1 ∧ gk = 2) ∨ (i = 0 ∧ gk = 3) by omega) with ⟨rfl, rfl⟩ | ⟨rfl, rfl⟩ | ⟨rfl, rfl⟩ | ⟨rfl, rfl⟩
    · clear HN HN1 HN2
      go_wp2_with fail
      go_ret
      exact ⟨rfl, HB.out 3⟩
    · clear HN HN1 HN3
      go_wp2_with fail
      go_roundg 0
      case measure => omega
      case rel => exact ⟨3, rfl, rfl⟩
    · clear HN HN2 HN3
      go_wp2_with fail
      go_roundg 1
      case measure => omega
      case rel => exact ⟨2, rfl, rfl⟩
    · clear HN1 HN2 HN3
      go_wp2_with fail
      go_roundg 2
      case measure => omega
      case rel => exact ⟨1, rfl, rfl⟩

theorem idx_13 : ∀ c : Fin 256, 128 ≤ c.val → Lib.indexByte (ByteArray.extract ⟨#[0, 10, 13]⟩ 2 3).data.toList (UInt8.ofNat c.val) = -1 := by decide +kernel
theorem idx_14 : ∀ c : Fin 256, 128 ≤ c.val → Lib.indexByte (ByteArray.extract ⟨#[0, 10, 13]⟩ 3 3).data.toList (UInt8.ofNat c.val) = -1 := by decide +kernel

set_option maxRecDepth 100000 in
set_option maxHeartbeats 2000000 in
theorem rune_high (r : Int) (h0 : 128 ≤ r) (he : r ≠ 65533) (w : World) : Calls Tryd.prog 77 #[.string ⟨#[0, 10, 13]⟩, .int .i32 r] w fun e w' => e = .returned (.int .i64 (-1)) ∧ Below w.heap.size w w' := by
  have t1 : ¬ r < 128 := by omega
  have t2 : (r == 65533) = false := by rw [beq_eq_false_iff_ne]; exact he
  have hb := Below.refl w.heap.size w
  have HB := Lib.hid hb
  have C0 := fun W => Tryd.utf8_ValidRune r W
  clear hb
  cases hv : Lib.validRune r
  · rw [hv] at C0
    clear hv he h0
    go_enter Tryd.func77, Tryd.ntmps77
    go_wp2_with (go_at_call 91; refine (C0 _).mono ?_; rintro e w' ⟨rfl, rfl⟩)
    go_ret
    exact ⟨rfl, HB.out⟩
  · obtain ⟨k2, k4, kb⟩ := encode_facts r (by rw [validRune_eq]; exact hv) h0
    have A : ∀ W, (convert 21 9 (.int .i32 r)).run Tryd.prog W = .ok (.string (Utf8.encode r)) W := fun W => run_convert_int_string W _ _ _ r (by rw [Tryd.underlying21]; rfl) Tryd.underlying9
    generalize Utf8.encode r = R at *
    rw [hv] at C0
    clear hv he h0
    go_enter Tryd.func77, Tryd.ntmps77
    go_wp2_with (go_at_call 91; refine (C0 _).mono ?_; rintro e w' ⟨rfl, rfl⟩)
    go_step3
    go_wp2_with fail
    have C1 := fun s c W => Tryd.strings_IndexByte s c W
    go_loopw [9, 10] (fun s9 _ wr => s9 = .int .i64 ((R.size : Int) - 1) ∧ wr = w') (fun _ _ _ => 0)
    case atStart => exact ⟨rfl, rfl⟩
    case round =>
      obtain ⟨rfl, rfl⟩ := hrel
      by_cases h2 : R.size = 2
      · have hs : 1 < R.size := by omega
        have h8 : 128 ≤ (R[1]).toNat := by
          have := kb (by omega)
          simpa only [h2] using this
        obtain ⟨c, hc⟩ : ∃ c, c = (R[1]).toNat := ⟨_, rfl⟩
        have hlt : c < 256 := by rw [hc]; exact (R[1]).toNat_lt
        rw [← hc] at h8
        have hI : ∀ W : World, (Instr.index 9 (.string R) (.int .i64 1)).run Tryd.prog W = .ok (.int .u8 (c : Int)) W := fun W => by
          rw [run_index_string _ _ _ _ _ Tryd.underlying9, dif_pos (by omega), hc]
          rfl
        have hk : ((10 : Int) == (c : Int)) = false := by rw [beq_eq_false_iff_ne]; omega
        have hI2 : ∀ W : World, (Instr.index 9 (.string ⟨#[0, 10, 13]⟩) (.int .i64 1)).run Tryd.prog W = .ok (.int .u8 10) W := fun W => by
          rw [run_index_string _ _ _ _ _ Tryd.underlying9, dif_pos (by decide)]
          rfl
        have hz : (R.size : Int) - 1 = 1 := by omega
        have hz2 : (R.size : Int) = 2 := by omega
        have C1c : ∀ W, Calls Tryd.prog 44 #[.string (ByteArray.extract ⟨#[0, 10, 13]⟩ 2 3), .int .u8 (c : Int)] W fun e w' => e = .returned (.int .i64 (-1)) ∧ W = w' := fun W => (C1 _ (c : Int) W).mono fun e w' ⟨h1, h2⟩ => ⟨by rw [h1]; exact congrArg (fun z => Ending.returned (.int .i64 z)) (idx_13 ⟨c, hlt⟩ h8), h2.symm⟩
        simp only [hz2]
        clear hc kb hs hz hz2 h2 k2 k4 h8 hlt C1
        go_wp2_with fail
        go_step3
        go_wp2_with fail
        go_region
        go_wp2_with fail
        have W2 : IntKind.i64.wrap 2 = 2 := by decide
        have W3 : Int.toNat 2 = 2 := rfl
        clear hk
        refine wp_region_mg [(0, 0), (1, 0), (2, 0), (3, 0), (4, 0), (5, 0), (6, 0), (7, 0), (8, 0)] (by kernel_rfl) (by kernel_rfl) ?_
        iterate 7 (refine mg_calm rfl (fun K hK => ?_); go_simp; (first | (refine hK _ ?_) | (apply Exists.intro; refine ⟨fun z => ⟨rfl, rfl⟩, hK _ ?_⟩)); clear hK K)
        refine mg_calm rfl (fun K hK => ?_)
        go_simp
        apply Exists.intro
        refine ⟨fun z => calls_calm (C1c z.1), hK _ ?_⟩
        clear hK K
        refine mg_calm rfl (fun K hK => ?_); go_simp; (refine hK _ ?_; clear hK K)
        refine mg_nil fun w7 hw7 => ?_
        have HB7 := Lib.hid (HB.out.drew.trans (Below.mono hw7 HB.out.size))
        clear hw7 C1c
        go_wp2_with fail
        rw [Exit.noGoto_ret]
        dsimp +zetaDelta only [Exit.inBlock, Exit.then, Exit.noGoto]
        go_ret
        exact ⟨rfl, HB7.out⟩
      by_cases h2 : R.size = 3
      · have hs : 2 < R.size := by omega
        have h8 : 128 ≤ (R[2]).toNat := by
          have := kb (by omega)
          simpa only [h2] using this
        obtain ⟨c, hc⟩ : ∃ c, c = (R[2]).toNat := ⟨_, rfl⟩
        have hlt : c < 256 := by rw [hc]; exact (R[2]).toNat_lt
        rw [← hc] at h8
        have hI : ∀ W : World, (Instr.index 9 (.string R) (.int .i64 2)).run Tryd.prog W = .ok (.int .u8 (c : Int)) W := fun W => by
          rw [run_index_string _ _ _ _ _ Tryd.underlying9, dif_pos (by omega), hc]
          rfl
        have hk : ((13 : Int) == (c : Int)) = false := by rw [beq_eq_false_iff_ne]; omega
        have hI2 : ∀ W : World, (Instr.index 9 (.string ⟨#[0, 10, 13]⟩) (.int .i64 2)).run Tryd.prog W = .ok (.int .u8 13) W := fun W => by
          rw [run_index_string _ _ _ _ _ Tryd.underlying9, dif_pos (by decide)]
          rfl
        have hz : (R.size : Int) - 1 = 2 := by omega
        have hz2 : (R.size : Int) = 3 := by omega
        have C1c : ∀ W, Calls Tryd.prog 44 #[.string (ByteArray.extract ⟨#[0, 10, 13]⟩ 3 3), .int .u8 (c : Int)] W fun e w' => e = .returned (.int .i64 (-1)) ∧ W = w' := fun W => (C1 _ (c : Int) W).mono fun e w' ⟨h1, h2⟩ => ⟨by rw [h1]; exact congrArg (fun z => Ending.returned (.int .i64 z)) (idx_14 ⟨c, hlt⟩ h8), h2.symm⟩
        simp only [hz2]
        clear hc kb hs hz hz2 h2 k2 k4 h8 hlt C1
        go_wp2_with fail
        go_step3
        go_wp2_with fail
        go_region
        go_wp2_with fail
        have W2 : IntKind.i64.wrap 3 = 3 := by decide
        have W3 : Int.toNat 3 = 3 := rfl
        clear hk
        refine wp_region_mg [(0, 0), (1, 0), (2, 0), (3, 0), (4, 0), (5, 0), (6, 0), (7, 0), (8, 0)] (by kernel_rfl) (by kernel_rfl) ?_
        iterate 7 (refine mg_calm rfl (fun K hK => ?_); go_simp; (first | (refine hK _ ?_) | (apply Exists.intro; refine ⟨fun z => ⟨rfl, rfl⟩, hK _ ?_⟩)); clear hK K)
        refine mg_calm rfl (fun K hK => ?_)
        go_simp
        apply Exists.intro
        refine ⟨fun z => calls_calm (C1c z.1), hK _ ?_⟩
        clear hK K
        refine mg_calm rfl (fun K hK => ?_); go_simp; (refine hK _ ?_; clear hK K)
        refine mg_nil fun w7 hw7 => ?_
        have HB7 := Lib.hid (HB.out.drew.trans (Below.mono hw7 HB.out.size))
        clear hw7 C1c
        go_wp2_with fail
        rw [Exit.noGoto_ret]
        dsimp +zetaDelta only [Exit.inBlock, Exit.then, Exit.noGoto]
        go_ret
        exact ⟨rfl, HB7.out⟩
      have h3 : ¬ ((R.size : Int) - 1 < 3) := by omega
      clear kb h2
      go_wp2_with fail
      go_ret
      exact ⟨rfl, HB.out⟩
end Go.Proofs.YtifoledkmjlmoaaDoor
