/-
  The laws DeltaRooms, DeltaSame, walked.
-/
import Derived.Test.YtnppjhkhfjpkfaaDeltaMakesWalk
namespace Go.Proofs.Ytnppjhkhfjpkfaa
open Go.RowKit Go.Mix

theorem apply_short (base target : List UInt8) (hbl : base.length < 4294967296) (htl : target.length < 4294967296) : applyOf base (makeOf base target) ((target.length : Int) - 1) = ([], 2) := by
  have h := sizes_make base target [] hbl htl
  rw [List.append_nil] at h
  unfold applyOf
  rw [h]
  simp only [ne_eq, not_true_eq_false, if_false]
  rw [if_pos (by omega)]

theorem apply_other (base base' target : List UInt8) (most : Int) (hbl : base.length < 4294967296) (htl : target.length < 4294967296) (hne : base.length ≠ base'.length) : applyOf base' (makeOf base target) most = ([], 4) := by
  have h := sizes_make base target [] hbl htl
  rw [List.append_nil] at h
  unfold applyOf
  rw [h]
  simp only [ne_eq, not_true_eq_false, if_false]
  rw [if_pos hne]

theorem apply_more (base target x : List UInt8) (n : Nat) (hbl : base.length < 4294967296) (htl : target.length < 4294967296)
    (hx : ∀ f, x.length < f → steps base target.length f x target = ([], n)) : applyOf base (makeOf base target ++ x) target.length = ([], n) := by
  obtain ⟨f, hf, e⟩ := apply_make_more base target x target.length hbl htl (by omega)
  rw [e]; exact hx f hf

theorem more_one (base target : List UInt8) (m : UInt8) : ∀ f, ([1, m] : List UInt8).length < f → steps base target.length f [1, m] target = ([], 4) := by
  intro f hf
  obtain ⟨f, rfl⟩ : ∃ g, f = g + 1 := ⟨f - 1, by simp at hf; omega⟩
  rw [steps_cons]
  simp
theorem more_nought (base target : List UInt8) : ∀ f, ([0] : List UInt8).length < f → steps base target.length f [0] target = ([], 4) := by
  intro f hf
  obtain ⟨f, rfl⟩ : ∃ g, f = g + 1 := ⟨f - 1, by simp at hf; omega⟩
  rw [steps_cons]
  simp
theorem more_two (base target : List UInt8) (m : UInt8) : ∀ f, ([2, m] : List UInt8).length < f → steps base target.length f [2, m] target = ([], 3) := by
  intro f hf
  obtain ⟨f, rfl⟩ : ∃ g, f = g + 1 := ⟨f - 1, by simp at hf; omega⟩
  rw [steps_cons]
  simp

theorem byte_of_int {n : Int} (h : (Lit.int .u8 n).wf = true) : ∃ b : UInt8, n = (b.toNat : Int) := by
  simp [Lit.wf, IntKind.min, IntKind.max, IntKind.signed, IntKind.bits] at h
  exact ⟨UInt8.ofNat n.toNat, by simp; omega⟩

set_option maxRecDepth 100000 in
set_option maxHeartbeats 4000000 in
theorem deltaRooms_walk (a : Option Addr) (len cap : Nat) (zs : List Int) (a' : Option Addr) (len' cap' : Nat) (zs' : List Int) (more : Int) (w : World)
    (h : RowIn w a len cap zs) (h' : RowIn w a' len' cap' zs') (hw : (Lit.int .u8 more).wf = true) :
    Calls Try.prog 5 #[.slice a len cap, .slice a' len' cap', .int .u8 more] w fun e w' => e = .returned (.bool true) ∧ Below w.heap.size w w' := by
  obtain ⟨m, rfl⟩ := byte_of_int hw
  obtain ⟨L, rfl, hL⟩ := open_sl h
  obtain ⟨L', rfl, hL'⟩ := open_sl h'
  obtain ⟨l, -, hl, hs, hf⟩ := few_sl a cap L w hL
  obtain ⟨l', -, hl', hs', hf'⟩ := few_sl a' cap' L' w hL'
  have R1 := Lib.hid (apply_short l l' (by omega) (by omega))
  have R2 := Lib.hid (apply_other l (l ++ [120]) l' l'.length (by omega) (by omega) (by simp))
  have R3 := Lib.hid (apply_more l l' [1, m] 4 (by omega) (by omega) (more_one l l' m))
  have R4 := Lib.hid (apply_more l l' [0] 4 (by omega) (by omega) (more_nought l l'))
  have R5 := Lib.hid (apply_more l l' [2, m] 3 (by omega) (by omega) (more_two l l' m))
  have hsm := make_small l l' hl hl'
  clear h h' hw
  go_enter Try.func5, Try.ntmps5
  go_wp2_with fail
  refine (hf _).mono ?_
  rintro e w' ⟨rfl, rfl⟩
  go_wp2_with fail
  refine (hf' _).mono ?_
  rintro e w' ⟨rfl, rfl⟩
  clear hf hf'
  go_wp2_with fail
  refine (make_sl hs hs' (by omega) (by omega)).mono ?_
  rintro e w1 ⟨ad, cd, rfl, hd, g1⟩
  have hs1 := hs.below g1
  clear hs hs'
  generalize makeOf l l' = d at *
  go_wp2_with fail
  refine (apply_sl hs1 hd R1.out (by omega) (by omega) (by omega) (by omega)).mono ?_
  rintro e w2 ⟨a2, c2, rfl, -, g2⟩
  have hs2 := hs1.below g2
  have hd2 := hd.below g2
  have G2 := g1.trans (g2.mono g1.size)
  clear hs1 hd g1 g2
  go_wp2_with (first
    | (at_builtin; refine wpList_append_buf rfl (.tmp 35) (.tmp 36) rfl _ [] rfl (Buf.made (Below.refl _ _) (Nat.le_refl _)) a cap l rfl (hs2.bs.below ((Below.refl _ _).alloc (Nat.le_refl _) _)) hs2.non (by simp; omega) ?_; intro v3 w3 hb3 hgr3)
    | (at_builtin; refine wpList_append_one rfl (.tmp 37) (.tmp 38) rfl v3 _ rfl hb3 120 120 rfl rfl (by simp; omega) ?_; intro v4 w4 hb4 hgr4; obtain ⟨a4, c4, hv4, hs4⟩ := hb4.1.sl; subst hv4))
  have g4 := hb4.2.1
  rw [List.nil_append] at hs4
  have e4 : (l ++ [120]).length = l.length + 1 := by simp
  rw [show l.length + 1 = (l ++ [120]).length from e4.symm]
  refine (apply_sl hs4 (hd2.below g4) R2.out (by rw [e4]; omega) (by omega) (by omega) (by omega)).mono ?_
  rintro e w5 ⟨a5, c5, rfl, -, g5⟩
  have g25 := g4.trans (g5.mono g4.size)
  have hs5 := hs2.below g25
  have hd5 := hd2.below g25
  have G5 := G2.trans (g25.mono G2.size)
  clear hs2 hd2 G2 g25 g5 g4 hs4 e4 hgr4 hb4 hgr3 hb3
  go_wp2_with (first
    | (at_builtin; refine wpList_append_buf rfl (.tmp 48) (.tmp 49) rfl _ [] rfl (Buf.made (Below.refl _ _) (Nat.le_refl _)) ad cd d rfl (hd5.bs.below ((Below.refl _ _).alloc (Nat.le_refl _) _)) hd5.non (by simp; omega) ?_; intro v3 w3 hb3 hgr3)
    | (at_builtin; refine wpList_append_new rfl (.tmp 50) (.tmp 52) rfl v3 _ rfl hb3 #[.int .u8 1, .int .u8 (m.toNat : Int)] [1, m] rfl 2 2 rfl rfl (by simp; omega) ?_; intro v4 w4 hb4 hgr4; obtain ⟨a4, c4, hv4, hs4⟩ := hb4.1.sl; subst hv4))
  have g4 := hb4.2.1
  rw [List.nil_append] at hs4
  rw [show d.length + 2 = (d ++ [1, m]).length from by simp]
  refine (apply_sl (hs5.below g4) hs4 R3.out (by omega) (by simp; omega) (by omega) (by omega)).mono ?_
  rintro e w6 ⟨a6, c6, rfl, -, g6⟩
  have g56 := g4.trans (g6.mono g4.size)
  have hs6 := hs5.below g56
  have hd6 := hd5.below g56
  have G6 := G5.trans (g56.mono G5.size)
  clear hs5 hd5 G5 g56 g6 g4 hs4 hgr4 hb4 hgr3 hb3
  go_wp2_with (first
    | (at_builtin; refine wpList_append_buf rfl (.tmp 61) (.tmp 62) rfl _ [] rfl (Buf.made (Below.refl _ _) (Nat.le_refl _)) ad cd d rfl (hd6.bs.below ((Below.refl _ _).alloc (Nat.le_refl _) _)) hd6.non (by simp; omega) ?_; intro v3 w3 hb3 hgr3)
    | (at_builtin; refine wpList_append_new rfl (.tmp 63) (.tmp 64) rfl v3 _ rfl hb3 #[.int .u8 0] [0] rfl 1 1 rfl rfl (by simp; omega) ?_; intro v4 w4 hb4 hgr4; obtain ⟨a4, c4, hv4, hs4⟩ := hb4.1.sl; subst hv4))
  have g4 := hb4.2.1
  rw [List.nil_append] at hs4
  rw [show d.length + 1 = (d ++ [0]).length from by simp]
  refine (apply_sl (hs6.below g4) hs4 R4.out (by omega) (by simp; omega) (by omega) (by omega)).mono ?_
  rintro e w7 ⟨a7, c7, rfl, -, g7⟩
  have g67 := g4.trans (g7.mono g4.size)
  have hs7 := hs6.below g67
  have hd7 := hd6.below g67
  have G7 := G6.trans (g67.mono G6.size)
  clear hs6 hd6 G6 g67 g7 g4 hs4 hgr4 hb4 hgr3 hb3
  go_wp2_with (first
    | (at_builtin; refine wpList_append_buf rfl (.tmp 73) (.tmp 74) rfl _ [] rfl (Buf.made (Below.refl _ _) (Nat.le_refl _)) ad cd d rfl (hd7.bs.below ((Below.refl _ _).alloc (Nat.le_refl _) _)) hd7.non (by simp; omega) ?_; intro v3 w3 hb3 hgr3)
    | (at_builtin; refine wpList_append_new rfl (.tmp 75) (.tmp 77) rfl v3 _ rfl hb3 #[.int .u8 2, .int .u8 (m.toNat : Int)] [2, m] rfl 2 2 rfl rfl (by simp; omega) ?_; intro v4 w4 hb4 hgr4; obtain ⟨a4, c4, hv4, hs4⟩ := hb4.1.sl; subst hv4))
  have g4 := hb4.2.1
  rw [List.nil_append] at hs4
  rw [show d.length + 2 = (d ++ [2, m]).length from by simp]
  refine (apply_sl (hs7.below g4) hs4 R5.out (by omega) (by simp; omega) (by omega) (by omega)).mono ?_
  rintro e w8 ⟨a8, c8, rfl, -, g8⟩
  have g78 := g4.trans (g8.mono g4.size)
  have G8 := G7.trans (g78.mono G7.size)
  clear hs7 hd7 G7 g78 g8 g4 hs4 hgr4 hb4 hgr3 hb3
  go_wp2_with fail
  refine (known_any _).mono ?_
  rintro e w9 ⟨rfl, g9⟩
  have G9 := G8.trans (g9.mono G8.size)
  go_wp2_with fail
  go_ret
  exact ⟨rfl, G9⟩

end Go.Proofs.Ytnppjhkhfjpkfaa
