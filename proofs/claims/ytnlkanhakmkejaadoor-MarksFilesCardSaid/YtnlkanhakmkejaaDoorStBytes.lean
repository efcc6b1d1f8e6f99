/-
  slices.Clone, slices.Grow, slices.Concat of two, at bytes; a change of a file's bytes: the walks.
-/
import Derived.Test.YtnlkanhakmkejaaDoorStFree
import Derived.Lib.AppendZeros
import Derived.Lib.LazyBuf
namespace Go.Proofs.YtnlkanhakmkejaaDoor
open Go.RowKit Go.Mix Go.WideMaps Go.Maps

set_option maxRecDepth 100000 in
theorem clone_any {w : World} {a : Option Addr} {c n : Nat} {l : Bytes} (h : Sl w a c l) (hn : n = l.length) (hl : l.length ≤ 100000000000000) :
    Calls Tryd.prog 38 #[.slice a n c] w fun e w' => ∃ v, e = .returned v ∧ Buf w.heap.size w w' v l := by
  have NE := fun W => Lib.run_eql_slice_nil (P := Tryd.prog) W 51 5 a n c 0 0 Tryd.underlying51
  cases a with
  | none =>
    have e0 : l = [] := by rcases h.bs with h | ⟨b, off, h, _⟩; exact h; simp at h
    obtain rfl := h.non rfl
    rw [e0] at hn
    obtain rfl : n = 0 := hn
    clear h hl
    go_enter Tryd.func38, Tryd.ntmps38
    go_wp2_with fail
    go_ret
    exact ⟨_, rfl, by rw [e0]; exact Buf.nil (Below.refl _ _) (Nat.le_refl _)⟩
  | some x =>
    have HB := Buf.made (B := w.heap.size) (Below.refl _ w) (Nat.le_refl _)
    have HS := Lib.hid (h.below ((Below.refl w.heap.size w).alloc (Nat.le_refl _) (.cells #[] 5)))
    clear h
    subst hn
    go_enter Tryd.func38, Tryd.ntmps38
    go_wp2_with (first | (at_builtin; refine wpList_append_buf rfl _ _ rfl _ [] rfl HB _ c l rfl HS.out.bs HS.out.non (by simp; omega) ?_; intro v w1 hb1 hg1))
    go_ret
    exact ⟨_, rfl, by simpa using hb1⟩

set_option maxRecDepth 100000 in
theorem grow_any (w : World) (n : Nat) (hn : n ≤ 100000000000000) : Calls Tryd.prog 65 #[.slice none 0 0, .int .i64 (n : Int)] w fun e w' => ∃ v, e = .returned v ∧ Buf w.heap.size w w' v [] := by
  by_cases h0 : n = 0
  · subst h0
    go_enter Tryd.func65, Tryd.ntmps65
    go_wp2_with fail
    go_ret
    exact ⟨_, rfl, Buf.nil (Below.refl _ _) (Nat.le_refl _)⟩
  · obtain ⟨i, hi, hz0, hz1, hz2⟩ := info_parts infoByte
    have hge := grownCap_ge w n 0 5
    have hle := grownCap_le_maxLen w n 0 5 (by unfold maxLen; omega)
    have AP := fun ty => Lib.run_append_nil_zeros (P := Tryd.prog) w 51 3 ty 5 i (.int .u8 0) .i64 .i64 Tryd.underlying51 Tryd.underlying3 hi hz0 n (by omega) (by rw [hz1]; decide) (by omega) (by rw [hz2]; omega)
    obtain ⟨cp, hcp⟩ : ∃ cp, cp = grownCap w n 0 5 := ⟨_, rfl⟩
    obtain ⟨C, hC⟩ : ∃ C, C = (Builtin.zeroCells (Value.int .u8 0).cells n ++ Builtin.zeroCells (Value.int .u8 0).cells (cp - n)) := ⟨_, rfl⟩
    have hCs : C.size = cp := by rw [hC]; simp [Builtin.zeroCells, Value.cells]; omega
    rw [← hcp] at AP hge hle
    rw [← hC] at AP
    unfold maxLen at hle
    have HH := Lib.hid (And.intro hCs (And.intro hge hle))
    have hpos : (0 : Int) < (n : Int) := by omega
    have hg : Below w.heap.size w (w.drew.alloc (.cells C 5)) := ((Below.refl _ _).drew).alloc (by simp) _
    have hb : (w.drew.alloc (.cells C 5)).heap[w.heap.size]? = some (.cells C 5 (0, 0)) := heap_alloc_last w.drew _ _ rfl
    have HW := Lib.hid (And.intro hg hb)
    have SL : ∀ W : World, (Instr.slice 51 (.slice (some ⟨w.heap.size, 0, none⟩) n cp) none (some (.int .i64 ((0 : Nat) : Int))) none).run Tryd.prog W = .ok (.slice (some ⟨w.heap.size, 0, none⟩) 0 cp) W := fun W => run_slice_to 51 Tryd.underlying51 (some ⟨w.heap.size, 0, none⟩) n cp 0 (by omega) (fun h => nomatch h) sizeOf_u8 W
    have SL2 : ∀ W : World, (Instr.slice 51 (.slice none 0 0) none (some (.int .i64 ((0 : Nat) : Int))) none).run Tryd.prog W = .ok (.slice none 0 0) W := fun W => run_slice_to 51 Tryd.underlying51 none 0 0 0 (by omega) (fun _ => rfl) sizeOf_u8 W
    clear hi hz0 hz1 hz2 hcp hC hCs hge hle hg hb h0
    go_enter Tryd.func65, Tryd.ntmps65
    go_wp2_with (first | (at_builtin; refine Lib.wpList_append_run _ rfl _ _ _ _ rfl _ _ rfl rfl _ _ (AP _) ?_))
    go_ret
    exact ⟨_, rfl, ⟨⟨rfl, .inr ⟨w.heap.size, cp, C, rfl, Nat.le_refl _, HW.out.2, Nat.zero_le _, by unfold maxLen; exact HH.out.2.2, by rw [HH.out.1, Nat.mul_one], by simp [bcells]⟩⟩, HW.out.1, Nat.le_refl _⟩⟩

/-- Two slices of bytes in a row. -/
theorem row2 {w : World} {g : Nat} {v1 v2 : Value} {t : TypeId} {fr : Nat × Nat} (h : w.heap[g]? = some (.cells #[v1, v2] t fr)) : w.cell? ⟨g, 0, none⟩ = some v1 ∧ w.cell? ⟨g, 1, none⟩ = some v2 := ⟨by simp [World.cell?, h], by simp [World.cell?, h]⟩
theorem idx2 (g k : Nat) (hk : k < 2) (K : Int) (hK : K = (k : Int)) (w : World) : (Instr.indexAt 113 (.slice (some ⟨g, 0, none⟩) 2 2) (.int .i64 K)).run Tryd.prog w = .ok (.pointer (some ⟨g, k, none⟩)) w := by
  subst hK
  have he : Tryd.prog.elem 113 = 51 := by simp [Program.elem, Tryd.underlying113]
  rw [run_indexAt_slice w 113 _ 2 2 .i64 k (by rw [he]; exact Tryd.underlying113), if_pos ⟨by omega, by omega⟩, he, show (sizeOf 51).run Tryd.prog w = .ok 1 w by kernel_rfl]
  simp [Result.andThen, Addr.add_lit]
set_option maxRecDepth 100000 in
set_option maxHeartbeats 4000000 in
theorem concat_any {w : World} {g : Nat} {a1 a2 : Option Addr} {c1 c2 n1 n2 : Nat} {l1 l2 : Bytes} (hg : w.heap[g]? = some (.cells #[.slice a1 n1 c1, .slice a2 n2 c2] 51 (0, 0))) (h1 : Sl w a1 c1 l1) (h2 : Sl w a2 c2 l2) (hn1 : n1 = l1.length) (hn2 : n2 = l2.length) (hl1 : n1 ≤ 10000000000000) (hl2 : n2 ≤ 10000000000000) :
    Calls Tryd.prog 47 #[.slice (some ⟨g, 0, none⟩) 2 2] w fun e w' => ∃ v, e = .returned v ∧ Buf w.heap.size w w' v (l1 ++ l2) := by
  obtain ⟨k0, k1⟩ := row2 hg
  have I0 := fun W => idx2 g 0 (by decide) 0 rfl W
  have I1 := fun W => idx2 g 1 (by decide) 1 rfl W
  have HB := Lib.hid (And.intro h1 (And.intro h2 (And.intro hn1 hn2)))
  have HK := Lib.hid (And.intro k0 k1)
  clear hg h1 h2 hn1 hn2
  go_enter Tryd.func47, Tryd.ntmps47
  go_wp2_with fail
  go_loop [3, 11] (fun s3 s11 => ∃ k : Nat, k ≤ 2 ∧ s11 = .int .i64 (k : Int) ∧ s3 = .int .i64 (if k = 0 then 0 else if k = 1 then (n1 : Int) else (n1 : Int) + (n2 : Int))) (fun _ s11 => 2 - (intOf s11).toNat)
  case atStart => exact ⟨0, by omega, rfl, rfl⟩
  case round =>
    obtain ⟨k, hk, rfl, rfl⟩ := hrel
    obtain rfl | rfl | rfl : k = 0 ∨ k = 1 ∨ k = 2 := by omega
    · go_wp2_with fail
      go_round
      case rel => exact ⟨1, by omega, rfl, by simp⟩
      case measure => simp [intOf]
    · go_wp2_with fail
      go_round
      case rel => exact ⟨2, by omega, rfl, by simp⟩
      case measure => simp [intOf]
    · have CG := fun W => grow_any W (n1 + n2) (by omega)
      rw [Int.natCast_add] at CG
      clear k0 k1
      go_wp2_with fail
      refine (CG _).mono ?_
      clear CG
      rintro e w1 ⟨v1, rfl, hb1⟩
      have HB1 := Lib.hid hb1
      have k0 := (hb1.2.1.cell (p := ⟨g, 0, none⟩) (lt_of_cell HK.out.1)).trans HK.out.1
      have k1 := (hb1.2.1.cell (p := ⟨g, 1, none⟩) (lt_of_cell HK.out.2)).trans HK.out.2
      clear hb1 k0 k1
      go_wp2_with fail
      go_loopw [6, 27] (fun s6 s27 wr => ∃ k : Nat, k ≤ 2 ∧ s27 = .int .i64 (k : Int) ∧ Buf w.heap.size w wr s6 (if k = 0 then [] else if k = 1 then l1 else l1 ++ l2)) (fun _ s27 _ => 2 - (intOf s27).toNat)
      case atStart => exact ⟨0, by omega, rfl, HB1.out⟩
      case round =>
        obtain ⟨k, hk, rfl, hb⟩ := hrel
        have k0 := (hb.2.1.cell (p := ⟨g, 0, none⟩) (lt_of_cell HK.out.1)).trans HK.out.1
        have k1 := (hb.2.1.cell (p := ⟨g, 1, none⟩) (lt_of_cell HK.out.2)).trans HK.out.2
        have g1 := hb.2.1
        have HG := Lib.hid g1
        clear g1
        obtain rfl | rfl | rfl : k = 0 ∨ k = 1 ∨ k = 2 := by omega
        · have e1 := HB.out.2.2.1
          subst e1
          go_wp2_with (first | (at_builtin; refine wpList_append_buf rfl _ _ rfl _ [] rfl hb _ c1 l1 rfl (HB.out.1.below HG.out).bs HB.out.1.non (by simp; omega) ?_; intro v w2 hb2 hg2))
          go_roundw
          case rel => exact ⟨1, by omega, rfl, by simpa using hb2⟩
          case measure => simp [intOf]
        · have e2 := HB.out.2.2.2
          subst e2
          simp only [Nat.one_ne_zero, if_false, if_true] at hb
          have hl1' : l1.length ≤ 10000000000000 := by rw [← HB.out.2.2.1]; exact hl1
          go_wp2_with (first | (at_builtin; refine wpList_append_buf rfl _ _ rfl _ l1 rfl hb _ c2 l2 rfl (HB.out.2.1.below HG.out).bs HB.out.2.1.non (by omega) ?_; intro v w2 hb2 hg2))
          go_roundw
          case rel => exact ⟨2, by omega, rfl, by simpa using hb2⟩
          case measure => simp [intOf]
        · have HB2 := Lib.hid hb
          clear hb k0 k1
          go_wp2_with fail
          go_ret
          exact ⟨_, rfl, by simpa using HB2.out⟩
end Go.Proofs.YtnlkanhakmkejaaDoor
