/-
  The document's Hex: the walk.
-/
import Derived.Test.YtifoledkmjlmoaaDoorHex
import Derived.Test.YtifoledkmjlmoaaDoorBuf
import Derived.Test.YtifoledkmjlmoaaDoorMixG
namespace Go.Proofs.YtifoledkmjlmoaaDoor
open Go.RowKit Go.Mix Go.WideMaps Go.Proofs

set_option maxRecDepth 100000 in
set_option maxHeartbeats 2000000 in
theorem digit_any {n : Nat} (hn : n < 16) (w : World) : Calls Tryd.prog 42 #[.int .i64 (n : Int)] w fun e w' => e = .returned (.int .u8 ((hexd n).toNat : Int)) ∧ w = w' := by
  go_enter Tryd.func42, Tryd.ntmps42
  by_cases h : n < 10
  · have t1 : decide ((n : Int) < 10) = true := decide_eq_true (by omega)
    have t1' : decide (n < 10) = true := decide_eq_true (by omega)
    have e : ((hexd n).toNat : Int) = 48 + (n : Int) := by
      unfold hexd; rw [if_pos h, UInt8.toNat_ofNat']; omega
    rw [e]
    go_wp2_with fail
    go_ret
    exact ⟨by go_num, rfl⟩
  · have t1 : decide ((n : Int) < 10) = false := decide_eq_false (by omega)
    have t1' : decide (n < 10) = false := decide_eq_false (by omega)
    have e : ((hexd n).toNat : Int) = 87 + (n : Int) := by
      unfold hexd; rw [if_neg h, UInt8.toNat_ofNat']; omega
    rw [e]
    go_wp2_with fail
    go_ret
    exact ⟨by go_num, rfl⟩

set_option maxRecDepth 100000 in
set_option maxHeartbeats 2000000 in
theorem refHex_any (x : Id20) (w : World) : Calls Tryd.prog 25 #[.agg (idA x)] w fun e w' => e = .returned (.string (hexS x)) ∧ Below w.heap.size w w' := by
  have hx := x.2
  have hb0 := range_boxB w (idc x) 43
  have hcell : ∀ i (h : i < x.1.length) (y : World), Below (w.heap.size + 1) (w.alloc (.cells (idA x) 43)) y → y.cell? ⟨w.heap.size, i, none⟩ = some (.int .u8 (x.1[i].toNat : Int)) := fun i h y hy => by
    have := hb0 i (.int .u8 (x.1[i].toNat : Int)) (by simp [idc, bcells, h])
    rw [Nat.zero_add] at this
    exact (hy.cell (p := ⟨w.heap.size, i, none⟩) (by simp)).trans this
  have HC := Lib.hid hcell
  have hB : Buf (w.heap.size + 1) (w.alloc (.cells (idA x) 43)) (w.alloc (.cells (idA x) 43)) (.slice none 0 0) [] := Buf.nil (Below.refl _ _) (by simp)
  clear hb0 hcell
  go_enter Tryd.func25, Tryd.ntmps25
  go_wp2_with fail
  go_loopw [3, 4] (fun s3 s4 wr => ∃ i : Nat, s4 = .int .i64 (i : Int) ∧ i ≤ 20 ∧ Buf (w.heap.size + 1) (w.alloc (.cells (idA x) 43)) wr s3 (hexL (x.1.take i))) (fun _ s4 _ => 20 - (intOf s4).toNat)
  case atStart => exact ⟨0, rfl, by omega, hB⟩
  case round =>
    clear hB
    obtain ⟨i, rfl, hi, hbuf⟩ := hrel
    by_cases hi20 : i < 20
    · have t1 : decide ((i : Int) < 20) = true := decide_eq_true (by omega)
      have t1' : decide (i < 20) = true := decide_eq_true (by omega)
      have t0 : (i : Int) < 20 := by omega
      have hil : i < x.1.length := by omega
      have HS := Lib.hid (hexL_succ hil)
      have C : ∀ y : Later wr, y.1.cell? ⟨w.heap.size, i, none⟩ = some (.int .u8 (x.1[i].toNat : Int)) := fun y => HC.out i hil y.1 (hbuf.2.1.trans (Below.mono y.2 (by have := hbuf.2.1.size; simp at this; omega)))
      have hc := x.1[i].toNat_lt
      have D1 := fun W : World => digit_any (n := x.1[i].toNat / 16) (by omega) W
      have D2 := fun W : World => digit_any (n := x.1[i].toNat % 16) (by omega) W
      have W1 : IntKind.i64.wrap (x.1[i].toNat : Int) = (x.1[i].toNat : Int) := IntWalk.i64_in _ (by omega)
      have W2 : IntKind.i64.wrap ((x.1[i].toNat : Int).tdiv 16) = ((x.1[i].toNat / 16 : Nat) : Int) := by
        rw [Int.tdiv_eq_ediv_of_nonneg (by omega), IntWalk.i64_in _ (by omega)]; omega
      have W4 : IntKind.i64.wrap ((x.1[i].toNat : Int) / 16) = ((x.1[i].toNat / 16 : Nat) : Int) := by
        rw [IntWalk.i64_in _ (by omega)]; omega
      have W5 : IntKind.i64.wrap ((x.1[i].toNat : Int) % 16) = ((x.1[i].toNat % 16 : Nat) : Int) := by
        rw [IntWalk.i64_in _ (by omega)]; omega
      have W6 : (x.1[i].toNat : Int).tmod 16 = ((x.1[i].toNat % 16 : Nat) : Int) := by
        rw [Int.tmod_eq_emod_of_nonneg (by omega)]; omega
      have W3 : IntKind.i64.wrap ((x.1[i].toNat : Int).tmod 16) = ((x.1[i].toNat % 16 : Nat) : Int) := by
        rw [Int.tmod_eq_emod_of_nonneg (by omega), IntWalk.i64_in _ (by omega)]; omega
      have hl : (hexL (x.1.take i)).length ≤ 40 := by rw [hexL_len, List.length_take]; omega
      have HL := Lib.hid hl
      generalize hexL (x.1.take i) = acc at *
      generalize hexd (x.1[i].toNat / 16) = h1 at *
      generalize hexd (x.1[i].toNat % 16) = h2 at *
      generalize x.1[i].toNat / 16 = q at *
      generalize x.1[i].toNat % 16 = r at *
      generalize x.1[i].toNat = n at *
      clear hil hl hc
      go_upto_region 5 with (fail)
      refine wp_region_mix [(0, 0), (1, 0), (2, 0), (3, 0), (4, 0), (5, 0), (6, 0), (7, 0), (8, 0), (9, 0), (10, 0), (11, 0), (12, 0), (13, 1), (14, 2), (15, 0)] (by kernel_rfl) (by kernel_rfl) ?_
      iterate 6 (refine mix_calm rfl (fun K hK => ?_); go_simp; (refine hK _ ?_; clear hK K))
      refine mix_calm rfl (fun K hK => ?_)
      go_simp
      apply Exists.intro
      refine ⟨fun y => calls_calm (D1 y.1), hK _ ?_⟩
      clear hK K
      iterate 5 (refine mix_calm rfl (fun K hK => ?_); go_simp; (refine hK _ ?_; clear hK K))
      refine mix_calm rfl (fun K hK => ?_)
      go_simp
      apply Exists.intro
      refine ⟨fun y => calls_calm (D2 y.1), hK _ ?_⟩
      clear hK K
      refine mix_loud rfl rfl (fun w8 hw8 K hK => ?_)
      have hbuf8 := hbuf.later hw8
      clear C D1 D2
      go_wp2_with fail
      have g8 : Below w8.heap.size w8 (w8.alloc (.cells #[.int .u8 (h1.toNat : Int), .int .u8 (h2.toNat : Int)] 5)) := (Below.refl _ _).alloc (Nat.le_refl _) _
      refine hK _ _ g8 ?_
      clear hK K
      have hk9 : (w8.alloc (.cells #[.int .u8 (h1.toNat : Int), .int .u8 (h2.toNat : Int)] 5)).heap[w8.heap.size]? = some (.cells #[.int .u8 (h1.toNat : Int), .int .u8 (h2.toNat : Int)] 5 (0, 0)) := heap_alloc_last _ _ _ rfl
      have hbuf9 := hbuf8.later g8
      generalize w8.alloc (.cells #[.int .u8 (h1.toNat : Int), .int .u8 (h2.toNat : Int)] 5) = w9 at *
      clear g8 hbuf8 hbuf hw8 W1 W2 W3 W4 W5 W6
      refine mix_sync rfl rfl (fun w10 hw10 K hK => ?_)
      have hbuf10 := hbuf9.later hw10
      have hk10 : w10.heap[w8.heap.size]? = some (.cells #[.int .u8 (h1.toNat : Int), .int .u8 (h2.toNat : Int)] 5 (0, 0)) := (hw10.block _ (lt_of_block hk9)).trans hk9
      refine wpList_append_buf rfl (.tmp 9) (.tmp 22) rfl _ acc rfl hbuf10 (some ⟨w8.heap.size, 0, none⟩) 2 [h1, h2] rfl (.block hk10 rfl) (by simp) (by have := HL.out; simp; omega) ?_
      intro v11 w11 hbuf11 hg11
      have e11 : acc ++ [h1, h2] = acc ++ [h1] ++ [h2] := by simp
      rw [e11, ← HS.out] at hbuf11
      clear hg11 hbuf10 hk10 hbuf9 hk9 hw10 e11
      go_wp2_with fail
      refine mix_calm rfl (fun K hK => ?_); go_simp; (refine hK _ ?_; clear hK K)
      refine mix_nil fun w12 hw12 => ?_
      have hbuf12 := hbuf11.later hw12
      clear hbuf11 hw12
      go_wp2_with fail
      go_roundw
      case rel => exact ⟨i + 1, by go_num, by omega, hbuf12⟩
      case measure => simp [intOf]; omega
    · obtain rfl : i = 20 := by omega
      have t1 : decide (((20 : Nat) : Int) < 20) = false := rfl
      rw [List.take_of_length_le (by omega)] at hbuf
      obtain ⟨a3, c3, rfl, hbs⟩ := hbuf.1.bs
      have HB := Lib.hid hbuf.2.1
      have ST := run_string_of_bytes (P := Tryd.prog) hbs.1 26 5 9 Tryd.underlying26 Tryd.underlying5 Tryd.underlying9 c3
      clear hbuf hbs
      change (convert 26 9 (.slice a3 (hexL x.1).length c3)).run Tryd.prog wr = .ok (.string (hexS x)) wr at ST
      generalize (hexL x.1).length = n at *
      go_wp2_with fail
      go_ret
      refine ⟨rfl, ⟨HB.out.os, HB.out.tape, HB.out.output, by have := HB.out.size; simp at this; omega, fun k hk => ?_⟩⟩
      rw [HB.out.block k (by omega)]
      exact ((Below.refl w.heap.size w).alloc (Nat.le_refl _) _).block k hk
end Go.Proofs.YtifoledkmjlmoaaDoor
