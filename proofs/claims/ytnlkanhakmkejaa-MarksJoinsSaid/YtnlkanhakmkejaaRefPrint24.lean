/-
  The document's Print: the walk.
-/
import Derived.Test.YtnlkanhakmkejaaPrint24
namespace Go.Proofs.Ytnlkanhakmkejaa
open Go.RowKit Go.Mix Go.WideMaps Go.Proofs

set_option maxRecDepth 100000 in
set_option maxHeartbeats 4000000 in
theorem refPrint_any {w : World} {l : List Pr} {a : Option Addr} {cap : Nat} (hg : PsAt w a cap l) (hlen : l.length ≤ 1000) :
    Calls Try.prog 17 #[.slice a l.length cap] w fun e w' => e = .returned (.string (strOf (textL l))) ∧ Below w.heap.size w w' := by
  obtain ⟨n, hn⟩ : ∃ n, n = l.length := ⟨_, rfl⟩
  have HN := Lib.hid hn
  have HG := Lib.hid hg
  rw [← hn] at hlen ⊢
  have hb0 : Below w.heap.size w w := Below.refl _ _
  clear hn hg
  go_enter Try.func17, Try.ntmps17
  go_wp2_with fail
  go_loopw [3, 4] (fun s3 s4 wr => ∃ i : Nat, s4 = .int .i64 (i : Int) ∧ i ≤ n ∧ s3 = .string (strOf (textL (l.take i))) ∧ Below w.heap.size w wr) (fun _ s4 _ => n - (intOf s4).toNat)
  case atStart => exact ⟨0, rfl, Nat.zero_le _, rfl, hb0⟩
  case round =>
    clear hb0
    obtain ⟨i, rfl, hi, rfl, hb⟩ := hrel
    by_cases hin : i < n
    · have t1 : decide ((i : Int) < (n : Int)) = true := decide_eq_true (by omega)
      have t1' : decide (i < n) = true := decide_eq_true (by omega)
      have hil : i < l.length := by rw [← HN.out]; omega
      obtain ⟨b, q, IX, -, L0, L1⟩ := (HG.out.below hb).at tyR (i : Int) i rfl hil
      rw [← HN.out] at IX
      have HS := Lib.hid (textL_succ hil)
      have hacc : (textL (l.take i)).length ≤ 82000 := by rw [textL_len, List.length_take]; omega
      have HB := Lib.hid hb
      generalize textL (l.take i) = acc at *
      generalize l[i]! = p at *
      obtain ⟨x, y⟩ := p
      simp only [] at L0 L1
      have LA : ∀ z : Later wr, (Instr.loadAt 29 (.pointer (some ⟨b, q, none⟩))).run Try.prog z.1 = .ok (.agg (idA x)) z.1 := fun z => L0 z.1 z.2
      have LB : ∀ z : Later wr, (Instr.loadAt 29 (.pointer (some ⟨b, q + 20, none⟩))).run Try.prog z.1 = .ok (.agg (idA y)) z.1 := fun z => L1 z.1 z.2
      have hx := hexL_len x.1
      have hy := hexL_len y.1
      rw [x.2] at hx
      rw [y.2] at hy
      have A0 : ∀ W, (Op.stringOp .add (strOf acc) (hexS x)).run Try.prog W = .ok (.string (strOf (acc ++ hexL x.1))) W := fun W => Go.run_string_add_lists (P := Try.prog) W acc (hexL x.1) (by omega) (by omega)
      have A1 : ∀ W, (Op.stringOp .add (strOf (acc ++ hexL x.1)) ⟨#[32]⟩).run Try.prog W = .ok (.string (strOf (acc ++ hexL x.1 ++ [32]))) W := fun W => Go.run_string_add_lists (P := Try.prog) W (acc ++ hexL x.1) [32] (by rw [List.length_append]; omega) (by decide)
      have A2 : ∀ W, (Op.stringOp .add (strOf (acc ++ hexL x.1 ++ [32])) (hexS y)).run Try.prog W = .ok (.string (strOf (acc ++ hexL x.1 ++ [32] ++ hexL y.1))) W := fun W => Go.run_string_add_lists (P := Try.prog) W (acc ++ hexL x.1 ++ [32]) (hexL y.1) (by rw [List.length_append, List.length_append, List.length_singleton]; omega) (by omega)
      have A3 : ∀ W, (Op.stringOp .add (strOf (acc ++ hexL x.1 ++ [32] ++ hexL y.1)) ⟨#[10]⟩).run Try.prog W = .ok (.string (strOf (acc ++ hexL x.1 ++ [32] ++ hexL y.1 ++ [10]))) W := fun W => Go.run_string_add_lists (P := Try.prog) W (acc ++ hexL x.1 ++ [32] ++ hexL y.1) [10] (by rw [List.length_append, List.length_append, List.length_append, List.length_singleton]; omega) (by decide)
      have HE := Lib.hid (show acc ++ hexL x.1 ++ [32] ++ hexL y.1 ++ [10] = acc ++ lineL (x, y) by simp [lineL])
      have CX := fun W => refHex_any x W
      have CY := fun W => refHex_any y W
      generalize strOf (acc ++ hexL x.1 ++ [32] ++ hexL y.1) = T3 at *
      generalize strOf (acc ++ hexL x.1 ++ [32]) = T2 at *
      generalize strOf (acc ++ hexL x.1) = T1 at *
      generalize strOf acc = T0 at *
      generalize hexS x = X at *
      generalize hexS y = Y at *
      generalize idA x = V1 at *
      generalize idA y = V2 at *
      obtain ⟨T4, hT4⟩ : ∃ T, T = strOf (acc ++ hexL x.1 ++ [32] ++ hexL y.1 ++ [10]) := ⟨_, rfl⟩
      have HT4 := Lib.hid hT4
      rw [← hT4] at A3
      clear L0 L1 hb hil hx hy hacc hT4
      go_upto_region 5 with (fail)
      refine wp_region_mg [(0, 0), (1, 0), (2, 0), (3, 0), (4, 0), (5, 0), (6, 0), (7, 0), (8, 0), (9, 0), (10, 0), (11, 0), (12, 0), (13, 0), (14, 0), (15, 0), (16, 0), (17, 0)] (by kernel_rfl) (by kernel_rfl) ?_
      iterate 5 (refine mg_calm rfl (fun K hK => ?_); go_simp; (refine hK _ ?_; clear hK K))
      refine mg_load rfl rfl _ _ rfl _ _ rfl LA ?_
      refine mg_calm rfl (fun K hK => ?_)
      go_simp
      apply Exists.intro
      refine ⟨fun y => CX y.1, hK _ ?_⟩
      clear hK K
      iterate 6 (refine mg_calm rfl (fun K hK => ?_); go_simp; (refine hK _ ?_; clear hK K))
      refine mg_load rfl rfl _ _ rfl _ _ rfl LB ?_
      refine mg_calm rfl (fun K hK => ?_)
      go_simp
      apply Exists.intro
      refine ⟨fun y => CY y.1, hK _ ?_⟩
      clear hK K
      iterate 3 (refine mg_calm rfl (fun K hK => ?_); go_simp; (refine hK _ ?_; clear hK K))
      refine mg_nil fun w7 hw7 => ?_
      have HB7 := Lib.hid (HB.out.trans (Below.mono hw7 HB.out.size))
      clear hw7 LA LB A0 A1 A2 A3 CX CY IX
      go_wp2_with fail
      go_roundw
      case rel => exact ⟨i + 1, by go_num, by omega, by rw [HT4.out, HS.out, HE.out], HB7.out⟩
      case measure => simp [intOf]; omega
    · obtain rfl : i = n := by omega
      have t1 : decide ((i : Int) < (i : Int)) = false := decide_eq_false (by omega)
      have t1' : decide (i < i) = false := decide_eq_false (by omega)
      have et : l.take i = l := by rw [HN.out]; exact List.take_of_length_le (Nat.le_refl _)
      rw [et]
      obtain ⟨T, hT⟩ : ∃ T, T = strOf (textL l) := ⟨_, rfl⟩
      have HT := Lib.hid hT
      rw [← hT]
      clear et hT
      go_wp2_with fail
      go_ret
      exact ⟨by rw [← HT.out]; rfl, hb⟩
end Go.Proofs.Ytnlkanhakmkejaa
