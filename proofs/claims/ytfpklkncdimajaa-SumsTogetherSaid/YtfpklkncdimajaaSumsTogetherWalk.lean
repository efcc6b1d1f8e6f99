/-
  The law SumsTogether, walked.
-/
import Derived.Test.YtfpklkncdimajaaSumsAreWalk
import Derived.Test.YtfpklkncdimajaaRows1
import Derived.Test.YtfpklkncdimajaaMix
import Derived.Test.YtfpklkncdimajaaSumsPure2
namespace Go.Proofs.Ytfpklkncdimajaa
open Go.RowKit Go.Mix

theorem sizeOf_u8 (w : World) : (sizeOf 5).run Try.prog w = .ok 1 w := by kernel_rfl

theorem walk_xor8 (a b : UInt8) : bits .xor .u8 (a.toNat : Int) (b.toNat : Int) = ((a ^^^ b).toNat : Int) := by
  rw [u8_xor_nat _ _ a.toNat_lt b.toNat_lt, UInt8.toNat_xor]

set_option maxHeartbeats 1000000 in
theorem sumsTogether_walk (a : Option Addr) (len cap : Nat) (zs : List Int) (a' : Option Addr) (len' cap' : Nat) (zs' : List Int) (a'' : Option Addr) (len'' cap'' : Nat) (zs'' : List Int) (w : World)
    (h : RowIn w a len cap zs) (h' : RowIn w a' len' cap' zs') (h'' : RowIn w a'' len'' cap'' zs'') :
    Calls Try.prog 7 #[.slice a len cap, .slice a' len' cap', .slice a'' len'' cap''] w fun e w' => e = .returned (.bool true) ∧ Below w.heap.size w w' := by
  obtain ⟨L, hL, hb, hle, hc, hn⟩ := open_row h
  obtain ⟨L', hL', hb', hle', hc', hn'⟩ := open_row h'
  obtain ⟨L'', hL'', hb'', hle'', hc'', hn''⟩ := open_row h''
  have IX := Lib.hid (fun k (hk : k < len) => run_index_any (P := Try.prog) hb.cells 22 Try.underlying22 sizeOf_u8 cap (n := len) hk (by rw [bcells_length]; omega))
  have IX' := Lib.hid (fun k (hk : k < len') => run_index_any (P := Try.prog) hb'.cells 22 Try.underlying22 sizeOf_u8 cap' (n := len') hk (by rw [bcells_length]; omega))
  have IX'' := Lib.hid (fun k (hk : k < len'') => run_index_any (P := Try.prog) hb''.cells 22 Try.underlying22 sizeOf_u8 cap'' (n := len'') hk (by rw [bcells_length]; omega))
  obtain ⟨n, hnn⟩ : ∃ n : Nat, n = min len (min len' (min len'' 5000)) := ⟨_, rfl⟩
  have hn1 : n ≤ len := by omega
  have hn2 : n ≤ len' := by omega
  have hn3 : n ≤ len'' := by omega
  have hn4 : n ≤ 5000 := by omega
  have HN := Lib.hid hnn
  clear hnn
  go_enter Try.func7, Try.ntmps7
  go_wp2_with fail
  have en : min (len : Int) (min (len' : Int) (min (len'' : Int) 5000)) = (n : Int) := by have := HN.out; omega
  rw [en]
  clear en
  go_loopw [8, 9] (fun v i wr => ∃ k : Nat, k ≤ n ∧ i = .int .i64 k ∧ OwnB wr w.heap.size v (tog L L' L'' k) ∧ Below w.heap.size w wr) (fun _ i _ => n - (intOf i).toNat)
  case atStart => exact ⟨0, by omega, rfl, OwnB.nil _ _, Below.refl _ _⟩
  case round =>
    obtain ⟨k, hk, rfl, how, hbel⟩ := hrel
    by_cases hkn : k < n
    · go_wp2_with fail
      have hx : ∀ x : Later wr, x.1.cell? (elt a k) = some (.int .u8 ((L.getD k 0).toNat : Int)) := fun x => by
        have h1 := hb.below (hbel.trans (x.2.mono hbel.size))
        rw [h1.cell (k := k) (by omega), List.getD_eq_getElem?_getD, List.getElem?_eq_getElem (by omega)]; rfl
      have hx' : ∀ x : Later wr, x.1.cell? (elt a' k) = some (.int .u8 ((L'.getD k 0).toNat : Int)) := fun x => by
        have h1 := hb'.below (hbel.trans (x.2.mono hbel.size))
        rw [h1.cell (k := k) (by omega), List.getD_eq_getElem?_getD, List.getElem?_eq_getElem (by omega)]; rfl
      have hx'' : ∀ x : Later wr, x.1.cell? (elt a'' k) = some (.int .u8 ((L''.getD k 0).toNat : Int)) := fun x => by
        have h1 := hb''.below (hbel.trans (x.2.mono hbel.size))
        rw [h1.cell (k := k) (by omega), List.getD_eq_getElem?_getD, List.getElem?_eq_getElem (by omega)]; rfl
      have ts := tog_succ L L' L'' k
      have IK := IX.out k (by omega)
      have IK' := IX'.out k (by omega)
      have IK'' := IX''.out k (by omega)
      generalize L.getD k 0 = y at *
      generalize L'.getD k 0 = y' at *
      generalize L''.getD k 0 = y'' at *
      have TS := Lib.hid ts
      clear ts
      refine wp_region_mix [(0, 0), (1, 0), (2, 0), (3, 0), (4, 0), (5, 0), (6, 0), (7, 0), (8, 0), (9, 0), (10, 0), (11, 0), (12, 0), (13, 0), (14, 0), (15, 1), (16, 2), (17, 0)] (by kernel_rfl) (by kernel_rfl) ?_
      iterate 15 (refine mix_calm rfl (fun K hK => ?_); go_simp; (refine hK _ ?_; clear hK K))
      rw [walk_xor8, walk_xor8]
      refine mix_loud rfl rfl (fun w1 hw1 K hK => ?_)
      go_wp2_with fail
      have hw1a : Grow w1 (w1.alloc (.cells #[.int .u8 ((y ^^^ y' ^^^ y'').toNat : Int)] 5)) := (Below.refl _ _).alloc (Nat.le_refl _) _
      refine hK _ _ hw1a ?_
      clear hK K
      refine mix_sync rfl rfl (fun w2 hw2 K hK => ?_)
      have g2 := hw1.trans (hw1a.trans hw2)
      have how2 := how.below g2
      have hbs : Bs w2 (some ⟨w1.heap.size, 0, none⟩) [y ^^^ y' ^^^ y''] := .block ((hw2.block _ (by simp)).trans (heap_alloc_last _ _ _ rfl)) rfl
      refine wpList_append_bytes rfl (.tmp 22) (.tmp 37) rfl w.heap.size u8 _ rfl how2 _ 1 [y ^^^ y' ^^^ y''] rfl hbs (by simp) (by rw [tog_length]; simp; omega) (Nat.le_trans hbel.size g2.size) ?_
      intro v3 w3 how3 hgr3
      rw [← TS.out] at how3
      have hbel3 := (hbel.trans (g2.mono hbel.size)).grown hgr3 (Nat.le_trans hbel.size g2.size) (fun k hk => (how2.lt k hk).1)
      clear how2 how hgr3 hbs hw1a hw1 hw2 g2
      go_wp2_with fail
      refine mix_calm rfl (fun K hK => ?_)
      go_simp
      refine hK _ ?_
      clear hK K
      refine mix_nil fun w4 hw4 => ?_
      have how4 := how3.below hw4
      have hbel4 := hbel3.trans (hw4.mono hbel3.size)
      go_wp2_with fail
      go_roundw
      case rel => exact ⟨k + 1, by omega, by go_num, how4, hbel4⟩
      case measure => simp [intOf]; omega
    · obtain rfl : k = n := by omega
      go_wp2_with fail
      obtain ⟨a2, cap2, hv2, hb2, -, -, -⟩ := how.bs
      rw [tog_length] at hv2
      have FIN := Lib.hid (walk_tog L L' L'' k (by omega) (by omega) (by omega))
      have hs1 := fun w : World => run_slice_to (P := Try.prog) 22 Try.underlying22 a len cap k (by omega) (fun e => (hn e).2) sizeOf_u8 w
      have hs2 := fun w : World => run_slice_to (P := Try.prog) 22 Try.underlying22 a' len' cap' k (by omega) (fun e => (hn' e).2) sizeOf_u8 w
      have hs3 := fun w : World => run_slice_to (P := Try.prog) 22 Try.underlying22 a'' len'' cap'' k (by omega) (fun e => (hn'' e).2) sizeOf_u8 w
      subst hv2
      have c0 : ∀ x : Later wr, Calls Try.prog 13 #[.slice a2 k cap2] x.1 fun e w' => e = .returned (.int .u32 (crc 0 (tog L L' L'' k) : Nat)) ∧ x.1 = w' := fun x => by
        have h := crc_any a2 cap2 (tog L L' L'' k) x.1 (by rw [tog_length]; omega) (hb2.below x.2)
        rw [tog_length] at h; exact h
      have cA : ∀ x : Later wr, Calls Try.prog 13 #[.slice a k cap] x.1 fun e w' => e = .returned (.int .u32 (crc 0 (L.take k) : Nat)) ∧ x.1 = w' := fun x => by
        have h := crc_any a cap (L.take k) x.1 (by simp; omega) ((hb.take k).below (hbel.trans (x.2.mono hbel.size)))
        rw [List.length_take, Nat.min_eq_left (by omega)] at h; exact h
      have cA' : ∀ x : Later wr, Calls Try.prog 13 #[.slice a' k cap'] x.1 fun e w' => e = .returned (.int .u32 (crc 0 (L'.take k) : Nat)) ∧ x.1 = w' := fun x => by
        have h := crc_any a' cap' (L'.take k) x.1 (by simp; omega) ((hb'.take k).below (hbel.trans (x.2.mono hbel.size)))
        rw [List.length_take, Nat.min_eq_left (by omega)] at h; exact h
      have cA'' : ∀ x : Later wr, Calls Try.prog 13 #[.slice a'' k cap''] x.1 fun e w' => e = .returned (.int .u32 (crc 0 (L''.take k) : Nat)) ∧ x.1 = w' := fun x => by
        have h := crc_any a'' cap'' (L''.take k) x.1 (by simp; omega) ((hb''.take k).below (hbel.trans (x.2.mono hbel.size)))
        rw [List.length_take, Nat.min_eq_left (by omega)] at h; exact h
      have C0 := Lib.hid c0
      have CA := Lib.hid cA
      have CA' := Lib.hid cA'
      have CA'' := Lib.hid cA''
      clear c0 cA cA' cA''
      clear hn hn' hn'' hb2 how HN IX IX' IX''
      generalize crc 0 (tog L L' L'' k) = R at *
      generalize crc 0 (L.take k) = r at *
      generalize crc 0 (L'.take k) = r' at *
      generalize crc 0 (L''.take k) = r'' at *
      have fin := FIN.out
      refine wp_region_mix [(0, 0), (1, 0), (2, 0), (3, 0), (4, 0), (5, 0), (6, 0), (7, 0), (8, 0), (9, 0), (10, 0), (11, 0), (12, 0), (13, 0), (14, 0), (15, 0), (16, 0), (17, 0), (18, 0), (19, 0), (20, 0)] (by kernel_rfl) (by kernel_rfl) ?_
      refine mix_calm rfl (fun K hK => ?_)
      go_simp
      apply Exists.intro
      refine ⟨fun x => known_any x.1, hK _ ?_⟩
      clear hK K
      iterate 2 (refine mix_calm rfl (fun K hK => ?_); go_simp; (refine hK _ ?_; clear hK K))
      refine mix_calm rfl (fun K hK => ?_)
      go_simp
      apply Exists.intro
      refine ⟨fun x => calls_calm (C0.out x), hK _ ?_⟩
      clear hK K
      iterate 3 (refine mix_calm rfl (fun K hK => ?_); go_simp; (refine hK _ ?_; clear hK K))
      refine mix_calm rfl (fun K hK => ?_)
      go_simp
      apply Exists.intro
      refine ⟨fun x => calls_calm (CA.out x), hK _ ?_⟩
      clear hK K
      iterate 3 (refine mix_calm rfl (fun K hK => ?_); go_simp; (refine hK _ ?_; clear hK K))
      refine mix_calm rfl (fun K hK => ?_)
      go_simp
      apply Exists.intro
      refine ⟨fun x => calls_calm (CA'.out x), hK _ ?_⟩
      clear hK K
      iterate 4 (refine mix_calm rfl (fun K hK => ?_); go_simp; (refine hK _ ?_; clear hK K))
      refine mix_calm rfl (fun K hK => ?_)
      go_simp
      apply Exists.intro
      refine ⟨fun x => calls_calm (CA''.out x), hK _ ?_⟩
      clear hK K
      iterate 4 (refine mix_calm rfl (fun K hK => ?_); go_simp; (refine hK _ ?_; clear hK K))
      refine mix_nil fun w4 hw4 => ?_
      go_wp2_with fail
      go_ret
      exact ⟨rfl, hbel.trans (hw4.mono hbel.size)⟩

end Go.Proofs.Ytfpklkncdimajaa
