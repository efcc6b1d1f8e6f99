/-
  The law SumsJoin, walked.
-/
import Derived.Test.YtfpklkncdimajaaSumsAreWalk
namespace Go.Proofs.Ytfpklkncdimajaa
open Go.RowKit

theorem adler_join (s : Nat) (a b : List UInt8) (h : s < 4294967296) : adler (adler s a) b = adler s (a ++ b) := by
  have h1 := ad_lt a (s % 65536, s / 65536) (by simp; omega) (by simp; omega)
  have e : (adler s a % 65536, adler s a / 65536) = ad (s % 65536, s / 65536) a := by
    apply Prod.ext
    · simp only [adler]; omega
    · simp only [adler]; omega
  unfold adler at e ⊢
  rw [e, ad_append]

theorem crc_join (s : Nat) (a b : List UInt8) (h : s < 4294967296) : crc (crc s a) b = crc s (a ++ b) := by
  have h1 := crcOf_lt a (4294967295 - s) (by omega)
  unfold crc
  rw [show 4294967295 - (4294967295 - crcOf (4294967295 - s) a) = crcOf (4294967295 - s) a from by omega, crcOf_append]

theorem sumsJoin_walk (a : Option Addr) (len cap : Nat) (zs : List Int) (a' : Option Addr) (len' cap' : Nat) (zs' : List Int) (s : Int) (w : World)
    (h : RowIn w a len cap zs) (h' : RowIn w a' len' cap' zs') (hs : (Lit.int .u32 s).wf = true) :
    Calls Try.prog 5 #[.slice a len cap, .slice a' len' cap', .int .u32 s] w fun e w' => e = .returned (.bool true) ∧ Below w.heap.size w w' := by
  obtain ⟨L, hL, hb, hle, hc, hn⟩ := open_row h
  obtain ⟨l, hl⟩ : ∃ l, l = L.take (min len 5000) := ⟨_, rfl⟩
  have hlen : l.length = min len 5000 := by rw [hl, List.length_take]; omega
  have hb1 : Bs w a l := hl ▸ hb.take _
  have hmax : l.length ≤ 5000 := by omega
  have HL := Lib.hid hlen
  clear hlen hl
  obtain ⟨L', hL', hb', hle', hc', hn'⟩ := open_row h'
  obtain ⟨l', hl'⟩ : ∃ l, l = L'.take (min len' 5000) := ⟨_, rfl⟩
  have hlen' : l'.length = min len' 5000 := by rw [hl', List.length_take]; omega
  have hb1' : Bs w a' l' := hl' ▸ hb'.take _
  have hmax' : l'.length ≤ 5000 := by omega
  have HL' := Lib.hid hlen'
  clear hlen' hl'
  obtain ⟨u, rfl, hu⟩ := u32_of_wf hs
  have HN := Lib.hid hn
  have HN' := Lib.hid hn'
  clear hn hn'
  go_enter Try.func5, Try.ntmps5
  go_wp2_with fail
  refine (few_bs a len cap l _ hle hc HN.out HL.out).mono ?_
  rintro e w' ⟨rfl, rfl⟩
  go_wp2_with fail
  refine (few_bs a' len' cap' l' _ hle' hc' HN'.out HL'.out).mono ?_
  rintro e w' ⟨rfl, rfl⟩
  have how : OwnB (w.alloc (.cells #[] 5)) w.heap.size (.slice (some ⟨w.heap.size, 0, none⟩) 0 0) [] := World.ownsRow_made (size := 1) w #[] 0 (Nat.le_refl _) (by decide) rfl
  have hbel0 : Below w.heap.size w (w.alloc (.cells #[] 5)) := (Below.refl _ _).alloc (Nat.le_refl _) _
  go_wp2_with (first
    | (at_builtin; refine wpList_append_bytes rfl (.tmp 12) (.tmp 13) rfl w.heap.size (.slice (some ⟨w.heap.size, 0, none⟩) 0 0) [] rfl how a cap l rfl (hb1.below hbel0) (fun e => (HN.out e).2) (by simp; omega) (by simp) ?_; intro v1 w1 how1 hgr1; have hbel1 := hbel0.grown hgr1 (by simp) (by intro k hk; simp [Value.ownBlock] at hk; omega); clear hgr1)
    | (at_builtin; refine wpList_append_bytes rfl (.tmp 14) (.tmp 15) rfl w.heap.size v1 _ rfl how1 a' cap' l' rfl (hb1'.below hbel1) (fun e => (HN'.out e).2) (by simp; omega) hbel1.size ?_; intro v2 w2 how2 hgr2; have hbel2 := hbel1.grown hgr2 hbel1.size (fun k hk => (how1.lt k hk).1); clear hgr2))
  obtain ⟨a2, cap2, hv2, hb2, -, -, -⟩ := how2.bs
  rw [List.nil_append] at hv2 hb2
  clear how2 how1 how
  have hmaxa : (l ++ l').length ≤ 9223372036854775807 := by rw [List.length_append]; omega
  have ea0 := adler_join 1 l l' (by decide)
  have ec0 := crc_join 0 l l' (by decide)
  have eu0 := crc_join u l l' hu
  generalize l ++ l' = m at *
  subst hv2
  refine (known_any _).mono ?_
  rintro e w3 ⟨rfl, hbel3⟩
  have hbw := hbel2.trans (hbel3.mono hbel2.size)
  have hx := hb1.below hbw
  have hy := hb1'.below hbw
  have hz := hb2.below hbel3
  have ha1 := adler_lt 1 l (by decide)
  have hc1 := crc_lt 0 l
  have hc2 := crc_lt u l
  have ea := Lib.hid ea0
  have ec := Lib.hid ec0
  have eu := Lib.hid eu0
  have HM := Lib.hid hmaxa
  clear ea0 ec0 eu0 hmaxa hbel2 hbel1 hbel0 hb2 hb1 hb1' hb hb' h h' hL hL'
  go_wp2_with fail
  refine (adler_any a2 cap2 m _ HM.out hz).mono ?_
  rintro e w' ⟨rfl, rfl⟩
  go_wp2_with fail
  refine (adler_any a cap l _ (by omega) hx).mono ?_
  rintro e w' ⟨rfl, rfl⟩
  go_wp2_with fail
  refine (adlerMore_any a' cap' l' _ _ ha1 (by omega) hy).mono ?_
  rintro e w' ⟨rfl, rfl⟩
  rw [ea.out]
  go_wp2_with fail
  refine (crc_any a2 cap2 m _ HM.out hz).mono ?_
  rintro e w' ⟨rfl, rfl⟩
  go_wp2_with fail
  refine (crc_any a cap l _ (by omega) hx).mono ?_
  rintro e w' ⟨rfl, rfl⟩
  go_wp2_with fail
  refine (crcMore_any a' cap' l' _ _ hc1 (by omega) hy).mono ?_
  rintro e w' ⟨rfl, rfl⟩
  rw [ec.out]
  go_wp2_with fail
  refine (crcMore_any a cap l u _ hu (by omega) hx).mono ?_
  rintro e w' ⟨rfl, rfl⟩
  go_wp2_with fail
  refine (crcMore_any a' cap' l' _ _ hc2 (by omega) hy).mono ?_
  rintro e w' ⟨rfl, rfl⟩
  rw [eu.out]
  go_wp2_with fail
  refine (crcMore_any a2 cap2 m u _ hu HM.out hz).mono ?_
  rintro e w' ⟨rfl, rfl⟩
  go_wp2_with fail
  go_ret
  exact ⟨rfl, hbw⟩

end Go.Proofs.Ytfpklkncdimajaa
