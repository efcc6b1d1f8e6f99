/-
  The law SumsZeros, walked.
-/
import Derived.Test.YtfpklkncdimajaaSumsAreWalk
import Derived.Test.YtfpklkncdimajaaRows1
namespace Go.Proofs.Ytfpklkncdimajaa
open Go.RowKit

/-- 'make([]byte, n)'. -/
theorem run_make_bytes (n : Nat) (h : n ≤ 281474976710656) (w : World) : (Instr.makeSlice 22 (.int .i64 (n : Int)) (.int .i64 (n : Int))).run Try.prog w =
    .ok (.slice (some ⟨w.heap.size, 0, none⟩) n n) (w.alloc (.cells (Array.replicate n (.int .u8 0)) 5)) := by
  obtain ⟨i, hi, hz0, hz1, hz2⟩ := info_parts infoByte
  rw [run_make w 22 5 i (.int .u8 0) Try.underlying22 hi hz0 .i64 .i64 n n (by omega) (Int.le_refl _) (by rw [hz2]; omega) (by omega), hz1]
  have e : madeCells (Value.int .u8 0).cells ((n : Int).toNat * 1) = Array.replicate n (.int .u8 0) := by
    apply Array.ext
    · simp [madeCells]
    · intro j h1 h2
      simp [madeCells, Value.cells, Nat.mod_one]
  rw [e]; simp

theorem ad_zeros (n m : Nat) (hm : m < 65521) : ad (1, m) (List.replicate n 0) = (1, (m + n) % 65521) := by
  induction n generalizing m with
  | zero => simp [ad]; omega
  | succ n ih =>
    rw [List.replicate_succ]
    show ad (adStep (1, m) 0) (List.replicate n 0) = _
    have e : adStep (1, m) 0 = (1, (m + 1) % 65521) := by simp [adStep]
    rw [e, ih _ (by omega)]
    congr 1; omega
theorem adler_zeros (n : Nat) : adler 1 (List.replicate n 0) = (n % 65521) * 65536 + 1 := by
  have e := ad_zeros n 0 (by decide)
  unfold adler
  rw [show ((1 : Nat) % 65536, 1 / 65536) = (1, 0) from rfl, e]; simp

theorem ad_small (l : List UInt8) : ∀ p : Nat × Nat, p.1 < 65521 → (ad p l).1 < 65521 := by
  induction l with
  | nil => intro p h; exact h
  | cons c l ih => intro p h; exact ih _ (by simp only [adStep]; omega)

theorem adler_nought (l : List UInt8) : adler 1 (l ++ [0]) % 65536 = adler 1 l % 65536 ∧ adler 1 (l ++ [0]) / 65536 = (adler 1 l / 65536 + adler 1 l % 65536) % 65521 := by
  have h1 := ad_small l (1, 0) (by decide)
  have h2 := ad_lt l (1, 0) (by decide) (by decide)
  unfold adler
  rw [show ((1 : Nat) % 65536, 1 / 65536) = (1, 0) from rfl, ad_append]
  generalize ad (1, 0) l = p at *
  have e : ad p [0] = (p.1 % 65521, (p.2 + p.1 % 65521) % 65521) := by simp [ad, adStep]
  rw [e]
  have hA : ∀ x y : Nat, y < 65536 → (x * 65536 + y) % 65536 = y ∧ (x * 65536 + y) / 65536 = x := fun x y h => by omega
  have e1 := hA p.2 p.1 h2.1
  have e2 := hA ((p.2 + p.1 % 65521) % 65521) (p.1 % 65521) (by omega)
  rw [e1.1, e1.2]
  refine ⟨e2.1.trans (Nat.mod_eq_of_lt h1), e2.2.trans ?_⟩
  rw [Nat.mod_eq_of_lt h1]

theorem u64_mod (n : Int) (K : Nat) (h0 : 0 < K) (h1 : K ≤ 9223372036854775807) : ∃ m : Nat, m < K ∧ wrap64 ((IntKind.u64.wrap n).tmod K) = (m : Int) := by
  have hw : IntKind.u64.wrap n = n % 18446744073709551616 := IntKind.wrap_u64 n
  have h2 : 0 ≤ n % 18446744073709551616 := Int.emod_nonneg _ (by decide)
  obtain ⟨u, hu⟩ := Int.eq_ofNat_of_zero_le h2
  refine ⟨u % K, Nat.mod_lt _ h0, ?_⟩
  rw [hw, hu, Int.tmod_eq_emod_of_nonneg (by omega), show ((u : Int) % (K : Int)) = ((u % K : Nat) : Int) from rfl, IntWalk.wrap64_in _ ⟨by omega, by have := Nat.mod_lt u h0; omega⟩]

theorem sumsZeros_walk (n : Int) (a : Option Addr) (len cap : Nat) (zs : List Int) (w : World) (hn0 : (Lit.int .i64 n).wf = true) (h : RowIn w a len cap zs) :
    Calls Try.prog 8 #[.int .i64 n, .slice a len cap] w fun e w' => e = .returned (.bool true) ∧ Below w.heap.size w w' := by
  obtain ⟨L, hL, hb, hle, hc, hn⟩ := open_row h
  obtain ⟨l, hl⟩ : ∃ l, l = L.take (min len 5000) := ⟨_, rfl⟩
  have hlen : l.length = min len 5000 := by rw [hl, List.length_take]; omega
  have hb1 : Bs w a l := hl ▸ hb.take _
  have hmax : l.length ≤ 5000 := by omega
  have HL := Lib.hid hlen
  have HN := Lib.hid hn
  clear hlen hl hn
  go_enter Try.func8, Try.ntmps8
  go_wp2_with fail
  obtain ⟨m, hm, em⟩ := u64_mod n 5000 (by decide) (by decide)
  have EM := Lib.hid em
  clear em
  refine (few_bs a len cap l _ hle hc HN.out HL.out).mono ?_
  rintro e w' ⟨rfl, rfl⟩
  rw [show ((5000 : Int)) = ((5000 : Nat) : Int) from rfl, EM.out]
  go_wp2_with fail
  refine (adler_any a cap l _ (by omega) hb1).mono ?_
  rintro e w' ⟨rfl, rfl⟩
  have how : OwnB (w.alloc (.cells #[] 5)) w.heap.size (.slice (some ⟨w.heap.size, 0, none⟩) 0 0) [] := World.ownsRow_made (size := 1) w #[] 0 (Nat.le_refl _) (by decide) rfl
  have hbel0 : Below w.heap.size w (w.alloc (.cells #[] 5)) := (Below.refl _ _).alloc (Nat.le_refl _) _
  go_wp2_with (first
    | (at_builtin; refine wpList_append_bytes rfl (.tmp 15) (.tmp 16) rfl w.heap.size (.slice (some ⟨w.heap.size, 0, none⟩) 0 0) [] rfl how a cap l rfl (hb1.below hbel0) (fun e => (HN.out e).2) (by simp; omega) (by simp) ?_; intro v1 w1 how1 hgr1; have hbel1 := hbel0.grown hgr1 (by simp) (by intro k hk; simp [Value.ownBlock] at hk; omega); have hbs1 : Bs (w1.alloc (.cells #[.int .u8 0] 5)) (some ⟨w1.heap.size, 0, none⟩) [0] := .block (heap_alloc_last _ _ _ rfl) rfl; have hbel1a := hbel1.alloc hbel1.size (.cells #[.int .u8 0] 5); have how1a := how1.below (w' := w1.alloc (.cells #[.int .u8 0] 5)) ((Below.refl _ _).alloc (Nat.le_refl _) _); clear hgr1)
    | (at_builtin; refine wpList_append_bytes rfl (.tmp 17) (.tmp 18) rfl w.heap.size v1 _ rfl how1a (some ⟨w1.heap.size, 0, none⟩) 1 [0] rfl hbs1 (by simp) (by simp; omega) hbel1a.size ?_; intro v2 w2 how2 hgr2; have hbel2 := hbel1a.grown hgr2 hbel1a.size (fun k hk => (how1a.lt k hk).1); clear hgr2))
  obtain ⟨a2, cap2, hv2, hb2, -, -, -⟩ := how2.bs
  rw [List.nil_append] at hv2 hb2
  have hmaxa : (l ++ [0]).length ≤ 9223372036854775807 := by rw [List.length_append]; simp; omega
  have hno := adler_nought l
  clear how2 how1 how how1a hbs1
  generalize l ++ [0] = ll at *
  subst hv2
  have HM := Lib.hid hmaxa
  clear hmaxa
  refine (adler_any a2 cap2 ll _ HM.out hb2).mono ?_
  rintro e w' ⟨rfl, rfl⟩
  have l1 := adler_lt 1 l (by decide)
  have l2 := adler_lt 1 ll (by decide)
  generalize adler 1 l = s at *
  generalize adler 1 ll = t at *
  have HNO := Lib.hid hno
  clear hno
  go_wp2_with fail
  refine (known_any _).mono ?_
  rintro e w3 ⟨rfl, hbel3⟩
  have hmk := run_make_bytes m (by omega)
  go_wp2_with fail
  have hbz : Bs (w3.alloc (.cells (Array.replicate m (.int .u8 0)) 5)) (some ⟨w3.heap.size, 0, none⟩) (List.replicate m 0) := .block (heap_alloc_last _ _ _ rfl) (by simp)
  have cz := adler_any (some ⟨w3.heap.size, 0, none⟩) m (List.replicate m 0) _ (by simp; omega) hbz
  rw [List.length_replicate, adler_zeros, Nat.mod_eq_of_lt (show m < 65521 by omega)] at cz
  refine cz.mono ?_
  rintro e w' ⟨rfl, rfl⟩
  clear cz hbz hmk
  have e1 : bits .or .u32 ((m : Int) % 65521 * 65536) 1 = (m : Int) * 65536 + 1 := by
    have h := u32_or_nat (m * 65536) 1 (by omega) (by decide)
    rw [show m * 65536 = m <<< 16 from by rw [Nat.shiftLeft_eq], ← Nat.shiftLeft_add_eq_or_of_lt (by omega), Nat.shiftLeft_eq] at h
    rw [show (m : Int) % 65521 * 65536 = ((m * 65536 : Nat) : Int) from by omega]
    simpa using h
  have mask : ∀ x : Nat, x < 4294967296 → bits .and .u32 (x : Int) 65535 = ((x % 65536 : Nat) : Int) := fun x hx => by
    have h := u32_and_nat x 65535 hx (by decide)
    rw [show (65535 : Nat) = 2 ^ 16 - 1 from rfl, Nat.and_two_pow_sub_one_eq_mod] at h
    exact h
  have e2 := mask t l2
  have e3 := mask s l1
  clear mask
  rw [HNO.out.1] at e2
  have e4 : (t : Int) / 65536 = ((s / 65536 : Nat) + (s % 65536 : Nat) : Int) % 65521 := by have := HNO.out.2; omega
  have e5 : (s : Int) / 65536 = ((s / 65536 : Nat) : Int) := by omega
  have b1 : s / 65536 < 65536 := by omega
  have b2 : s % 65536 < 65536 := by omega
  generalize s / 65536 = q at *
  generalize s % 65536 = r at *
  go_wp2_with fail
  go_ret
  exact ⟨rfl, (hbel2.trans (hbel3.mono hbel2.size)).alloc (Nat.le_trans hbel2.size hbel3.size) _⟩

end Go.Proofs.Ytfpklkncdimajaa
