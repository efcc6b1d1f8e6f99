/-
  The laws SumsAre and SumsMore, walked.
-/
import Derived.Test.YtfpklkncdimajaaSumsKnown
namespace Go.Proofs.Ytfpklkncdimajaa
open Go.RowKit

def RowIn (w : World) (a : Option Addr) (len cap : Nat) (zs : List Int) : Prop :=
  (a = none ∧ len = 0 ∧ cap = 0 ∧ zs = []) ∨ ∃ x, a = some x ∧ len ≤ cap ∧ cap ≤ maxLen ∧ zs.length = cap ∧ (∀ i, i < zs.length → w.cell? (x.add i) = some (.int .u8 (zs.getD i 0))) ∧ ∀ n ∈ zs, (Lit.int .u8 n).wf = true

theorem sumsAre_walk (a : Option Addr) (len cap : Nat) (zs : List Int) (w : World) (h : RowIn w a len cap zs) :
    Calls Try.prog 3 #[.slice a len cap] w fun e w' => e = .returned (.bool true) ∧ Below w.heap.size w w' := by
  obtain ⟨L, hL, hb, hle, hc, hn⟩ := open_row h
  obtain ⟨l, hl⟩ : ∃ l, l = L.take (min len 5000) := ⟨_, rfl⟩
  have hlen : l.length = min len 5000 := by rw [hl, List.length_take]; omega
  have hb1 : Bs w a l := hl ▸ hb.take _
  have hmax : l.length ≤ 9223372036854775807 := by omega
  have HL := Lib.hid hlen
  clear hlen hl
  have hs1 := run_string_of_bytes (P := Try.prog) hb1 22 5 9 Try.underlying22 Try.underlying5 Try.underlying9 cap
  go_enter Try.func3, Try.ntmps3
  go_wp2_with fail
  refine (few_bs a len cap l _ hle hc hn HL.out).mono ?_
  rintro e w' ⟨rfl, rfl⟩
  go_wp2_with fail
  refine (known_any _).mono ?_
  rintro e w1 ⟨rfl, hbel⟩
  have hb2 := hb1.below hbel
  have hs2 := run_string_of_bytes (P := Try.prog) hb2 22 5 9 Try.underlying22 Try.underlying5 Try.underlying9 cap
  go_wp2_with fail
  refine (adler_any a cap l _ hmax hb2).mono ?_
  rintro e w' ⟨rfl, rfl⟩
  go_wp2_with fail
  refine (refAdler_any a cap l 1 _ (by decide) hmax hb2).mono ?_
  rintro e w' ⟨rfl, rfl⟩
  go_wp2_with fail
  refine (crc_any a cap l _ hmax hb2).mono ?_
  rintro e w' ⟨rfl, rfl⟩
  go_wp2_with fail
  refine (refCrc_any a cap l 0 _ (by decide) hmax hb2).mono ?_
  rintro e w' ⟨rfl, rfl⟩
  go_wp2_with fail
  go_ret
  exact ⟨rfl, hbel⟩

theorem sumsMore_walk (s : Int) (a : Option Addr) (len cap : Nat) (zs : List Int) (w : World) (hs : (Lit.int .u32 s).wf = true) (h : RowIn w a len cap zs) :
    Calls Try.prog 4 #[.int .u32 s, .slice a len cap] w fun e w' => e = .returned (.bool true) ∧ Below w.heap.size w w' := by
  obtain ⟨L, hL, hb, hle, hc, hn⟩ := open_row h
  obtain ⟨l, hl⟩ : ∃ l, l = L.take (min len 5000) := ⟨_, rfl⟩
  have hlen : l.length = min len 5000 := by rw [hl, List.length_take]; omega
  have hb1 : Bs w a l := hl ▸ hb.take _
  have hmax : l.length ≤ 9223372036854775807 := by omega
  have HL := Lib.hid hlen
  clear hlen hl
  obtain ⟨u, rfl, hu⟩ := u32_of_wf hs
  go_enter Try.func4, Try.ntmps4
  go_wp2_with fail
  refine (few_bs a len cap l _ hle hc hn HL.out).mono ?_
  rintro e w' ⟨rfl, rfl⟩
  go_wp2_with fail
  refine (known_any _).mono ?_
  rintro e w1 ⟨rfl, hbel⟩
  have hb2 := hb1.below hbel
  go_wp2_with fail
  refine (adlerMore_any a cap l u _ hu hmax hb2).mono ?_
  rintro e w' ⟨rfl, rfl⟩
  go_wp2_with fail
  refine (refAdler_any a cap l u _ hu hmax hb2).mono ?_
  rintro e w' ⟨rfl, rfl⟩
  go_wp2_with fail
  refine (crcMore_any a cap l u _ hu hmax hb2).mono ?_
  rintro e w' ⟨rfl, rfl⟩
  go_wp2_with fail
  refine (refCrc_any a cap l u _ hu hmax hb2).mono ?_
  rintro e w' ⟨rfl, rfl⟩
  go_wp2_with fail
  go_ret
  exact ⟨rfl, hbel⟩

end Go.Proofs.Ytfpklkncdimajaa
