/-
  The law ManifestParses, walked.
-/
import Derived.Test.YtifoledkmjlmoaaDoorKnown18
namespace Go.Proofs.YtifoledkmjlmoaaDoor
open Go.RowKit Go.Mix Go.WideMaps

theorem readM_len : ∀ {n : Nat} {s : List UInt8} {l : List MFile}, readM n s = some l → l.length ≤ n
  | _, [], l, h => by simp [readM] at h; subst h; exact Nat.zero_le _
  | 0, _ :: _, l, h => by simp [readM] at h
  | n + 1, c :: s, l, h => by
    unfold readM at h
    split at h
    · cases h
    · next f r hs =>
      obtain ⟨l', hl, rfl⟩ := Option.map_eq_some_iff.1 h
      have := readM_len hl
      simp; omega
theorem right_wf {l : List MFile} (h : RightM l) : ∀ p ∈ l, WfM p := fun p hp => by
  have := right_line h p hp
  exact ⟨by omega, by omega⟩

set_option maxRecDepth 100000 in
set_option maxHeartbeats 4000000 in
theorem manifestParses_walk (a : Option Addr) (len cap : Nat) (zs : List Int) (w : World)
    (h : (a = none ∧ len = 0 ∧ cap = 0 ∧ zs = []) ∨ ∃ x, a = some x ∧ len ≤ cap ∧ cap ≤ maxLen ∧ zs.length = cap ∧ (∀ i, i < zs.length → w.cell? (x.add i) = some (.int .u8 (zs.getD i 0))) ∧ ∀ n ∈ zs, (Lit.int .u8 n).wf = true) :
    Calls Tryd.prog 4 #[.slice a len cap] w fun e w' => e = .returned (.bool true) ∧ Below w.heap.size w w' := by
  obtain ⟨L, hLl, hL, hlc, hcm, hnone⟩ := open_row h
  clear h
  obtain ⟨q, hq⟩ : ∃ q, q = min len 3000 := ⟨_, rfl⟩
  have MR := min_run (len : Int) 3000 q (by split <;> omega)
  have SL : ∀ W : World, (Instr.slice 26 (.slice a len cap) none (some (.int .i64 (q : Int))) none).run Tryd.prog W = .ok (.slice a q cap) W := fun W => run_slice_to 26 Tryd.underlying26 a len cap q (by omega) (fun h => (hnone h).2) (n := 1) (fun w => by kernel_rfl) W
  obtain ⟨b, hb⟩ : ∃ b, b = L.take q := ⟨_, rfl⟩
  have hbl : b.length = q := by rw [hb, List.length_take]; omega
  have hs : Bs w a b := by rw [hb]; exact hL.take q
  have hb1 : b.length ≤ 10000 := by omega
  have hbc : b.length ≤ cap := by omega
  have hbn : a = none → cap = 0 := fun h => (hnone h).2
  have hsl : Sl w a cap b := ⟨hs, hbc, by have e2 : maxLen = 9223372036854775807 := (by decide); omega, hbn⟩
  clear hb hL hLl hq hnone
  subst hbl
  have CS : ∀ W, Below w.heap.size w W → (convert 26 9 (.slice a b.length cap)).run Tryd.prog W = .ok (.string (strOf b)) W := fun W hW => run_string_of_bytes (hs.below hW) _ 5 _ Tryd.underlying26 Tryd.underlying5 Tryd.underlying9 cap
  have C0 := CS w (Below.refl _ _)
  have CP := parse_any hsl (by omega)
  have CRP := fun W => refParM_any b (by omega) W
  have CK := fun W => known_any W
  have HCS := Lib.hid CS
  have HEE : Hid (∀ l, readM b.length b = some l → RightM l → l.length ≤ 10000 ∧ ∀ p ∈ l, WfM p) := Lib.hid fun l h hr => ⟨Nat.le_trans (readM_len h) hb1, right_wf hr⟩
  have E1 : ((strOf b).toList == (strOf b).toList) = true := beq_self_eq_true _
  clear CS hs hsl hbc hbn hcm hlc
  obtain ⟨S, hS⟩ : ∃ S, S = strOf b := ⟨_, rfl⟩
  rw [← hS] at C0 E1 CRP
  have HCRP := Lib.hid CRP
  have HS := Lib.hid hS
  clear hS CRP
  generalize b.length = n at *
  go_enter Tryd.func4, Tryd.ntmps4
  go_wp2_with fail
  refine CP.mono ?_
  clear CP C0 SL MR
  rintro e w1 (⟨l, hl, hR, v, rfl, hown⟩ | ⟨hbad, rfl, hw1⟩)
  · obtain ⟨v, c, rfl, hrs, -⟩ := hown.rs tyM
    obtain ⟨hll, hlw⟩ := HEE.out l hl hR
    have HO := Lib.hid (And.intro hown.frame (And.intro hrs (And.intro hll (And.intro hlw (And.intro hl hR)))))
    have CR := HCRP.out w1
    clear hown hrs hll hlw hl hR
    go_wp2_with fail
    refine CR.mono ?_
    clear CR
    rintro e w2 (⟨l2, hl2, hR2, v2, rfl, hown2⟩ | ⟨hbad2, rfl, hw2⟩)
    case inr =>
      rcases hbad2 with h | ⟨l3, h3, h4⟩
      · rw [HO.out.2.2.2.2.1] at h; cases h
      · rw [HO.out.2.2.2.2.1] at h3; injection h3 with h3; exact absurd (h3 ▸ HO.out.2.2.2.2.2) h4
    have hl3 : l2 = l := by rw [HO.out.2.2.2.2.1] at hl2; injection hl2 with h; exact h.symm
    subst hl3
    obtain ⟨v2, c2, rfl, hrs2, -⟩ := hown2.rs tyN
    have H2 := Lib.hid (And.intro hrs2 hown2.frame)
    clear hown2 hrs2 hl2 hR2
    go_wp2_with fail
    refine (CK _).mono ?_
    clear CK
    rintro e w3 ⟨rfl, hw3⟩
    have g13 : Below w1.heap.size w1 w3 := H2.out.2.trans (hw3.mono H2.out.2.size)
    have CA := as_any (HO.out.2.1.below g13) (by have := HO.out.2.2.1; omega)
    have H3 := Lib.hid (And.intro (H2.out.1.below hw3) (HO.out.1.trans (g13.mono HO.out.1.size)))
    clear hw3 g13
    go_wp2_with fail
    refine CA.mono ?_
    clear CA
    rintro e w4 ⟨v4, rfl, hown4⟩
    obtain ⟨v4, c4, rfl, hrs4, -⟩ := hown4.rs tyN
    have CM := same_any hrs4 (H3.out.1.below hown4.frame) (fun p hp => HO.out.2.2.2.1 p hp) (fun p hp => HO.out.2.2.2.1 p hp)
    rw [decide_eq_true rfl] at CM
    have H4 := Lib.hid (H3.out.2.trans (hown4.frame.mono H3.out.2.size))
    clear hown4 hrs4
    go_wp2_with fail
    refine CM.mono ?_
    clear CM
    rintro e w5 ⟨rfl, hw5⟩
    have g5 := H4.out.trans (hw5.mono H4.out.size)
    have C5 := HCS.out w5 g5
    rw [← HS.out] at C5
    have H5 := Lib.hid g5
    clear hw5 g5
    go_wp2_with fail
    go_ret
    exact ⟨rfl, H5.out⟩
  · have HB := Lib.hid (And.intro hbad hw1)
    have CR := HCRP.out w1
    clear hbad hw1
    go_wp2_with fail
    refine CR.mono ?_
    clear CR
    rintro e w2 (⟨l2, hl2, hR2, v2, rfl, hown2⟩ | ⟨hbad2, rfl, hw2⟩)
    case inl =>
      rcases HB.out.1 with h | ⟨l3, h3, h4⟩
      · rw [h] at hl2; cases hl2
      · rw [h3] at hl2; injection hl2 with hl2; exact absurd (hl2 ▸ hR2) h4
    have H2 := Lib.hid (HB.out.2.trans (hw2.mono HB.out.2.size))
    clear hbad2 hw2
    go_wp2_with fail
    refine (CK _).mono ?_
    clear CK
    rintro e w3 ⟨rfl, hw3⟩
    have CA := as_any (RsAt.nil (enc := encM) (L := 22) w3) (by simp)
    change Calls _ _ #[.slice none 0 0] _ _ at CA
    have H3 := Lib.hid (H2.out.trans (hw3.mono H2.out.size))
    clear hw3
    go_wp2_with fail
    refine CA.mono ?_
    clear CA
    rintro e w4 ⟨v4, rfl, hown4⟩
    obtain ⟨v4, c4, rfl, hrs4, -⟩ := hown4.rs tyN
    have CM := same_any hrs4 (RsAt.nil (enc := encM) (L := 22) w4) (fun p hp => (by simp at hp)) (fun p hp => (by simp at hp))
    rw [decide_eq_true rfl] at CM
    change Calls _ _ #[.slice v4 0 c4, .slice none 0 0] _ _ at CM
    have H4 := Lib.hid (H3.out.trans (hown4.frame.mono H3.out.size))
    clear hown4 hrs4
    go_wp2_with fail
    refine CM.mono ?_
    clear CM
    rintro e w5 ⟨rfl, hw5⟩
    have g5 := H4.out.trans (hw5.mono H4.out.size)
    have C5 := HCS.out w5 g5
    rw [← HS.out] at C5
    have H5 := Lib.hid g5
    clear hw5 g5
    go_wp2_with fail
    go_ret
    exact ⟨rfl, H5.out⟩
end Go.Proofs.YtifoledkmjlmoaaDoor
