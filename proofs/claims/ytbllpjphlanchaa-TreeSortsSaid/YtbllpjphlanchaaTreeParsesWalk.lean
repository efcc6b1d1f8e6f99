/-
  The law TreeParses, walked.
-/
import Derived.Test.YtbllpjphlanchaaParse10
import Derived.Test.YtbllpjphlanchaaRefParse10
import Derived.Test.YtbllpjphlanchaaFew10
import Derived.Test.YtbllpjphlanchaaKnown10
namespace Go.Proofs.Ytbllpjphlanchaa
open Go.RowKit Go.Mix Go.WideMaps

theorem modes_wf : ∀ m ∈ modesL, (Lit.int .i64 m).wf = true := by decide
theorem modeOf_mem {s : List UInt8} (h : modeOf s ≠ 0) : modeOf s ∈ modesL := by
  unfold modeOf at *
  cases hf : modesL.find? fun m => decide (digs m = s) with
  | none => rw [hf] at h; exact absurd rfl h
  | some m => exact List.mem_of_find?_eq_some hf
theorem stepE_wf {b r : List UInt8} {e : Ent} (h : stepE b = some (e, r)) : e.mode ∈ modesL := by
  unfold stepE at h
  split at h
  · cases h
  · split at h
    · cases h
    · split at h
      · rename_i hc
        injection h with h
        injection h with h _
        rw [← h]
        exact modeOf_mem hc.1
      · cases h
theorem readE_wf : ∀ (n : Nat) (b : List UInt8) (l : List Ent), readE n b = some l → l.length ≤ n ∧ ∀ p ∈ l, p.mode ∈ modesL ∧ p.name.length ≤ b.length
  | 0, b, l, h => by simp [readE] at h; subst h; exact ⟨Nat.le_refl _, fun _ h => (by simp at h)⟩
  | n + 1, b, l, h => by
    unfold readE at h
    split at h
    · injection h with h; subst h; exact ⟨Nat.zero_le _, fun _ h => (by simp at h)⟩
    · split at h
      · cases h
      · rename_i e r hs
        cases hr : readE n r with
        | none => rw [hr] at h; cases h
        | some m =>
          rw [hr] at h
          injection h with h
          subst h
          obtain ⟨h1, h2⟩ := readE_wf n r m hr
          refine ⟨by rw [List.length_cons]; omega, fun p hp => ?_⟩
          rcases List.mem_cons.1 hp with rfl | hp
          · exact ⟨stepE_wf hs, Nat.le_of_lt (stepE_name hs)⟩
          · have h3 := h2 p hp
            have h4 := stepE_len hs
            exact ⟨h3.1, by omega⟩
theorem readE_ents {b : List UInt8} {l : List Ent} (hb : b.length ≤ 10000) (h : readE b.length b = some l) : l.length ≤ 10000 ∧ ∀ p ∈ l, WfE p ∧ p.name.length ≤ 10000 := by
  obtain ⟨h1, h2⟩ := readE_wf _ _ _ h
  exact ⟨by omega, fun p hp => ⟨⟨modes_wf _ (h2 p hp).1, by have := (h2 p hp).2; omega⟩, by have := (h2 p hp).2; omega⟩⟩

set_option maxRecDepth 100000 in
set_option maxHeartbeats 4000000 in
theorem treeParses_walk (a : Option Addr) (len cap : Nat) (zs : List Int) (w : World)
    (h : (a = none ∧ len = 0 ∧ cap = 0 ∧ zs = []) ∨ ∃ x, a = some x ∧ len ≤ cap ∧ cap ≤ maxLen ∧ zs.length = cap ∧ (∀ i, i < zs.length → w.cell? (x.add i) = some (.int .u8 (zs.getD i 0))) ∧ ∀ n ∈ zs, (Lit.int .u8 n).wf = true) :
    Calls Try.prog 5 #[.slice a len cap] w fun e w' => e = .returned (.bool true) ∧ Below w.heap.size w w' := by
  obtain ⟨L, hLl, hL, hlc, hcm, hnone⟩ := open_row h
  clear h
  obtain ⟨q, hq⟩ : ∃ q, q = min len 4000 := ⟨_, rfl⟩
  have MR := min_run (len : Int) 4000 q (by split <;> omega)
  have SL : ∀ W : World, (Instr.slice 26 (.slice a len cap) none (some (.int .i64 (q : Int))) none).run Try.prog W = .ok (.slice a q cap) W := fun W => run_slice_to 26 Try.underlying26 a len cap q (by omega) (fun h => (hnone h).2) (n := 1) (fun w => by kernel_rfl) W
  obtain ⟨b, hb⟩ : ∃ b, b = L.take q := ⟨_, rfl⟩
  have hbl : b.length = q := by rw [hb, List.length_take]; omega
  have hs : Bs w a b := by rw [hb]; exact hL.take q
  have hb1 : b.length ≤ 10000 := by omega
  have hbc : b.length ≤ cap := by omega
  have hbn : a = none → cap = 0 := fun h => (hnone h).2
  clear hb hL hLl hq hnone
  subst hbl
  have CS : ∀ W, Below w.heap.size w W → (convert 26 9 (.slice a b.length cap)).run Try.prog W = .ok (.string (strOf b)) W := fun W hW => run_string_of_bytes (hs.below hW) _ 5 _ Try.underlying26 Try.underlying5 Try.underlying9 cap
  have C0 := CS w (Below.refl _ _)
  have CP := parse_any hs (by omega) hbc hbn
  have CRP : ∀ W, Below w.heap.size w W → _ := fun W hW => refParse_any (w := W) (hs.below hW) hb1 hbc hbn
  have CK := fun W => known_any W
  have HCS := Lib.hid CS
  have HCRP := Lib.hid CRP
  have HE := Lib.hid (readE_ents (b := b) (l := []) hb1)
  have HEE : Hid (∀ l, readE b.length b = some l → l.length ≤ 10000 ∧ ∀ p ∈ l, WfE p ∧ p.name.length ≤ 10000) := Lib.hid fun l h => readE_ents hb1 h
  have E1 : ((strOf b).toList == (strOf b).toList) = true := beq_self_eq_true _
  clear CS CRP hs hbc hbn HE hcm hlc
  obtain ⟨S, hS⟩ : ∃ S, S = strOf b := ⟨_, rfl⟩
  rw [← hS] at C0 E1
  have HS := Lib.hid hS
  clear hS
  generalize b.length = n at *
  go_enter Try.func5, Try.ntmps5
  go_wp2_with fail
  refine CP.mono ?_
  clear CP C0 SL MR
  rintro e w1 (⟨l, hl, hR, v, rfl, hown⟩ | ⟨hbad, rfl, hw1⟩)
  · obtain ⟨v, c, rfl, hrs, -⟩ := hown.rs tyE
    obtain ⟨hll, hlw⟩ := HEE.out l hl
    have HO := Lib.hid (And.intro hown.frame (And.intro hrs (And.intro hll (And.intro hlw (And.intro hl hR)))))
    have CR := HCRP.out w1 hown.frame
    clear hown hrs hll hlw hl hR
    go_wp2_with fail
    refine CR.mono ?_
    clear CR
    rintro e w2 (⟨l2, hl2, hR2, v2, rfl, hown2⟩ | ⟨hbad2, rfl, hw2⟩)
    case inr =>
      rcases hbad2 with h | ⟨l3, h3, h4⟩
      · rw [HO.out.2.2.2.2.1] at h; cases h
      · rw [HO.out.2.2.2.2.1] at h3; injection h3 with h3; exact absurd (h3 ▸ HO.out.2.2.2.2.2) h4
    have hl3 : l2 = l := by rw [HO.out.2.2.2.2.1] at hl2; injection hl2 with h; exact h.symm
    subst hl3
    obtain ⟨v2, c2, rfl, hrs2, -⟩ := hown2.rs tyF
    have H2 := Lib.hid (And.intro hrs2 hown2.frame)
    clear hown2 hrs2 hl2 hR2
    go_wp2_with fail
    refine (CK _).mono ?_
    clear CK
    rintro e w3 ⟨rfl, hw3⟩
    have g13 : Below w1.heap.size w1 w3 := H2.out.2.trans (hw3.mono H2.out.2.size)
    have CA := as_any (HO.out.2.1.below g13) (by have := HO.out.2.2.1; omega)
    have H3 := Lib.hid (And.intro (H2.out.1.below hw3) (HO.out.1.trans (g13.mono HO.out.1.size)))
    clear hw3 g13
    go_wp2_with fail
    refine CA.mono ?_
    clear CA
    rintro e w4 ⟨v4, rfl, hown4⟩
    obtain ⟨v4, c4, rfl, hrs4, -⟩ := hown4.rs tyF
    have CM := same_any hrs4 (H3.out.1.below hown4.frame) (fun p hp => (HO.out.2.2.2.1 p hp).1) (fun p hp => (HO.out.2.2.2.1 p hp).1)
    rw [decide_eq_true rfl] at CM
    have H4 := Lib.hid (H3.out.2.trans (hown4.frame.mono H3.out.2.size))
    clear hown4 hrs4
    go_wp2_with fail
    refine CM.mono ?_
    clear CM
    rintro e w5 ⟨rfl, hw5⟩
    have g5 := H4.out.trans (hw5.mono H4.out.size)
    have C5 := HCS.out w5 g5
    rw [← HS.out] at C5
    have H5 := Lib.hid g5
    clear hw5 g5
    go_wp2_with fail
    go_ret
    exact ⟨rfl, H5.out⟩
  · have HB := Lib.hid (And.intro hbad hw1)
    have CR := HCRP.out w1 hw1
    clear hbad hw1
    go_wp2_with fail
    refine CR.mono ?_
    clear CR
    rintro e w2 (⟨l2, hl2, hR2, v2, rfl, hown2⟩ | ⟨hbad2, rfl, hw2⟩)
    case inl =>
      rcases HB.out.1 with h | ⟨l3, h3, h4⟩
      · rw [h] at hl2; cases hl2
      · rw [h3] at hl2; injection hl2 with hl2; exact absurd (hl2 ▸ hR2) h4
    have H2 := Lib.hid (HB.out.2.trans (hw2.mono HB.out.2.size))
    clear hbad2 hw2
    go_wp2_with fail
    refine (CK _).mono ?_
    clear CK
    rintro e w3 ⟨rfl, hw3⟩
    have CA := as_any (RsAt.nil (enc := encE) (L := 22) w3) (by simp)
    change Calls _ _ #[.slice none 0 0] _ _ at CA
    have H3 := Lib.hid (H2.out.trans (hw3.mono H2.out.size))
    clear hw3
    go_wp2_with fail
    refine CA.mono ?_
    clear CA
    rintro e w4 ⟨v4, rfl, hown4⟩
    obtain ⟨v4, c4, rfl, hrs4, -⟩ := hown4.rs tyF
    have CM := same_any hrs4 (RsAt.nil (enc := encE) (L := 22) w4) (fun p hp => (by simp at hp)) (fun p hp => (by simp at hp))
    rw [decide_eq_true rfl] at CM
    change Calls _ _ #[.slice v4 0 c4, .slice none 0 0] _ _ at CM
    have H4 := Lib.hid (H3.out.trans (hown4.frame.mono H3.out.size))
    clear hown4 hrs4
    go_wp2_with fail
    refine CM.mono ?_
    clear CM
    rintro e w5 ⟨rfl, hw5⟩
    have g5 := H4.out.trans (hw5.mono H4.out.size)
    have C5 := HCS.out w5 g5
    rw [← HS.out] at C5
    have H5 := Lib.hid g5
    clear hw5 g5
    go_wp2_with fail
    go_ret
    exact ⟨rfl, H5.out⟩
end Go.Proofs.Ytbllpjphlanchaa
