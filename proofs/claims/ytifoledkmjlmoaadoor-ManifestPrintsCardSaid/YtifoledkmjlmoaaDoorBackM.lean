/-
  What is printed is read as it was; what is read is printed as it was: plain.
-/
import Derived.Test.YtifoledkmjlmoaaDoorPrintM
import Derived.Test.YtifoledkmjlmoaaDoorRefParM
namespace Go.Proofs.YtifoledkmjlmoaaDoor
open Go.RowKit Go.Mix Go.WideMaps

theorem cut_app {a rest : List UInt8} {c : UInt8} (h : c ∉ a) : cutA (a ++ c :: rest) c = a ∧ cutOk (a ++ c :: rest) c = true ∧ cutB (a ++ c :: rest) c = rest := by
  have hf : FirstAt (a ++ c :: rest) c a.length := by
    refine ⟨by simp, fun i hi e => ?_, .inr ?_⟩
    · rw [List.getElem?_append_left hi] at e
      exact h (List.mem_of_getElem? e)
    · rw [List.getElem?_append_right (Nat.le_refl _)]; simp
  obtain ⟨h1, h2, h3⟩ := first_cut hf
  have hl : a.length < (a ++ c :: rest).length := by simp
  refine ⟨by rw [h1]; simp, by rw [h2]; exact decide_eq_true hl, ?_⟩
  rw [h3 hl, List.drop_append]
  simp
theorem cut_join {l : List UInt8} {c : UInt8} (h : cutOk l c = true) : l = cutA l c ++ c :: cutB l c := by
  unfold cutA cutB
  rw [if_pos h, if_pos h]
  unfold cutOk at h
  have h0 := of_decide_eq_true h
  obtain ⟨h1, -⟩ := Lib.indexByte_some (l := l) (c := c) (o := (Lib.indexByte l c).toNat) (by omega)
  obtain ⟨h2, h3⟩ := List.getElem?_eq_some_iff.1 h1
  have := List.drop_eq_getElem_cons h2
  rw [h3] at this
  rw [← this, List.take_append_drop]
/-- A file whose line can be read. -/
structure LineOk (f : MFile) : Prop where
  p0 : (0 : UInt8) ∉ f.path
  p10 : (10 : UInt8) ∉ f.path
  f10 : (10 : UInt8) ∉ f.flag
theorem hexd_ten (n : Nat) (h : n < 16) : hexd n ≠ 10 := by
  have : ∀ n, n < 16 → hexd n ≠ 10 := by decide
  exact this n h
theorem hexL_ten (l : List UInt8) : (10 : UInt8) ∉ hexL l := by
  intro h
  unfold hexL at h
  obtain ⟨b, -, hb⟩ := List.mem_flatMap.1 h
  have h1 := hexd_ten (b.toNat / 16) (by have := b.toNat_lt; omega)
  have h2 := hexd_ten (b.toNat % 16) (by omega)
  simp at hb
  rcases hb with e | e
  · exact h1 e.symm
  · exact h2 e.symm
theorem step_line {f : MFile} (h : LineOk f) (rest : List UInt8) : stepP (lineM f ++ rest) = some (f, rest) := by
  have e : lineM f ++ rest = (f.path ++ 0 :: (hexL f.node.1 ++ f.flag)) ++ 10 :: rest := by simp [lineM, List.append_assoc]
  have hn : (10 : UInt8) ∉ f.path ++ 0 :: (hexL f.node.1 ++ f.flag) := by
    intro hm
    rcases List.mem_append.1 hm with hm | hm
    · exact h.p10 hm
    · rcases List.mem_cons.1 hm with hm | hm
      · exact absurd hm (by decide)
      · rcases List.mem_append.1 hm with hm | hm
        · exact hexL_ten _ hm
        · exact h.f10 hm
  obtain ⟨a1, a2, a3⟩ := cut_app (rest := rest) hn
  obtain ⟨b1, b2, b3⟩ := cut_app (rest := hexL f.node.1 ++ f.flag) h.p0
  have hl : (hexL f.node.1).length = 40 := by rw [hexL_len, f.node.2]
  have ht : (hexL f.node.1 ++ f.flag).take 40 = hexL f.node.1 := by
    rw [List.take_append_of_le_length (by omega), List.take_of_length_le (by omega)]
  have hd : (hexL f.node.1 ++ f.flag).drop 40 = f.flag := by
    rw [List.drop_append, List.drop_of_length_le (by omega), hl]; simp
  rw [e]
  unfold stepP
  rw [a1, a2, a3, b1, b2, b3, ht, hd, unhex_some rfl]
  rfl
theorem line_step {s r : List UInt8} {f : MFile} (h : stepP s = some (f, r)) : s = lineM f ++ r := by
  unfold stepP at h
  split at h
  · next hc =>
    rw [Bool.and_eq_true] at hc
    have j1 := cut_join hc.1
    have j2 := cut_join hc.2
    split at h
    · next x hu =>
      simp only [Option.some.injEq, Prod.mk.injEq] at h
      obtain ⟨rfl, rfl⟩ := h
      have hx : (cutB (cutA s 10) 0).take 40 = hexL x.1 := by
        rcases unhex_cases ((cutB (cutA s 10) 0).take 40) with ⟨y, hy, hy2⟩ | ⟨_, hn⟩
        · rw [hy2] at hu
          injection hu with e
          rw [← e]; exact hy
        · rw [hn] at hu; cases hu
      have j3 := (List.take_append_drop 40 (cutB (cutA s 10) 0)).symm
      rw [hx] at j3
      unfold lineM
      show s = cutA (cutA s 10) 0 ++ [0] ++ hexL x.1 ++ (cutB (cutA s 10) 0).drop 40 ++ [10] ++ cutB s 10
      calc s = cutA s 10 ++ 10 :: cutB s 10 := j1
        _ = (cutA (cutA s 10) 0 ++ 0 :: (hexL x.1 ++ (cutB (cutA s 10) 0).drop 40)) ++ 10 :: cutB s 10 := by rw [← j3, ← j2]
        _ = _ := by simp [List.append_assoc]
    · cases h
  · cases h
theorem read_text : ∀ l : List MFile, (∀ f ∈ l, LineOk f) → readM (textM l).length (textM l) = some l
  | [], _ => by simp [textM, readM]
  | f :: l, h => by
    have e : textM (f :: l) = lineM f ++ textM l := by unfold textM; rw [List.flatMap_cons]
    have hs := step_line (h f (by simp)) (textM l)
    rw [← e] at hs
    rw [readM_some hs, read_text l fun g hg => h g (by simp [hg])]; rfl
theorem text_read : ∀ (n : Nat) (s : List UInt8) (l : List MFile), readM n s = some l → textM l = s
  | _, [], l, h => by simp [readM] at h; subst h; rfl
  | 0, _ :: _, l, h => by simp [readM] at h
  | n + 1, c :: s, l, h => by
    unfold readM at h
    split at h
    · cases h
    · next f r hs =>
      obtain ⟨l', hl, rfl⟩ := Option.map_eq_some_iff.1 h
      have := text_read n r l' hl
      have e : textM (f :: l') = lineM f ++ textM l' := by unfold textM; rw [List.flatMap_cons]
      show textM (f :: l') = _
      rw [e, this, ← line_step hs]
theorem path_ok {p : List UInt8} (h : pathL p = true) : (0 : UInt8) ∉ p ∧ (10 : UInt8) ∉ p ∧ p.length ≤ 255 := by
  unfold pathL at h
  simp only [Bool.and_eq_true, Bool.not_eq_true', decide_eq_true_eq, List.any_eq_false] at h
  refine ⟨fun hm => ?_, fun hm => ?_, h.1.1⟩
  · exact h.1.2 0 hm (by decide)
  · exact h.1.2 10 hm (by decide)
theorem right_line {l : List MFile} (h : RightM l) : ∀ f ∈ l, LineOk f ∧ f.path.length ≤ 255 ∧ f.flag.length ≤ 1 := by
  intro f hf
  obtain ⟨i, hi, rfl⟩ := List.mem_iff_getElem.1 hf
  have h1 := h.1 i hi
  unfold stepM at h1
  rw [getElem!_pos l i hi] at h1
  simp only [Bool.and_eq_true] at h1
  have hp := path_ok h1.1.1
  have hfl : (10 : UInt8) ∉ l[i].flag ∧ l[i].flag.length ≤ 1 := by
    have h2 := h1.1.2
    unfold flagB at h2
    simp only [Bool.or_eq_true, decide_eq_true_eq] at h2
    rcases h2 with (e | e) | e <;> rw [e] <;> exact ⟨by decide, by decide⟩
  exact ⟨⟨hp.1, hp.2.1, hfl.1⟩, hp.2.2, hfl.2⟩
theorem read_right {l : List MFile} (h : RightM l) : readM (textM l).length (textM l) = some l := read_text l fun f hf => (right_line h f hf).1
end Go.Proofs.YtifoledkmjlmoaaDoor
