/-
  Plain: sorted texts, one more put in where it belongs.
-/
import Derived.Test.YtifoledkmjlmoaaDoorBy18
namespace Go.Proofs.YtifoledkmjlmoaaDoor
open Go.Sort

theorem lt_of_notM {x y : List UInt8} (h : ¬ x < y) (hne : x ≠ y) : y < x := by
  have h1 : y ≤ x := List.not_lt.1 h
  rcases List.le_iff_lt_or_eq.1 h1 with h | h
  · exact h
  · exact absurd h.symm hne
/-- What the document's Diff has found behind some of the files. -/
structure DifS (l m all : List MFile) (out : List (List UInt8)) : Prop where
  srt : out.Pairwise fun x y => x < y
  mem : ∀ x, x ∈ out ↔ ∃ p ∈ all, p.path = x ∧ ofL l x ≠ ofL m x
  len : out.length ≤ all.length
theorem DifS.nil (l m : List MFile) : DifS l m [] [] := ⟨List.Pairwise.nil, by simp, Nat.le_refl _⟩
theorem DifS.skip {l m all : List MFile} {out : List (List UInt8)} (h : DifS l m all out) (p : MFile) (hp : ofL l p.path = ofL m p.path ∨ p.path ∈ out) : DifS l m (all ++ [p]) out := by
  refine ⟨h.srt, fun x => ?_, by rw [List.length_append]; have := h.len; omega⟩
  rw [h.mem]
  constructor
  · rintro ⟨q, hq, h1⟩
    exact ⟨q, List.mem_append_left _ hq, h1⟩
  · rintro ⟨q, hq, h1, h2⟩
    rcases List.mem_append.1 hq with hq | hq
    · exact ⟨q, hq, h1, h2⟩
    · rw [List.mem_singleton] at hq
      subst hq
      rcases hp with hp | hp
      · exact absurd (h1 ▸ hp) h2
      · obtain ⟨r, hr, h3, h4⟩ := (h.mem _).1 hp
        exact ⟨r, hr, h3.trans h1, h2⟩
theorem DifS.put {l m all : List MFile} {out : List (List UInt8)} (h : DifS l m all out) (p : MFile) (hp : ofL l p.path ≠ ofL m p.path) {k : Nat} (hk : k ≤ out.length)
    (h1 : ∀ i, i < k → out[i]! < p.path) (h2 : k < out.length → ¬ out[k]! < p.path ∧ out[k]! ≠ p.path) : DifS l m (all ++ [p]) (out.take k ++ [p.path] ++ out.drop k) := by
  have hs := h.srt
  have hto : out.take k ++ out.drop k = out := List.take_append_drop k out
  have ha : ∀ x ∈ out.take k, x < p.path := fun x hx => by
    obtain ⟨i, hi, rfl⟩ := List.getElem_of_mem hx
    rw [List.length_take] at hi
    have := h1 i (by omega)
    rw [getElem!_pos out i (by omega)] at this
    rw [List.getElem_take]
    exact this
  have hb : ∀ x ∈ out.drop k, p.path < x := fun x hx => by
    obtain ⟨i, hi, rfl⟩ := List.getElem_of_mem hx
    rw [List.length_drop] at hi
    have hkl : k < out.length := by omega
    have h3 := h2 hkl
    rw [getElem!_pos out k hkl] at h3
    have h4 := lt_of_notM h3.1 h3.2
    rw [List.getElem_drop]
    by_cases h0 : i = 0
    · subst h0; exact h4
    · exact List.lt_trans h4 (List.pairwise_iff_getElem.1 hs k (k + i) hkl (by omega) (by omega))
  rw [← hto, List.pairwise_append] at hs
  refine ⟨?_, fun x => ?_, ?_⟩
  · rw [List.append_assoc, List.pairwise_append]
    refine ⟨hs.1, ?_, ?_⟩
    · rw [List.singleton_append, List.pairwise_cons]
      exact ⟨hb, hs.2.1⟩
    · intro x hx y hy
      rcases List.mem_append.1 hy with hy | hy
      · rw [List.mem_singleton] at hy; subst hy; exact ha x hx
      · exact hs.2.2 x hx y hy
  · have e : x ∈ out.take k ++ [p.path] ++ out.drop k ↔ x ∈ out ∨ x = p.path := by
      have hm : x ∈ out ↔ x ∈ out.take k ∨ x ∈ out.drop k := by rw [← List.mem_append, List.take_append_drop]
      rw [hm, List.mem_append, List.mem_append, List.mem_singleton]
      constructor
      · rintro ((a | a) | a)
        · exact .inl (.inl a)
        · exact .inr a
        · exact .inl (.inr a)
      · rintro ((a | a) | a)
        · exact .inl (.inl a)
        · exact .inr a
        · exact .inl (.inr a)
    rw [e, h.mem]
    constructor
    · rintro (⟨q, hq, h3⟩ | rfl)
      · exact ⟨q, List.mem_append_left _ hq, h3⟩
      · exact ⟨p, by simp, rfl, hp⟩
    · rintro ⟨q, hq, h3, h4⟩
      rcases List.mem_append.1 hq with hq | hq
      · exact .inl ⟨q, hq, h3, h4⟩
      · rw [List.mem_singleton] at hq; subst hq; exact .inr h3.symm
  · have h3 := h.len
    simp only [List.length_append, List.length_take, List.length_drop, List.length_singleton]
    omega
theorem DifS.eq {l m : List MFile} {out : List (List UInt8)} (h : DifS l m (l ++ m) out) : out = diffL l m := by
  unfold diffL
  have hn : out.Nodup := h.srt.imp fun {x y} hxy e => by subst e; exact List.lt_irrefl _ hxy
  have hp : out.Perm (diffK l m (l ++ m)) := (List.perm_ext_iff_of_nodup hn (diffK_nodup _ _ _)).2 fun x => by rw [h.mem, diffK_mem]
  rw [← mergeSort_of_perm hp]
  refine (List.mergeSort_of_pairwise (h.srt.imp fun {x y} hxy => ?_)).symm
  exact decide_eq_true (List.le_of_lt hxy)
end Go.Proofs.YtifoledkmjlmoaaDoor
