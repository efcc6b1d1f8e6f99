/-
  Plain Lean: the steps that were written are the steps that are read.
-/
import Derived.Test.YtnppjhkhfjpkfaaDeltaMakePure
namespace Go.Proofs.Ytnppjhkhfjpkfaa

theorem insF_le (f : Nat) : ∀ t : List UInt8, t.length ≤ f → t.length ≤ (insF f t).length := by
  induction f with
  | zero => intro t h; omega
  | succ f ih =>
    intro t h
    rw [insF]
    split
    · omega
    · have := ih (t.drop (min t.length 127)) (by rw [List.length_drop]; omega)
      rw [List.length_drop] at this
      simp only [List.length_cons, List.length_append, List.length_take]; omega

theorem steps_ins (base : List UInt8) (b : Nat) (g : Nat) : ∀ (t r o : List UInt8) (f : Nat), t.length ≤ g → (insF g t ++ r).length < f → o.length + t.length ≤ b →
    ∃ f', r.length < f' ∧ steps base b f (insF g t ++ r) o = steps base b f' r (o ++ t) := by
  induction g with
  | zero =>
    intro t r o f h hf _
    have e : t = [] := List.eq_nil_of_length_eq_zero (by omega)
    subst e
    exact ⟨f, by simpa [insF] using hf, by simp [insF]⟩
  | succ g ih =>
    intro t r o f h hf hb
    rw [insF] at hf ⊢
    split
    · rename_i h0
      rw [if_pos h0] at hf
      have e : t = [] := List.eq_nil_of_length_eq_zero h0
      subst e
      exact ⟨f, by simpa using hf, by simp⟩
    · rename_i h0
      rw [if_neg h0] at hf
      obtain ⟨f, rfl⟩ : ∃ f', f = f' + 1 := ⟨f - 1, by omega⟩
      obtain ⟨n, hn⟩ : ∃ n, n = min t.length 127 := ⟨_, rfl⟩
      rw [← hn] at hf ⊢
      have e : (UInt8.ofNat n).toNat = n := by simp; omega
      have hl : (t.take n).length = n := by rw [List.length_take]; omega
      obtain ⟨f', hf', hs⟩ := ih (t.drop n) r (o ++ t.take n) f (by rw [List.length_drop]; omega) (by simp only [List.cons_append, List.length_cons, List.length_append] at hf ⊢; omega) (by rw [List.length_append, List.length_drop, hl]; omega)
      refine ⟨f', hf', ?_⟩
      rw [List.append_assoc, List.take_append_drop] at hs
      rw [← hs, List.cons_append, steps, e]
      simp only [List.append_assoc]
      rw [if_neg (by omega), if_pos (by omega), if_neg (by rw [List.length_append, hl]; omega), if_neg (by omega)]
      rw [List.drop_append_of_le_length (by omega), List.take_append_of_le_length (by omega)]
      rw [List.drop_of_length_le (by omega), List.take_of_length_le (by omega)]
      rfl

end Go.Proofs.Ytnppjhkhfjpkfaa
