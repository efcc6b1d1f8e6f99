/-
  Plain Lean: the same byte many times is packed into few bytes.
-/
import Derived.Test.YtaapnjhkflpiiaaBackPure
namespace Go.Proofs.Ytaapnjhkflpiiaa

theorem comF_rep (c : UInt8) : ∀ a b, comF (List.replicate a c) (List.replicate b c) = min a b := by
  intro a
  induction a with
  | zero => intro b; rw [List.replicate_zero, comF_nil_left]; omega
  | succ a ih =>
    intro b
    cases b with
    | zero => rw [List.replicate_zero, comF_nil_right]; omega
    | succ b => rw [List.replicate_succ, List.replicate_succ, comF, if_pos rfl, ih]; omega

theorem again_rep (n : Nat) (c : UInt8) (i : Nat) (h1 : 1 ≤ i) (h3 : i + 3 ≤ n) : again (List.replicate n c) i = (min 258 (n - i), 1) := by
  unfold again
  rw [List.length_replicate, if_pos h3]
  obtain ⟨j, rfl⟩ : ∃ j, i = j + 1 := ⟨i - 1, by omega⟩
  have hs : lastSeen (List.replicate n c) (((List.replicate n c).drop (j + 1)).take 3) (j + 1) = some j := by
    rw [lastSeen, if_pos]
    refine ⟨by rw [List.length_replicate]; omega, ?_⟩
    rw [List.drop_replicate, List.drop_replicate, List.take_replicate, List.take_replicate]
    congr 1
    omega
  rw [hs]
  dsimp only
  rw [if_pos (by omega), List.drop_replicate, List.drop_replicate, comF_rep]
  congr 1
  · omega
  · omega

theorem again_short (b : List UInt8) (i : Nat) (h3 : b.length < i + 3) : again b i = (0, 0) := by
  unfold again
  rw [if_neg (by omega)]

/-- How many bits the last r bytes take. -/
def bnd (r : Nat) : Nat := if r < 3 then 9 * r else 46 + 13 * (r / 258)

theorem fixedGo_rep (n : Nat) (c : UInt8) : ∀ f i, 1 ≤ i → i ≤ n → (fixedGo (List.replicate n c) f i).length ≤ bnd (n - i) := by
  intro f
  induction f with
  | zero => intro i _ _; rw [fixedGo]; exact Nat.zero_le _
  | succ f ih =>
    intro i h1 hi
    rw [fixedGo]
    split
    · rename_i hlt
      rw [List.length_replicate] at hlt
      by_cases h3 : i + 3 ≤ n
      · rw [again_rep n c i h1 h3]
        dsimp only
        have hd : (distBits 1).length = 5 := by decide
        rw [if_pos (by omega), List.length_append, List.length_append, hd]
        by_cases h258 : n - i ≤ 258
        · have hm : min 258 (n - i) = n - i := by omega
          rw [hm]
          have h2 := ih (i + (n - i)) (by omega) (by omega)
          have e0 : n - (i + (n - i)) = 0 := by omega
          rw [e0] at h2
          have hl := lengthBits_len (n - i) h258
          have hb0 : bnd 0 = 0 := rfl
          have hb : bnd (n - i) = 46 + 13 * ((n - i) / 258) := by unfold bnd; rw [if_neg (by omega)]
          omega
        · have hm : min 258 (n - i) = 258 := by omega
          rw [hm]
          have h2 := ih (i + 258) (by omega) (by omega)
          have hl : (lengthBits 258).length = 8 := by decide +kernel
          have hb : bnd (n - i) = 46 + 13 * ((n - i) / 258) := by unfold bnd; rw [if_neg (by omega)]
          rw [hl, hb]
          unfold bnd at h2
          split at h2
          · omega
          · omega
      · rw [again_short _ _ (by rw [List.length_replicate]; omega)]
        dsimp only
        rw [if_neg (by decide), List.length_append]
        have h2 := ih (i + 1) (by omega) (by omega)
        have hl := signBits_len ((List.replicate n c).getD i 0).toNat
        have hb : bnd (n - i) = 9 * (n - i) := by unfold bnd; rw [if_pos (by omega)]
        have hb2 : bnd (n - (i + 1)) = 9 * (n - (i + 1)) := by unfold bnd; rw [if_pos (by omega)]
        omega
    · exact Nat.zero_le _

theorem fixedGo_zero (n : Nat) (c : UInt8) (f : Nat) : (fixedGo (List.replicate n c) f 0).length ≤ 9 + bnd (n - 1) := by
  cases f with
  | zero => exact Nat.zero_le _
  | succ f =>
    rw [fixedGo]
    split
    · rename_i hlt
      rw [List.length_replicate] at hlt
      have ha : again (List.replicate n c) 0 = (0, 0) := by
        unfold again
        split
        · rfl
        · rfl
      rw [ha]
      dsimp only
      rw [if_neg (by decide), List.length_append]
      have h2 := fixedGo_rep n c f 1 (by omega) (by omega)
      have hl := signBits_len ((List.replicate n c).getD 0 0).toNat
      rw [Nat.zero_add]
      omega
    · exact Nat.zero_le _

theorem pack_rep (n : Nat) (c : UInt8) : (rawPackOf (List.replicate n c)).length ≤ 20 + n / 50 := by
  have h : (fixedOf (List.replicate n c)).length ≤ 20 + n / 50 := by
    unfold fixedOf fixedBits
    rw [packB_len, List.length_append, List.length_append, numBits_len]
    have h1 := fixedGo_zero n c ((List.replicate n c).length + 1)
    have h2 := signBits_len 256
    unfold bnd at h1
    split at h1
    · omega
    · omega
  unfold rawPackOf
  split
  · exact h
  · omega

end Go.Proofs.Ytaapnjhkflpiiaa
