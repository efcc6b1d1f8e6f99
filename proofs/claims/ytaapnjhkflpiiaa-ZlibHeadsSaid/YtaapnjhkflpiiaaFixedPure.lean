/-
  Plain Lean: what is packed by the codes that are given.
-/
import Derived.Test.YtaapnjhkflpiiaaCode
import Derived.Test.YtaapnjhkflpiiaaStoredPure
namespace Go.Proofs.Ytaapnjhkflpiiaa

def comF : List UInt8 → List UInt8 → Nat
  | x :: xs, y :: ys => if x = y then comF xs ys + 1 else 0
  | _, _ => 0

theorem comF_nil_left (b : List UInt8) : comF [] b = 0 := by cases b <;> rfl
theorem comF_nil_right (a : List UInt8) : comF a [] = 0 := by cases a <;> rfl
/-- How two rows go on alike behind k bytes of the one, j of the other. -/
theorem com_at (b : List UInt8) (k j : Nat) : comF (b.drop k) (b.drop j) = if h : k < b.length ∧ j < b.length then (if b[k]'h.1 = b[j]'h.2 then comF (b.drop (k + 1)) (b.drop (j + 1)) + 1 else 0) else 0 := by
  split
  · rename_i h
    rw [List.drop_eq_getElem_cons h.1, List.drop_eq_getElem_cons h.2, comF]
  · rename_i h
    rcases Nat.lt_or_ge k b.length with h1 | h1
    · rw [List.drop_of_length_le (show b.length ≤ j by omega), comF_nil_right]
    · rw [List.drop_of_length_le h1, comF_nil_left]

/-- The last place ahead of n where three bytes stand. -/
def lastSeen (b key : List UInt8) : Nat → Option Nat
  | 0 => none
  | n + 1 => if n + 3 ≤ b.length ∧ (b.drop n).take 3 = key then some n else lastSeen b key n

theorem lastSeen_lt (b key : List UInt8) (n p : Nat) (h : lastSeen b key n = some p) : p < n := by
  induction n with
  | zero => simp [lastSeen] at h
  | succ n ih =>
    rw [lastSeen] at h
    split at h
    · injection h with h; omega
    · have := ih h; omega

/-- How many bytes come again, and from how far back. -/
def again (b : List UInt8) (at_ : Nat) : Nat × Nat :=
  if at_ + 3 ≤ b.length then match lastSeen b ((b.drop at_).take 3) at_ with
    | some was => if at_ - was ≤ 32768 then (min 258 (comF (b.drop was) (b.drop at_)), at_ - was) else (0, 0)
    | none => (0, 0)
  else (0, 0)

def fixedGo (b : List UInt8) : Nat → Nat → List Nat
  | 0, _ => []
  | f + 1, at_ => if at_ < b.length then
      if 3 ≤ (again b at_).1 then lengthBits (again b at_).1 ++ distBits (again b at_).2 ++ fixedGo b f (at_ + (again b at_).1)
      else signBits (b.getD at_ 0).toNat ++ fixedGo b f (at_ + 1)
    else []
def fixedBits (b : List UInt8) : List Nat := numBits 3 3 ++ fixedGo b (b.length + 1) 0 ++ signBits 256
def fixedOf (b : List UInt8) : List UInt8 := packB (fixedBits b)
def rawPackOf (b : List UInt8) : List UInt8 := if (fixedOf b).length ≤ (storedOf b).length then fixedOf b else storedOf b

theorem lengthBits_isBits (n : Nat) : IsBits (lengthBits n) := by
  unfold lengthBits; split
  · exact signBits_isBits _
  · split
    · exact signBits_isBits _
    · exact (signBits_isBits _).app (numBits_isBits _ _)
theorem distBits_isBits (n : Nat) : IsBits (distBits n) := by
  unfold distBits; split
  · exact codeBits_isBits _ _
  · exact (codeBits_isBits _ _).app (numBits_isBits _ _)
theorem lengthBits_len (n : Nat) (h : n ≤ 258) : (lengthBits n).length ≤ 25 := by
  unfold lengthBits
  have := moreF_stop 8 (n - 3) (by decide) 16 0 rfl (by omega)
  split
  · have := signBits_len 285; omega
  · split
    · have := signBits_len (257 + (n - 3)); omega
    · rw [List.length_append, numBits_len]
      have := signBits_len (257 + 4 * (moreF 8 (n - 3) 16 0 + 1) + (n - 3) / 2 ^ moreF 8 (n - 3) 16 0 % 4)
      omega
theorem distBits_len (n : Nat) (h : n ≤ 32768) : (distBits n).length ≤ 21 := by
  unfold distBits
  have := moreF_stop 4 (n - 1) (by decide) 16 0 rfl (by omega)
  split
  · rw [codeBits_len]; omega
  · rw [List.length_append, numBits_len, codeBits_len]; omega

theorem again_bounds (b : List UInt8) (at_ : Nat) : (again b at_).1 ≤ 258 ∧ (again b at_).2 ≤ 32768 ∧ (3 ≤ (again b at_).1 → 1 ≤ (again b at_).2 ∧ at_ + 3 ≤ b.length) := by
  unfold again
  split
  · rename_i h3
    split
    · rename_i was hs
      have := lastSeen_lt _ _ _ _ hs
      split
      · simp only; omega
      · simp
    · simp
  · simp

theorem comF_le : ∀ a b : List UInt8, comF a b ≤ b.length
  | [], b => by rw [comF_nil_left]; omega
  | x :: xs, [] => by simp [comF]
  | x :: xs, y :: ys => by
    rw [comF]
    split
    · have := comF_le xs ys; simp; omega
    · simp

theorem again_end (b : List UInt8) (at_ : Nat) : at_ + (again b at_).1 ≤ max at_ b.length := by
  unfold again
  split
  · split
    · rename_i was hs
      split
      · have := comF_le (b.drop was) (b.drop at_)
        rw [List.length_drop] at this
        simp only; omega
      · simp only; omega
    · simp only; omega
  · simp only; omega

end Go.Proofs.Ytaapnjhkflpiiaa
