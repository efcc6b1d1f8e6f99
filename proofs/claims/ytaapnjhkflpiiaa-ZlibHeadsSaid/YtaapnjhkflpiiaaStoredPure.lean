/-
  Plain Lean: bytes in blocks of their own.
-/
import Derived.Test.YtaapnjhkflpiiaaBase
namespace Go.Proofs.Ytaapnjhkflpiiaa

def storedHead (n last : Nat) : List UInt8 := [UInt8.ofNat last, UInt8.ofNat (n % 256), UInt8.ofNat (n / 256), UInt8.ofNat (255 - n % 256), UInt8.ofNat (255 - n / 256)]

def storedF : Nat → List UInt8 → List UInt8
  | 0, _ => []
  | f + 1, b =>
    let n := min b.length 65535
    if n = b.length then storedHead n 1 ++ b.take n else storedHead n 0 ++ b.take n ++ storedF f (b.drop n)
def storedOf (b : List UInt8) : List UInt8 := storedF (b.length + 1) b

theorem storedF_more (f : Nat) : ∀ (g : Nat) (b : List UInt8), b.length < f → f ≤ g → storedF g b = storedF f b := by
  induction f with
  | zero => intro g b h; omega
  | succ f ih =>
    intro g b h hg
    obtain ⟨g, rfl⟩ : ∃ g', g = g' + 1 := ⟨g - 1, by omega⟩
    simp only [storedF]
    split
    · rfl
    · rw [ih g _ (by rw [List.length_drop]; omega) (by omega)]

theorem storedF_len (f : Nat) : ∀ (b : List UInt8), b.length < f → (storedF f b).length = b.length + 5 * max 1 ((b.length + 65534) / 65535) := by
  induction f with
  | zero => intro b h; omega
  | succ f ih =>
    intro b h
    simp only [storedF]
    split
    · simp [storedHead]; omega
    · rename_i hn
      have := ih (b.drop (min b.length 65535)) (by rw [List.length_drop]; omega)
      rw [List.length_drop] at this
      simp only [List.length_append, this, List.length_take]
      simp [storedHead]; omega

theorem storedOf_len (b : List UInt8) : (storedOf b).length = b.length + 5 * max 1 ((b.length + 65534) / 65535) := storedF_len _ b (by omega)

end Go.Proofs.Ytaapnjhkflpiiaa
