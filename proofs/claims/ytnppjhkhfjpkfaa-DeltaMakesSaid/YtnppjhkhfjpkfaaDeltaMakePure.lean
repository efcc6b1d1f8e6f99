/-
  Plain Lean: a delta that is made, and what it makes of its base.
-/
import Derived.Test.YtnppjhkhfjpkfaaDeltaPure
namespace Go.Proofs.Ytnppjhkhfjpkfaa

/-- A number's sevens, the lowest first. -/
def lebF : Nat → Nat → List UInt8
  | 0, _ => []
  | f + 1, n => if n ≤ 127 then [UInt8.ofNat n] else UInt8.ofNat (n % 128 + 128) :: lebF f (n / 128)
def lebOf (n : Nat) : List UInt8 := lebF 10 n

theorem lebF_le (f : Nat) : ∀ n, (lebF f n).length ≤ f := by
  induction f with
  | zero => intro n; simp [lebF]
  | succ f ih =>
    intro n
    rw [lebF]
    split
    · simp
    · have := ih (n / 128); simp; omega

theorem lebF_back (f : Nat) : ∀ (n i k : Nat) (r : List UInt8), 1 ≤ f → i + f ≤ 12 → n < 2 ^ (7 * f) → n * 2 ^ (7 * i) < 4611686018427387904 → 
    lebGo (lebF f n ++ r) i k = (k + n * 2 ^ (7 * i), i + (lebF f n).length, 0) := by
  induction f with
  | zero => intro n i k r h; omega
  | succ f ih =>
    intro n i k r _ hi hn hb
    rw [lebF]
    split
    · rename_i h
      have e : (UInt8.ofNat n).toNat = n := by simp; omega
      rw [List.singleton_append, lebGo, e]
      have e2 : n % 128 = n := by omega
      rw [e2, if_neg (by omega), if_pos (by omega)]
      rfl
    · rename_i h
      have e : (UInt8.ofNat (n % 128 + 128)).toNat = n % 128 + 128 := by simp; omega
      rw [List.cons_append, lebGo, e]
      have e2 : (n % 128 + 128) % 128 = n % 128 := by omega
      have e3 : n * 2 ^ (7 * i) = n % 128 * 2 ^ (7 * i) + n / 128 * 2 ^ (7 * (i + 1)) := by
        have h1 : 2 ^ (7 * (i + 1)) = 128 * 2 ^ (7 * i) := by rw [Nat.mul_add, Nat.pow_add]; omega
        rw [h1, ← Nat.mul_assoc, ← Nat.add_mul]
        congr 1; omega
      rw [e2, if_neg (by omega), if_neg (by omega)]
      have h2 : n / 128 < 2 ^ (7 * f) := by
        rw [Nat.mul_add, Nat.pow_add] at hn
        exact (Nat.div_lt_iff_lt_mul (by decide)).mpr (by omega)
      have h3 : 1 ≤ f := by
        cases f with
        | zero => simp at hn; omega
        | succ f => omega
      rw [ih (n / 128) (i + 1) _ r h3 (by omega) h2 (by omega), e3]
      simp; omega

theorem leb_lebOf (n : Nat) (r : List UInt8) (hn : n < 4611686018427387904) : leb (lebOf n ++ r) = (n, (lebOf n).length, 0) := by
  have h := lebF_back 10 n 0 0 r (by decide) (by decide) (Nat.lt_of_lt_of_le hn (by decide)) (by simpa using hn)
  simpa [leb, lebOf] using h

/-- Bytes as they are: steps of at most 127. -/
def insF : Nat → List UInt8 → List UInt8
  | 0, _ => []
  | f + 1, b => if b.length = 0 then [] else UInt8.ofNat (min b.length 127) :: (b.take (min b.length 127) ++ insF f (b.drop (min b.length 127)))
def insOf (b : List UInt8) : List UInt8 := insF b.length b

/-- The bytes of a number that aren't nought, of n places; their marks. -/
def bitsOf (v bit : Nat) : Nat → Nat × List UInt8
  | 0 => (0, [])
  | n + 1 => let p := bitsOf v bit n
    if v / 2 ^ (8 * n) % 256 = 0 then p else (p.1 + bit * 2 ^ n, p.2 ++ [UInt8.ofNat (v / 2 ^ (8 * n) % 256)])

/-- Bytes of the base: steps of at most 65536. -/
def copF : Nat → Nat → Nat → List UInt8
  | 0, _, _ => []
  | f + 1, place, size => if size = 0 then []
    else UInt8.ofNat (128 + (bitsOf place 1 4).1 + (bitsOf (min size 65536) 16 2).1) :: ((bitsOf place 1 4).2 ++ (bitsOf (min size 65536) 16 2).2 ++ copF f (place + min size 65536) (size - min size 65536))
def copOf (place size : Nat) : List UInt8 := copF size place size

def frontOf : List UInt8 → List UInt8 → Nat
  | x :: xs, y :: ys => if x = y then frontOf xs ys + 1 else 0
  | _, _ => 0

def makeOf (base target : List UInt8) : List UInt8 :=
  let f := frontOf base target
  let b := frontOf (base.drop f).reverse (target.drop f).reverse
  let f' := if f < 8 then 0 else f
  let b' := if b < 8 then 0 else b
  lebOf base.length ++ lebOf target.length ++ copOf 0 f' ++ insOf ((target.drop f').take (target.length - b' - f')) ++ copOf (base.length - b') b'

end Go.Proofs.Ytnppjhkhfjpkfaa
