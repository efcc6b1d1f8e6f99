/-
  Plain Lean: what packed bytes are, read bit by bit: each part hands back what was read and where it ended, or the error's number.
-/
import Derived.Test.YtaapnjhkflpiiaaBase
namespace Go.Proofs.Ytaapnjhkflpiiaa

theorem getD_app {α : Type} (l m : List α) (d : α) (n : Nat) (h : n < l.length) : (l ++ m).getD n d = l.getD n d := by
  rw [List.getD_eq_getElem?_getD, List.getD_eq_getElem?_getD, List.getElem?_append_left h]
theorem getD_app_right {α : Type} (l m : List α) (d : α) (n : Nat) (h : l.length ≤ n) : (l ++ m).getD n d = m.getD (n - l.length) d := by
  rw [List.getD_eq_getElem?_getD, List.getD_eq_getElem?_getD, List.getElem?_append_right h]

/-- The bit at place i. -/
def bitAt (d : List UInt8) (i : Nat) : Nat := (d.getD (i / 8) 0).toNat / 2 ^ (i % 8) % 2
def numAt (d : List UInt8) (p : Nat) : Nat → Nat
  | 0 => 0
  | n + 1 => numAt d p n + bitAt d (p + n) * 2 ^ n

theorem bitAt_lt (d : List UInt8) (i : Nat) : bitAt d i < 2 := Nat.mod_lt _ (by decide)
theorem numAt_lt (d : List UInt8) (p n : Nat) : numAt d p n < 2 ^ n := by
  induction n with
  | zero => simp [numAt]
  | succ n ih =>
    rw [numAt, Nat.pow_succ]
    have := bitAt_lt d (p + n)
    have h : bitAt d (p + n) * 2 ^ n ≤ 1 * 2 ^ n := Nat.mul_le_mul_right _ (by omega)
    omega

def numR (d : List UInt8) (n p : Nat) : Except Nat (Nat × Nat) := if p + n ≤ 8 * d.length then .ok (numAt d p n, p + n) else .error 3

/-- Of the first i lengths those that are n: where they stand. -/
def idxTo (ls : List Nat) (n : Nat) : Nat → List Nat
  | 0 => []
  | i + 1 => if ls.getD i 0 = n then idxTo ls n i ++ [i] else idxTo ls n i
def idx (ls : List Nat) (n : Nat) : List Nat := idxTo ls n ls.length
def cnt (ls : List Nat) (n : Nat) : Nat := (idx ls n).length
def sgnTo (ls : List Nat) : Nat → List Nat
  | 0 => []
  | n + 1 => sgnTo ls n ++ idx ls (n + 1)
/-- The signs of a code, in order. -/
def sgn (ls : List Nat) : List Nat := sgnTo ls 15
def roomTo (ls : List Nat) : Nat → Nat
  | 0 => 0
  | n + 1 => roomTo ls n + cnt ls (n + 1) * 2 ^ (15 - (n + 1))
def good (ls : List Nat) (none : Bool) : Bool := decide (roomTo ls 15 = 32768) || (decide ((sgn ls).length = 1) && decide (cnt ls 1 = 1)) || (none && decide ((sgn ls).length = 0))

/-- The next sign by a code: l: how long; n: the bits so far; fi: the first code of that length; k: how many signs are shorter. -/
def signGo (d : List UInt8) (ls : List Nat) : Nat → Nat → Nat → Nat → Nat → Nat → Except Nat (Nat × Nat)
  | 0, _, _, _, _, _ => .error 4
  | f + 1, l, n, fi, k, p =>
    if p < 8 * d.length then
      if 2 * n + bitAt d p < 2 * fi + cnt ls l then .ok ((sgn ls).getD (k + (2 * n + bitAt d p - 2 * fi)) 0, p + 1)
      else if k + cnt ls l = (sgn ls).length then .error 4
      else signGo d ls f (l + 1) (2 * n + bitAt d p) (2 * fi + cnt ls l) (k + cnt ls l) (p + 1)
    else .error 3
def signR (d : List UInt8) (ls : List Nat) (p : Nat) : Except Nat (Nat × Nat) := signGo d ls 15 1 0 0 0 p

def putR (most : Int) (out : List UInt8) (c : UInt8) : Except Nat (List UInt8) := if most ≤ (out.length : Int) then .error 2 else .ok (out ++ [c])

def storedGo (d : List UInt8) (most : Int) : Nat → Nat → List UInt8 → Except Nat (Nat × List UInt8)
  | 0, p, out => .ok (p, out)
  | n + 1, p, out => match numR d 8 p with
    | .error e => .error e
    | .ok (c, p') => match putR most out (UInt8.ofNat c) with
      | .error e => .error e
      | .ok out' => storedGo d most n p' out'
def storedR (d : List UInt8) (most : Int) (p : Nat) (out : List UInt8) : Except Nat (Nat × List UInt8) :=
  match numR d 16 ((p + 7) / 8 * 8) with
  | .error e => .error e
  | .ok (n, p2) => match numR d 16 p2 with
    | .error e => .error e
    | .ok (m, p3) => if m + n = 65535 then storedGo d most n p3 out else .error 4

def lenR (d : List UInt8) (s p : Nat) : Except Nat (Nat × Nat) :=
  if s < 265 then .ok (s - 254, p) else if s = 285 then .ok (258, p) else if 285 < s then .error 4
  else match numR d ((s - 257) / 4 - 1) p with
    | .error e => .error e
    | .ok (x, p') => .ok (3 + (4 + (s - 257) % 4) * 2 ^ ((s - 257) / 4 - 1) + x, p')
def distR (d : List UInt8) (s p : Nat) : Except Nat (Nat × Nat) :=
  if s < 4 then .ok (s + 1, p) else if 29 < s then .error 4
  else match numR d (s / 2 - 1) p with
    | .error e => .error e
    | .ok (x, p') => .ok (1 + (2 + s % 2) * 2 ^ (s / 2 - 1) + x, p')

def copyGo (most : Int) (back : Nat) : Nat → List UInt8 → Except Nat (List UInt8)
  | 0, out => .ok out
  | n + 1, out => match putR most out (out.getD (out.length - back) 0) with
    | .error e => .error e
    | .ok out' => copyGo most back n out'

def signsR (d : List UInt8) (most : Int) (cl cd : List Nat) : Nat → Nat → List UInt8 → Except Nat (Nat × List UInt8)
  | 0, _, _ => .error 4
  | f + 1, p, out => match signR d cl p with
    | .error e => .error e
    | .ok (s, p1) =>
      if s < 256 then match putR most out (UInt8.ofNat s) with
        | .error e => .error e
        | .ok out' => signsR d most cl cd f p1 out'
      else if s = 256 then .ok (p1, out)
      else match lenR d s p1 with
        | .error e => .error e
        | .ok (n, p2) => if (sgn cd).length = 0 then .error 4 else match signR d cd p2 with
          | .error e => .error e
          | .ok (s2, p3) => match distR d s2 p3 with
            | .error e => .error e
            | .ok (back, p4) => if out.length < back then .error 4 else match copyGo most back n out with
              | .error e => .error e
              | .ok out' => signsR d most cl cd f p4 out'

/-- The lengths of the codes that are given. -/
def fixedL : List Nat := List.replicate 144 8 ++ List.replicate 112 9 ++ List.replicate 24 7 ++ List.replicate 8 8
def fixedD : List Nat := List.replicate 32 5

def order19 : List Nat := [16, 17, 18, 0, 8, 7, 9, 6, 10, 5, 11, 4, 12, 3, 13, 2, 14, 1, 15]
/-- The lengths of the code of lengths: the first n of them are read. -/
def ownGo (d : List UInt8) : Nat → List Nat → Nat → List Nat → Except Nat (List Nat × Nat)
  | 0, _, p, own => .ok (own, p)
  | n + 1, o, p, own => match numR d 3 p with
    | .error e => .error e
    | .ok (x, p') => ownGo d n (o.drop 1) p' (own.set (o.getD 0 0) x)
def allGo (d : List UInt8) (own : List Nat) (tot : Nat) : Nat → Nat → List Nat → Except Nat (List Nat × Nat)
  | 0, _, _ => .error 4
  | f + 1, p, all =>
    if tot ≤ all.length then .ok (all, p)
    else match signR d own p with
      | .error e => .error e
      | .ok (s, p1) =>
        if s = 16 then
          if all.length = 0 then .error 4
          else match numR d 2 p1 with
            | .error e => .error e
            | .ok (x, p2) => if tot < all.length + (3 + x) then .error 4 else allGo d own tot f p2 (all ++ List.replicate (3 + x) (all.getD (all.length - 1) 0))
        else if s = 17 then match numR d 3 p1 with
            | .error e => .error e
            | .ok (x, p2) => if tot < all.length + (3 + x) then .error 4 else allGo d own tot f p2 (all ++ List.replicate (3 + x) 0)
        else if s = 18 then match numR d 7 p1 with
            | .error e => .error e
            | .ok (x, p2) => if tot < all.length + (11 + x) then .error 4 else allGo d own tot f p2 (all ++ List.replicate (11 + x) 0)
        else allGo d own tot f p1 (all ++ [s])
def toldR (d : List UInt8) (p : Nat) : Except Nat (List Nat × List Nat × Nat) :=
  match numR d 5 p with
  | .error e => .error e
  | .ok (a, p1) => if 30 ≤ a then .error 4 else match numR d 5 p1 with
    | .error e => .error e
    | .ok (b, p2) => if 30 ≤ b then .error 4 else match numR d 4 p2 with
      | .error e => .error e
      | .ok (c, p3) => match ownGo d (c + 4) order19 p3 (List.replicate 19 0) with
        | .error e => .error e
        | .ok (own, p4) => if good own false = false then .error 4 else match allGo d own (a + b + 258) (a + b + 259) p4 [] with
          | .error e => .error e
          | .ok (all, p5) => if all.getD 256 0 = 0 ∨ good (all.take (a + 257)) false = false ∨ good (all.drop (a + 257)) true = false then .error 4
            else .ok (all.take (a + 257), all.drop (a + 257), p5)

def blockR (d : List UInt8) (most : Int) (t p : Nat) (out : List UInt8) : Except Nat (Nat × List UInt8) :=
  if t = 0 then storedR d most p out
  else if t = 1 then signsR d most fixedL fixedD (8 * d.length + 1) p out
  else if t = 2 then match toldR d p with
    | .error e => .error e
    | .ok (cl, cd, p') => signsR d most cl cd (8 * d.length + 1) p' out
  else .error 4
def rawGo (d : List UInt8) (most : Int) : Nat → Nat → List UInt8 → Except Nat (Nat × List UInt8)
  | 0, _, _ => .error 4
  | f + 1, p, out => match numR d 1 p with
    | .error e => .error e
    | .ok (last, p1) => match numR d 2 p1 with
      | .error e => .error e
      | .ok (t, p2) => match blockR d most t p2 out with
        | .error e => .error e
        | .ok (p3, out') => if last = 1 then .ok (p3, out') else rawGo d most f p3 out'
/-- What comes, how many bytes were taken, the error (0: none). -/
def rawOf (d : List UInt8) (most : Int) : List UInt8 × Nat × Nat :=
  match rawGo d most (8 * d.length + 1) 0 [] with
  | .error e => ([], 0, e)
  | .ok (p, out) => (out, (p + 7) / 8, 0)

end Go.Proofs.Ytaapnjhkflpiiaa
