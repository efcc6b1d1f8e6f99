/-
  Texts that are sums: the plain law.
-/
import Derived.Test.YtifoledkmjlmoaaDoorHex
namespace Go.Proofs.YtifoledkmjlmoaaDoor
open Go.RowKit Go.Mix Go.WideMaps Go.Proofs

theorem hexd_inj : ∀ a b : Fin 16, hexd a.val = hexd b.val → a = b := by decide
theorem hexd_eq {a b : Nat} (ha : a < 16) (hb : b < 16) (h : hexd a = hexd b) : a = b := by
  have := hexd_inj ⟨a, ha⟩ ⟨b, hb⟩ h
  exact congrArg Fin.val this
theorem hexL_inj : ∀ l m : List UInt8, hexL l = hexL m → l = m
  | [], [], _ => rfl
  | [], _ :: _, h => by simp [hexL] at h
  | _ :: _, [], h => by simp [hexL] at h
  | a :: l, b :: m, h => by
    simp only [hexL, List.flatMap_cons, List.cons_append, List.nil_append, List.cons.injEq] at h
    obtain ⟨h1, h2, h3⟩ := h
    have e1 := hexd_eq (by have := a.toNat_lt; omega) (by have := b.toNat_lt; omega) h1
    have e2 := hexd_eq (by omega) (by omega) h2
    have : a = b := UInt8.toNat_inj.1 (by omega)
    rw [this, hexL_inj l m h3]

/-- The sum that a text is, if it is one. -/
noncomputable def unhex (s : List UInt8) : Option Id20 := open Classical in if h : ∃ x : Id20, s = hexL x.1 then some h.choose else none
theorem unhex_some {s : List UInt8} {x : Id20} (h : s = hexL x.1) : unhex s = some x := by
  have hx : ∃ x : Id20, s = hexL x.1 := ⟨x, h⟩
  unfold unhex
  rw [dif_pos hx]
  congr 1
  exact Subtype.ext (hexL_inj _ _ (hx.choose_spec.symm.trans h))
theorem unhex_none {s : List UInt8} (h : ∀ x : Id20, s ≠ hexL x.1) : unhex s = none := by
  unfold unhex
  rw [dif_neg fun ⟨x, hx⟩ => h x hx]
theorem unhex_cases (s : List UInt8) : (∃ x : Id20, s = hexL x.1 ∧ unhex s = some x) ∨ ((∀ x : Id20, s ≠ hexL x.1) ∧ unhex s = none) := by
  by_cases h : ∃ x : Id20, s = hexL x.1
  · obtain ⟨x, hx⟩ := h; exact .inl ⟨x, hx, unhex_some hx⟩
  · have h2 : ∀ x : Id20, s ≠ hexL x.1 := fun x hx => h ⟨x, hx⟩
    exact .inr ⟨h2, unhex_none h2⟩

theorem mem_hexL : ∀ {l : List UInt8} {c : UInt8}, c ∈ hexL l → ∃ d, d < 16 ∧ c = hexd d
  | [], _, h => by simp [hexL] at h
  | b :: l, c, h => by
    simp only [hexL, List.flatMap_cons, List.cons_append, List.nil_append, List.mem_cons] at h
    have hb := b.toNat_lt
    rcases h with h | h | h
    · exact ⟨_, by omega, h⟩
    · exact ⟨_, by omega, h⟩
    · exact mem_hexL h

/-- The byte k of what the digits ds make. -/
def nibs (ds : List Nat) (k : Nat) : Nat := if 2 * k + 1 < ds.length then 16 * ds.getD (2 * k) 0 + ds.getD (2 * k + 1) 0 else if 2 * k < ds.length then ds.getD (2 * k) 0 else 0
def accN (ds : List Nat) : List UInt8 := (List.range 20).map fun k => UInt8.ofNat (nibs ds k)
theorem accN_len (ds : List Nat) : (accN ds).length = 20 := by simp [accN]
theorem accN_get {ds : List Nat} {k : Nat} (h : k < (accN ds).length) : (accN ds)[k] = UInt8.ofNat (nibs ds k) := by simp [accN]
theorem accN_nil : accN [] = List.replicate 20 0 := by decide
theorem getD_lt {ds : List Nat} (h : ∀ d ∈ ds, d < 16) (k : Nat) : ds.getD k 0 < 16 := by
  rw [List.getD_eq_getElem?_getD]
  by_cases hk : k < ds.length
  · rw [List.getElem?_eq_getElem hk]; exact h _ (List.getElem_mem hk)
  · rw [List.getElem?_eq_none (by omega)]; decide
theorem nibs_lt {ds : List Nat} (h : ∀ d ∈ ds, d < 16) (k : Nat) : nibs ds k < 256 := by
  have h1 := getD_lt h (2 * k)
  have h2 := getD_lt h (2 * k + 1)
  unfold nibs; split
  · omega
  · split <;> omega
theorem getD_app {ds : List Nat} {n k : Nat} (h : k < ds.length) : (ds ++ [n]).getD k 0 = ds.getD k 0 := by
  rw [List.getD_eq_getElem?_getD, List.getElem?_append_left h, ← List.getD_eq_getElem?_getD]
theorem getD_last (ds : List Nat) (n : Nat) : (ds ++ [n]).getD ds.length 0 = n := by
  rw [List.getD_eq_getElem?_getD, List.getElem?_append_right (Nat.le_refl _)]; simp
/-- A digit more. -/
theorem nibs_half {ds : List Nat} (h : ∀ d ∈ ds, d < 16) : nibs ds (ds.length / 2) < 16 := by
  have h1 := getD_lt h (2 * (ds.length / 2))
  unfold nibs
  rw [if_neg (by omega)]
  split <;> omega
theorem accN_step {ds : List Nat} {n : Nat} :
    accN (ds ++ [n]) = (accN ds).set (ds.length / 2) (UInt8.ofNat (16 * nibs ds (ds.length / 2) + n)) := by
  refine List.ext_getElem (by simp [accN_len]) fun k h1 h2 => ?_
  rw [accN_get h1, List.getElem_set]
  have hk : k < 20 := by rw [accN_len] at h1; exact h1
  by_cases e : ds.length / 2 = k
  · rw [if_pos e]
    subst e
    congr 1
    rcases Nat.mod_two_eq_zero_or_one ds.length with hp | hp
    · have e2 : 2 * (ds.length / 2) = ds.length := by omega
      unfold nibs
      rw [e2, if_neg (by simp), if_pos (by simp), if_neg (by omega), if_neg (by omega), getD_last]; omega
    · have e2 : 2 * (ds.length / 2) + 1 = ds.length := by omega
      unfold nibs
      rw [e2, if_pos (by simp), if_neg (by omega), if_pos (by omega), getD_last, getD_app (by omega)]
  · rw [if_neg e, accN_get (by rw [accN_len]; exact hk)]
    congr 1
    unfold nibs
    simp only [List.length_append, List.length_singleton]
    by_cases c1 : 2 * k + 1 < ds.length
    · rw [if_pos (by omega), if_pos c1, getD_app (by omega), getD_app c1]
    · rw [if_neg (by omega), if_neg c1, if_neg (by omega), if_neg (by omega)]
theorem accN_zero {ds : List Nat} {k : Nat} (h : ds.length ≤ 2 * k) : nibs ds k = 0 := by
  unfold nibs; rw [if_neg (by omega), if_neg (by omega)]

theorem hexL_get : ∀ {l : List UInt8} {k : Nat} (h : k < l.length), (hexL l)[2 * k]? = some (hexd (l[k].toNat / 16)) ∧ (hexL l)[2 * k + 1]? = some (hexd (l[k].toNat % 16))
  | [], _, h => absurd h (Nat.not_lt_zero _)
  | b :: l, 0, _ => ⟨rfl, rfl⟩
  | b :: l, k + 1, h => by
    have := hexL_get (l := l) (k := k) (by simpa using h)
    have e : hexL (b :: l) = [hexd (b.toNat / 16), hexd (b.toNat % 16)] ++ hexL l := by simp [hexL]
    rw [e, show 2 * (k + 1) = 2 + 2 * k by omega, show 2 + 2 * k + 1 = 2 + (2 * k + 1) by omega]
    refine ⟨?_, ?_⟩
    · rw [List.getElem?_append_right (by simp)]; simpa using this.1
    · rw [List.getElem?_append_right (by simp)]
      simp only [List.length_cons, List.length_nil, List.getElem_cons_succ]
      rw [show 2 + (2 * k + 1) - (0 + 1 + 1) = 2 * k + 1 by omega]
      exact this.2
theorem hexL_acc {ds : List Nat} (h : ∀ d ∈ ds, d < 16) (hl : ds.length = 40) : hexL (accN ds) = ds.map hexd := by
  refine List.ext_getElem? fun j => ?_
  by_cases hj : j < 40
  · have hk : j / 2 < (accN ds).length := by rw [accN_len]; omega
    obtain ⟨g1, g2⟩ := hexL_get hk
    have e := accN_get hk
    have h1 := getD_lt h (2 * (j / 2))
    have h2 := getD_lt h (2 * (j / 2) + 1)
    have en : nibs ds (j / 2) = 16 * ds.getD (2 * (j / 2)) 0 + ds.getD (2 * (j / 2) + 1) 0 := by unfold nibs; rw [if_pos (by omega)]
    have et : ((accN ds)[j / 2]).toNat = 16 * ds.getD (2 * (j / 2)) 0 + ds.getD (2 * (j / 2) + 1) 0 := by
      rw [e, UInt8.toNat_ofNat', en]; omega
    have hm : (ds.map hexd)[j]? = some (hexd (ds.getD j 0)) := by
      rw [List.getElem?_map, List.getD_eq_getElem?_getD, List.getElem?_eq_getElem (by omega)]; rfl
    rw [hm]
    rcases Nat.mod_two_eq_zero_or_one j with hp | hp
    · have e2 : 2 * (j / 2) = j := by omega
      rw [e2] at g1 h1 et h2
      rw [g1, et]
      congr 2; omega
    · have e2 : 2 * (j / 2) + 1 = j := by omega
      rw [e2] at g2 h2 et
      rw [g2, et]
      congr 2; omega
  · rw [List.getElem?_eq_none (by rw [hexL_len, accN_len]; omega), List.getElem?_eq_none (by simp; omega)]

theorem take_at {α : Type} {l : List α} {i : Nat} (h : i < l.length) : l.take (i + 1) = l.take i ++ [l[i]] := by
  rw [List.take_add_one, List.getElem?_eq_getElem h]; rfl

def digL : List UInt8 := [48, 49, 50, 51, 52, 53, 54, 55, 56, 57, 97, 98, 99, 100, 101, 102]
theorem dig_all : ∀ c : Fin 256, (Lib.indexByte digL (UInt8.ofNat c.val) = -1 ∧ ∀ d : Fin 16, hexd d.val ≠ UInt8.ofNat c.val) ∨ ∃ d : Fin 16, Lib.indexByte digL (UInt8.ofNat c.val) = (d.val : Int) ∧ hexd d.val = UInt8.ofNat c.val := by decide +kernel
theorem dig_cases (c : UInt8) : (Lib.indexByte digL c = -1 ∧ ∀ d, d < 16 → hexd d ≠ c) ∨ ∃ d : Nat, d < 16 ∧ Lib.indexByte digL c = (d : Int) ∧ hexd d = c := by
  have h := dig_all ⟨c.toNat, c.toNat_lt⟩
  simp only [UInt8.ofNat_toNat] at h
  rcases h with ⟨h1, h2⟩ | ⟨d, h1, h2⟩
  · exact .inl ⟨h1, fun d hd => h2 ⟨d, hd⟩⟩
  · exact .inr ⟨d.val, d.2, h1, h2⟩
end Go.Proofs.YtifoledkmjlmoaaDoor
