/-
  Plain Lean: what is come to, and the heads.
-/
import Derived.Test.YtkkfolfplpafhaaSomePure
namespace Go.Proofs.Ytkkfolfplpafhaa

def InRange (g : List (List Int)) : Prop := ∀ i, i < g.length → ∀ z ∈ g.getD i [], 0 ≤ z ∧ z < (g.length : Int)
theorem order_in {g : List (List Int)} {l : List Nat} (h : orderG g = some l) : InRange g := by
  intro i hi z hz
  apply Classical.byContradiction
  intro hno
  have := order_bad hi hz (by omega)
  rw [this] at h
  cases h

inductive Reach (g : List (List Int)) (F : List Int) : Int → Prop where
  | base {z : Int} : z ∈ F → Reach g F z
  | step {x p : Int} : Reach g F x → p ∈ g.getD x.toNat [] → Reach g F p

theorem Reach.range {g : List (List Int)} {F : List Int} (hg : InRange g) {z : Int} (h : Reach g F z) : z ∈ F ∨ (0 ≤ z ∧ z < (g.length : Int)) := by
  induction h with
  | base h => exact .inl h
  | @step x p _ hp _ =>
    rcases Nat.lt_or_ge x.toNat g.length with h | h
    · exact .inr (hg _ h _ hp)
    · rw [List.getD_eq_getElem?_getD, List.getElem?_eq_none h] at hp; simp at hp

open Classical in
noncomputable def reachB (g : List (List Int)) (F : List Int) (i : Nat) : Bool := decide (Reach g F (i : Int))
theorem reachB_iff {g : List (List Int)} {F : List Int} {i : Nat} : reachB g F i = true ↔ Reach g F (i : Int) := by
  unfold reachB
  simp
noncomputable def reachL (g : List (List Int)) (F : List Int) : List Nat := (List.range g.length).filter (reachB g F)
theorem reachL_mem {g : List (List Int)} {F : List Int} {i : Nat} : i ∈ reachL g F ↔ i < g.length ∧ Reach g F (i : Int) := by
  unfold reachL
  rw [List.mem_filter, List.mem_range, reachB_iff]
theorem reachL_of {g : List (List Int)} {F : List Int} {f : Nat → Bool} (h : ∀ i, i < g.length → (f i = true ↔ Reach g F (i : Int))) : (List.range g.length).filter f = reachL g F := by
  unfold reachL
  refine List.filter_congr fun i hi => ?_
  rw [Bool.eq_iff_iff, reachB_iff]
  exact h i (List.mem_range.1 hi)
theorem reachL_len (g : List (List Int)) (F : List Int) : (reachL g F).length ≤ g.length := by
  have := List.length_filter_le (reachB g F) (List.range g.length)
  rw [List.length_range] at this
  exact this

/-- What is closed and holds the beginnings holds all. -/
theorem Reach.sub {g : List (List Int)} {F : List Int} {C : Int → Prop} (h0 : ∀ z ∈ F, C z) (h1 : ∀ x, C x → ∀ p ∈ g.getD x.toNat [], C p) {z : Int} (h : Reach g F z) : C z := by
  induction h with
  | base h => exact h0 _ h
  | step _ hp ih => exact h1 _ ih _ hp

def usedB (g : List (List Int)) (m i : Nat) : Bool := (List.range m).any fun k => decide ((i : Int) ∈ g.getD k [])
theorem usedB_succ (g : List (List Int)) (m i : Nat) : usedB g (m + 1) i = (usedB g m i || decide ((i : Int) ∈ g.getD m [])) := by
  unfold usedB
  rw [List.range_succ, List.any_append]
  simp
theorem usedB_iff (g : List (List Int)) (m i : Nat) : usedB g m i = true ↔ ∃ k, k < m ∧ (i : Int) ∈ g.getD k [] := by
  unfold usedB
  simp [List.any_eq_true]
def headsL (g : List (List Int)) : List Nat := (List.range g.length).filter fun i => !usedB g g.length i
theorem headsL_len (g : List (List Int)) : (headsL g).length ≤ g.length := by
  have := List.length_filter_le (fun i => !usedB g g.length i) (List.range g.length)
  rw [List.length_range] at this
  exact this
theorem filter_take (f : Nat → Bool) (i : Nat) : (List.range (i + 1)).filter f = if f i = true then (List.range i).filter f ++ [i] else (List.range i).filter f := by
  rw [List.range_succ, List.filter_append]
  split <;> simp_all

def countB (f : Nat → Bool) (n : Nat) : Nat := (List.range n).countP fun i => !f i
theorem countB_set {f : Nat → Bool} {n x : Nat} (hx : x < n) (h : f x = false) : countB (fun i => f i || decide (i = x)) n + 1 = countB f n := by
  have key : ∀ n, countB (fun i => f i || decide (i = x)) n + (if x < n then 1 else 0) = countB f n := by
    intro n
    induction n with
    | zero => rfl
    | succ n ih =>
      unfold countB at ih ⊢
      rw [List.range_succ, List.countP_append, List.countP_append]
      by_cases hxn : x = n
      · subst hxn
        rw [if_neg (by omega)] at ih
        rw [if_pos (by omega)]
        have e1 : List.countP (fun i => !(f i || decide (i = x))) [x] = 0 := by simp
        have e2 : List.countP (fun i => !f i) [x] = 1 := by simp [h]
        rw [e1, e2]
        omega
      · have e : (List.countP (fun i => !(f i || decide (i = x))) [n]) = List.countP (fun i => !f i) [n] := by
          have hd : decide (n = x) = false := decide_eq_false (fun e => hxn e.symm)
          simp [hd]
        rw [e]
        have e2 : (if x < n then 1 else 0 : Nat) = if x < n + 1 then 1 else 0 := ite_iff (by omega)
        rw [e2] at ih
        omega
  have := key n
  rw [if_pos hx] at this
  exact this
theorem countB_le (f : Nat → Bool) (n : Nat) : countB f n ≤ n := by
  have := List.countP_le_length (p := fun i => !f i) (l := List.range n)
  rw [List.length_range] at this
  exact this

/-- The deep search: what is seen and what stands on the stack. -/
structure DInv (g : List (List Int)) (F st : List Int) (f : Nat → Bool) : Prop where
  sr : ∀ z ∈ st, Reach g F z
  fr : ∀ i, f i = true → i < g.length ∧ Reach g F (i : Int)
  st0 : ∀ z ∈ F, z ∈ st ∨ ∃ i, f i = true ∧ z = (i : Int)
  cl : ∀ i, f i = true → ∀ p ∈ g.getD i [], p ∈ st ∨ ∃ j, f j = true ∧ p = (j : Int)
theorem DInv.start (g : List (List Int)) (F : List Int) : DInv g F F (fun _ => false) :=
  ⟨fun _ h => .base h, fun _ h => (Bool.noConfusion h), fun _ h => .inl h, fun _ h => (Bool.noConfusion h)⟩
theorem DInv.old {g : List (List Int)} {F st : List Int} {f : Nat → Bool} {x : Nat} (v : DInv g F (st ++ [(x : Int)]) f) (hx : f x = true) : DInv g F st f := by
  have key : ∀ z, (z ∈ st ++ [(x : Int)] ∨ ∃ i, f i = true ∧ z = (i : Int)) → z ∈ st ∨ ∃ i, f i = true ∧ z = (i : Int) := by
    rintro z (h | h)
    · rcases List.mem_append.1 h with h | h
      · exact .inl h
      · exact .inr ⟨x, hx, by simpa using h⟩
    · exact .inr h
  exact ⟨fun z hz => v.sr z (List.mem_append_left _ hz), v.fr, fun z hz => key z (v.st0 z hz), fun i hi p hp => key p (v.cl i hi p hp)⟩
theorem DInv.new {g : List (List Int)} {F st : List Int} {f : Nat → Bool} {x : Nat} (v : DInv g F (st ++ [(x : Int)]) f) (hxl : x < g.length) : DInv g F (st ++ g.getD x []) (fun i => f i || decide (i = x)) := by
  have key : ∀ z, (z ∈ st ++ [(x : Int)] ∨ ∃ i, f i = true ∧ z = (i : Int)) → z ∈ st ++ g.getD x [] ∨ ∃ i, (f i || decide (i = x)) = true ∧ z = (i : Int) := by
    rintro z (h | ⟨i, h, h2⟩)
    · rcases List.mem_append.1 h with h | h
      · exact .inl (List.mem_append_left _ h)
      · exact .inr ⟨x, by simp, by simpa using h⟩
    · exact .inr ⟨i, by simp [h], h2⟩
  have hrx : Reach g F (x : Int) := v.sr _ (by simp)
  refine ⟨fun z hz => ?_, fun i hi => ?_, fun z hz => key z (v.st0 z hz), fun i hi p hp => ?_⟩
  · rcases List.mem_append.1 hz with h | h
    · exact v.sr z (List.mem_append_left _ h)
    · exact .step hrx (by simpa using h)
  · rw [Bool.or_eq_true, decide_eq_true_eq] at hi
    rcases hi with hi | rfl
    · exact v.fr i hi
    · exact ⟨hxl, hrx⟩
  · rw [Bool.or_eq_true, decide_eq_true_eq] at hi
    rcases hi with hi | rfl
    · exact key p (v.cl i hi p hp)
    · exact .inl (List.mem_append_right _ hp)
theorem DInv.bad {g : List (List Int)} {F st : List Int} {f : Nat → Bool} {x : Int} (hg : InRange g) (v : DInv g F (st ++ [x]) f) (hx : x < 0 ∨ (g.length : Int) ≤ x) : ∃ z ∈ F, z < 0 ∨ (g.length : Int) ≤ z := by
  rcases (v.sr x (by simp)).range hg with h | h
  · exact ⟨x, h, hx⟩
  · omega
theorem DInv.end {g : List (List Int)} {F : List Int} {f : Nat → Bool} (v : DInv g F [] f) : (∀ z ∈ F, 0 ≤ z ∧ z < (g.length : Int)) ∧ (List.range g.length).filter f = reachL g F := by
  have h0 : ∀ z ∈ F, ∃ i, f i = true ∧ z = (i : Int) := fun z hz => by
    rcases v.st0 z hz with h | h
    · simp at h
    · exact h
  have h1 : ∀ i, f i = true → ∀ p ∈ g.getD i [], ∃ j, f j = true ∧ p = (j : Int) := fun i hi p hp => by
    rcases v.cl i hi p hp with h | h
    · simp at h
    · exact h
  refine ⟨fun z hz => ?_, reachL_of fun i hi => ⟨fun h => (v.fr i h).2, fun h => ?_⟩⟩
  · obtain ⟨i, hi, rfl⟩ := h0 z hz
    have := (v.fr i hi).1
    omega
  · obtain ⟨j, hj, hij⟩ := Reach.sub (C := fun z => ∃ j, f j = true ∧ z = (j : Int)) h0 (fun x ⟨j, hj, hx⟩ p hp => by
      subst hx
      exact h1 j hj p hp) h
    have : i = j := by omega
    rw [this]; exact hj

/-- The broad search: the list of what is come to. -/
structure LInv (g : List (List Int)) (F : List Int) (M : List Nat) (i k : Nat) : Prop where
  nd : M.Nodup
  ml : ∀ x ∈ M, x < g.length ∧ Reach g F (x : Int)
  hi : i ≤ (F ++ M.map fun (x : Nat) => (x : Int)).length
  cl : ∀ j, j < i → ∀ p ∈ g.getD ((F ++ M.map fun (x : Nat) => (x : Int)).getD j 0).toNat [], p ∈ F ++ M.map fun (x : Nat) => (x : Int)
  ck : ∀ p ∈ (g.getD ((F ++ M.map fun (x : Nat) => (x : Int)).getD i 0).toNat []).take k, p ∈ F ++ M.map fun (x : Nat) => (x : Int)
theorem LInv.len {g : List (List Int)} {F : List Int} {M : List Nat} {i k : Nat} (v : LInv g F M i k) : M.length ≤ g.length := out_le v.nd fun x hx => (v.ml x hx).1
theorem LInv.start (g : List (List Int)) (F : List Int) : LInv g F [] 0 0 :=
  ⟨List.nodup_nil, fun x hx => by simp at hx, Nat.zero_le _, fun j hj => by omega, fun p hp => by simp at hp⟩
theorem getD_app_lz {l m : List Int} {k : Nat} (h : k < l.length) : (l ++ m).getD k 0 = l.getD k 0 := by
  rw [List.getD_eq_getElem?_getD, List.getD_eq_getElem?_getD, List.getElem?_append_left h]
theorem LInv.old {g : List (List Int)} {F : List Int} {M : List Nat} {i k : Nat} (v : LInv g F M i k) {r : List Int} (hr : r = g.getD ((F ++ M.map fun (x : Nat) => (x : Int)).getD i 0).toNat []) (hk : k < r.length) (h : r.getD k 0 ∈ F ++ M.map fun (x : Nat) => (x : Int)) : LInv g F M i (k + 1) := by
  subst hr
  refine ⟨v.nd, v.ml, v.hi, v.cl, fun p hp => ?_⟩
  rw [List.take_succ_eq_append_getElem hk, List.mem_append, List.mem_singleton] at hp
  rcases hp with hp | hp
  · exact v.ck p hp
  · rw [List.getD_eq_getElem?_getD, List.getElem?_eq_getElem hk] at h
    rw [hp]; exact h
theorem LInv.reach {g : List (List Int)} {F : List Int} {M : List Nat} {i k : Nat} (v : LInv g F M i k) {z : Int} (hz : z ∈ F ++ M.map fun (x : Nat) => (x : Int)) : Reach g F z := by
  rcases List.mem_append.1 hz with h | h
  · exact .base h
  · obtain ⟨x, hx, rfl⟩ := List.mem_map.1 h
    exact (v.ml x hx).2
theorem LInv.new {g : List (List Int)} {F : List Int} {M : List Nat} {i k : Nat} (hg : InRange g) (v : LInv g F M i k) (hil : i < (F ++ M.map fun (x : Nat) => (x : Int)).length) {r : List Int} (hr : r = g.getD ((F ++ M.map fun (x : Nat) => (x : Int)).getD i 0).toNat []) (hk : k < r.length) (h : ¬ r.getD k 0 ∈ F ++ M.map fun (x : Nat) => (x : Int)) :
    ∃ p : Nat, r.getD k 0 = (p : Int) ∧ LInv g F (M ++ [p]) i (k + 1) := by
  have hm : (F ++ M.map fun (x : Nat) => (x : Int)).getD i 0 ∈ F ++ M.map fun (x : Nat) => (x : Int) := by
    rw [List.getD_eq_getElem?_getD, List.getElem?_eq_getElem hil]; exact List.getElem_mem hil
  have hre := v.reach hm
  have hpm : r.getD k 0 ∈ r := by rw [List.getD_eq_getElem?_getD, List.getElem?_eq_getElem hk]; exact List.getElem_mem hk
  have hp : Reach g F (r.getD k 0) := .step hre (by rw [← hr]; exact hpm)
  have hrg : 0 ≤ r.getD k 0 ∧ r.getD k 0 < (g.length : Int) := by
    rcases hp.range hg with h1 | h1
    · exact absurd (List.mem_append_left _ h1) h
    · exact h1
  obtain ⟨p, hpz⟩ := Int.eq_ofNat_of_zero_le hrg.1
  have hpn : ¬ p ∈ M := fun hpM => h (by rw [hpz]; exact List.mem_append_right _ (List.mem_map.2 ⟨p, hpM, rfl⟩))
  have e : F ++ (M ++ [p]).map (fun (x : Nat) => (x : Int)) = (F ++ M.map fun (x : Nat) => (x : Int)) ++ [(p : Int)] := by simp
  refine ⟨p, hpz, ⟨?_, fun x hx => ?_, ?_, fun j hj q hq => ?_, fun q hq => ?_⟩⟩
  · rw [List.nodup_append]
    refine ⟨v.nd, by simp, fun a ha b hb hab => ?_⟩
    rw [List.mem_singleton.1 hb] at hab
    exact hpn (hab ▸ ha)
  · rcases List.mem_append.1 hx with h1 | h1
    · exact v.ml x h1
    · rw [List.mem_singleton.1 h1]
      exact ⟨by omega, by rw [← hpz]; exact hp⟩
  · rw [e, List.length_append]; have := v.hi; omega
  · rw [e] at hq ⊢
    rw [getD_app_lz (by omega)] at hq
    exact List.mem_append_left _ (v.cl j hj q hq)
  · rw [e] at hq ⊢
    rw [getD_app_lz hil, ← hr, List.take_succ_eq_append_getElem hk, List.mem_append, List.mem_singleton] at hq
    rcases hq with hq | hq
    · exact List.mem_append_left _ (v.ck q (by rw [← hr]; exact hq))
    · rw [List.getD_eq_getElem?_getD, List.getElem?_eq_getElem hk, Option.getD_some] at hpz
      rw [hq, hpz]
      simp
theorem LInv.next {g : List (List Int)} {F : List Int} {M : List Nat} {i : Nat} {r : List Int} (hr : r = g.getD ((F ++ M.map fun (x : Nat) => (x : Int)).getD i 0).toNat []) (v : LInv g F M i r.length) (hil : i < (F ++ M.map fun (x : Nat) => (x : Int)).length) : LInv g F M (i + 1) 0 := by
  refine ⟨v.nd, v.ml, hil, fun j hj p hp => ?_, fun p hp => by simp at hp⟩
  rcases Nat.lt_succ_iff_lt_or_eq.1 hj with h | rfl
  · exact v.cl j h p hp
  · exact v.ck p (by rw [← hr, List.take_length, hr]; exact hp)
theorem LInv.end {g : List (List Int)} {F : List Int} {M : List Nat} (v : LInv g F M (F ++ M.map fun (x : Nat) => (x : Int)).length 0) : (List.range g.length).filter (fun (i : Nat) => decide ((i : Int) ∈ F ++ M.map fun (x : Nat) => (x : Int))) = reachL g F := by
  refine reachL_of fun i _ => ?_
  rw [decide_eq_true_eq]
  refine ⟨v.reach, fun h => ?_⟩
  refine Reach.sub (C := fun z => z ∈ F ++ M.map fun (x : Nat) => (x : Int)) (fun z hz => List.mem_append_left _ hz) (fun x hx p hp => ?_) h
  obtain ⟨j, hj, hjx⟩ := List.getElem_of_mem hx
  refine v.cl j hj p ?_
  have e : (F ++ M.map fun (x : Nat) => (x : Int)).getD j 0 = x := by
    rw [List.getD_eq_getElem?_getD, List.getElem?_eq_getElem hj, Option.getD_some, hjx]
  rw [e]
  exact hp
end Go.Proofs.Ytkkfolfplpafhaa
