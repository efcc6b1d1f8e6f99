/-
  Plain Lean: rawOf with room for more or fewer bytes.
-/
import Derived.Test.YtaapnjhkflpiiaaInfFol
namespace Go.Proofs.Ytaapnjhkflpiiaa

/-- How what comes with room for M bytes follows what comes with other room. -/
def Rm {α : Type} (M : Nat) (len : α → Nat) (r r' : Except Nat α) : Prop := match r with
  | .ok x => (len x ≤ M → r' = .ok x) ∧ (M < len x → r' = .error 2)
  | .error _ => True

theorem Rm.bind {α β : Type} {M : Nat} {len : α → Nat} {len2 : β → Nat} {r r' : Except Nat α} {k k' : α → Except Nat β} (h : Rm M len r r')
    (hk : ∀ x, r = .ok x → len x ≤ M → Rm M len2 (k x) (k' x)) (hm : ∀ x y, r = .ok x → k x = .ok y → len x ≤ len2 y) : Rm M len2 (r.bind k) (r'.bind k') := by
  cases r with
  | error e => trivial
  | ok x =>
    show Rm M len2 (k x) (r'.bind k')
    by_cases hx : len x ≤ M
    · rw [h.1 hx]; exact hk x rfl hx
    · rw [h.2 (by omega)]
      cases hy : k x with
      | error e => trivial
      | ok y =>
        have := hm x y rfl hy
        exact ⟨fun h4 => by omega, fun _ => rfl⟩
theorem Rm.step {α β : Type} {M : Nat} {len2 : β → Nat} {r : Except Nat α} {k k' : α → Except Nat β} (hk : ∀ x, r = .ok x → Rm M len2 (k x) (k' x)) : Rm M len2 (r.bind k) (r.bind k') := by
  cases r with
  | error e => trivial
  | ok x => exact hk x rfl
theorem Rm.of_ok {α : Type} {M : Nat} {len : α → Nat} {x : α} {r' : Except Nat α} (h : r' = .ok x) (hx : len x ≤ M) : Rm M len (.ok x) r' := ⟨fun _ => h, fun h2 => by omega⟩
theorem Rm.err {α : Type} {M : Nat} {len : α → Nat} {e : Nat} {r' : Except Nat α} : Rm M len (.error e) r' := trivial

theorem putR_rm (most m' : Int) (out : List UInt8) (c : UInt8) (h : out.length ≤ m'.toNat) : Rm m'.toNat List.length (putR most out c) (putR m' out c) := by
  unfold putR
  split
  · trivial
  · refine ⟨fun hx => ?_, fun hx => ?_⟩
    · rw [List.length_append, List.length_singleton] at hx
      rw [if_neg (by omega)]
    · rw [List.length_append, List.length_singleton] at hx
      rw [if_pos (by omega)]
theorem putR_len {most : Int} {out o : List UInt8} {c : UInt8} (h : putR most out c = .ok o) : o.length = out.length + 1 := by
  rw [putR_ok h]; simp

theorem storedGo_len (d : List UInt8) (most : Int) : ∀ (n p : Nat) (out : List UInt8) (y : Nat × List UInt8), storedGo d most n p out = .ok y → out.length ≤ y.2.length := by
  intro n
  induction n with
  | zero => intro p out y h; rw [storedGo] at h; injection h with h; subst h; exact Nat.le_refl _
  | succ n ih =>
    intro p out y h
    rw [storedGo_b] at h
    obtain ⟨x, _, h⟩ := bind_ok h
    obtain ⟨o, ho, h⟩ := bind_ok h
    have := ih _ _ _ h
    have := putR_len ho
    omega
theorem storedGo_rm (d : List UInt8) (most m' : Int) : ∀ (n p : Nat) (out : List UInt8), out.length ≤ m'.toNat → Rm m'.toNat (·.2.length) (storedGo d most n p out) (storedGo d m' n p out) := by
  intro n
  induction n with
  | zero => intro p out h; rw [storedGo, storedGo]; exact Rm.of_ok rfl h
  | succ n ih =>
    intro p out h
    rw [storedGo_b, storedGo_b]
    refine Rm.step fun x hx => (putR_rm most m' out _ h).bind (fun o ho hN => ih _ _ hN) (fun o y ho hy => storedGo_len _ _ _ _ _ _ hy)
theorem storedR_rm (d : List UInt8) (most m' : Int) (p : Nat) (out : List UInt8) (h : out.length ≤ m'.toNat) : Rm m'.toNat (·.2.length) (storedR d most p out) (storedR d m' p out) := by
  rw [storedR_b, storedR_b]
  refine Rm.step fun x hx => Rm.step fun y hy => ?_
  split
  · exact storedGo_rm d most m' _ _ _ h
  · exact Rm.err
theorem storedR_len {d : List UInt8} {most : Int} {p : Nat} {out : List UInt8} {y : Nat × List UInt8} (h : storedR d most p out = .ok y) : out.length ≤ y.2.length := by
  rw [storedR_b] at h
  obtain ⟨x, _, h⟩ := bind_ok h
  obtain ⟨z, _, h⟩ := bind_ok h
  split at h
  · exact storedGo_len _ _ _ _ _ _ h
  · cases h

theorem copyGo_b (most : Int) (back n : Nat) (out : List UInt8) : copyGo most back (n + 1) out = (putR most out (out.getD (out.length - back) 0)).bind fun o => copyGo most back n o := by
  rw [copyGo]; cases putR most out (out.getD (out.length - back) 0) <;> rfl
theorem copyGo_len (most : Int) (back : Nat) : ∀ (n : Nat) (out y : List UInt8), copyGo most back n out = .ok y → out.length ≤ y.length := by
  intro n
  induction n with
  | zero => intro out y h; rw [copyGo] at h; injection h with h; subst h; exact Nat.le_refl _
  | succ n ih =>
    intro out y h
    rw [copyGo_b] at h
    obtain ⟨o, ho, h⟩ := bind_ok h
    have := ih _ _ h
    have := putR_len ho
    omega
theorem copyGo_rm (most m' : Int) (back : Nat) : ∀ (n : Nat) (out : List UInt8), out.length ≤ m'.toNat → Rm m'.toNat List.length (copyGo most back n out) (copyGo m' back n out) := by
  intro n
  induction n with
  | zero => intro out h; rw [copyGo, copyGo]; exact Rm.of_ok rfl h
  | succ n ih =>
    intro out h
    rw [copyGo_b, copyGo_b]
    exact (putR_rm most m' out _ h).bind (fun o ho hN => ih _ hN) (fun o y ho hy => copyGo_len _ _ _ _ _ hy)

theorem signsR_len (d : List UInt8) (most : Int) (cl cd : List Nat) : ∀ (f p : Nat) (out : List UInt8) (y : Nat × List UInt8), signsR d most cl cd f p out = .ok y → out.length ≤ y.2.length := by
  intro f
  induction f with
  | zero => intro p out y h; rw [signsR] at h; cases h
  | succ f ih =>
    intro p out y h
    rw [signsR_b] at h
    obtain ⟨x, _, h⟩ := bind_ok h
    split at h
    · obtain ⟨o, ho, h⟩ := bind_ok h
      have := ih _ _ _ h
      have := putR_len ho
      omega
    · split at h
      · injection h with h; subst h; exact Nat.le_refl _
      · obtain ⟨a, _, h⟩ := bind_ok h
        split at h
        · cases h
        · obtain ⟨b, _, h⟩ := bind_ok h
          obtain ⟨c, _, h⟩ := bind_ok h
          split at h
          · cases h
          · obtain ⟨o, ho, h⟩ := bind_ok h
            have := ih _ _ _ h
            have := copyGo_len _ _ _ _ _ ho
            omega
theorem signsR_rm (d : List UInt8) (most m' : Int) (cl cd : List Nat) : ∀ (f p : Nat) (out : List UInt8), out.length ≤ m'.toNat → Rm m'.toNat (·.2.length) (signsR d most cl cd f p out) (signsR d m' cl cd f p out) := by
  intro f
  induction f with
  | zero => intro p out h; rw [signsR, signsR]; exact Rm.err
  | succ f ih =>
    intro p out h
    rw [signsR_b, signsR_b]
    refine Rm.step fun x hx => ?_
    split
    · exact (putR_rm most m' out _ h).bind (fun o ho hN => ih _ _ hN) (fun o y ho hy => signsR_len _ _ _ _ _ _ _ _ hy)
    · split
      · exact Rm.of_ok rfl h
      · refine Rm.step fun a ha => ?_
        split
        · exact Rm.err
        · refine Rm.step fun b hb => Rm.step fun c hc => ?_
          split
          · exact Rm.err
          · exact (copyGo_rm most m' _ _ out h).bind (fun o ho hN => ih _ _ hN) (fun o y ho hy => signsR_len _ _ _ _ _ _ _ _ hy)

theorem blockR_len {d : List UInt8} {most : Int} {t p : Nat} {out : List UInt8} {y : Nat × List UInt8} (h : blockR d most t p out = .ok y) : out.length ≤ y.2.length := by
  rw [blockR_b] at h
  split at h
  · exact storedR_len h
  · split at h
    · exact signsR_len _ _ _ _ _ _ _ _ h
    · split at h
      · obtain ⟨x, _, h⟩ := bind_ok h
        exact signsR_len _ _ _ _ _ _ _ _ h
      · cases h
theorem blockR_rm (d : List UInt8) (most m' : Int) (t p : Nat) (out : List UInt8) (h : out.length ≤ m'.toNat) : Rm m'.toNat (·.2.length) (blockR d most t p out) (blockR d m' t p out) := by
  rw [blockR_b, blockR_b]
  split
  · exact storedR_rm d most m' p out h
  · split
    · exact signsR_rm d most m' _ _ _ _ _ h
    · split
      · exact Rm.step fun x hx => signsR_rm d most m' _ _ _ _ _ h
      · exact Rm.err
theorem rawGo_len (d : List UInt8) (most : Int) : ∀ (f p : Nat) (out : List UInt8) (y : Nat × List UInt8), rawGo d most f p out = .ok y → out.length ≤ y.2.length := by
  intro f
  induction f with
  | zero => intro p out y h; rw [rawGo] at h; cases h
  | succ f ih =>
    intro p out y h
    rw [rawGo_b] at h
    obtain ⟨x, _, h⟩ := bind_ok h
    obtain ⟨z, _, h⟩ := bind_ok h
    obtain ⟨u, hu, h⟩ := bind_ok h
    have := blockR_len hu
    split at h
    · injection h with h; subst h; exact this
    · have := ih _ _ _ h; omega
theorem rawGo_rm (d : List UInt8) (most m' : Int) : ∀ (f p : Nat) (out : List UInt8), out.length ≤ m'.toNat → Rm m'.toNat (·.2.length) (rawGo d most f p out) (rawGo d m' f p out) := by
  intro f
  induction f with
  | zero => intro p out h; rw [rawGo, rawGo]; exact Rm.err
  | succ f ih =>
    intro p out h
    rw [rawGo_b, rawGo_b]
    refine Rm.step fun x hx => Rm.step fun y hy => (blockR_rm d most m' _ _ out h).bind (fun z hz hN => ?_) (fun z u hz hu => ?_)
    · split
      · exact Rm.of_ok rfl hN
      · exact ih _ _ hN
    · split at hu
      · injection hu with hu; subst hu; exact Nat.le_refl _
      · exact rawGo_len _ _ _ _ _ _ hu

/-- The errors' numbers. -/
def Bad {α : Type} (r : Except Nat α) : Prop := ∀ e, r = .error e → 2 ≤ e ∧ e ≤ 4
theorem Bad.bind {α β : Type} {r : Except Nat α} {k : α → Except Nat β} (h : Bad r) (hk : ∀ x, Bad (k x)) : Bad (r.bind k) := by
  cases r with
  | error e =>
    intro e2 h2
    have h3 : e = e2 := by injection h2
    exact h e2 (by rw [h3])
  | ok x => exact hk x
theorem Bad.ok {α : Type} (x : α) : Bad (.ok x) := fun e h => by cases h
theorem Bad.err {α : Type} (n : Nat) (h : 2 ≤ n ∧ n ≤ 4) : Bad (.error n : Except Nat α) := fun e h2 => by injection h2 with h2; omega
theorem Bad.ite {α : Type} {c : Prop} [Decidable c] {r q : Except Nat α} (h : Bad r) (k : Bad q) : Bad (if c then r else q) := by split <;> assumption
theorem numR_bad (d : List UInt8) (n p : Nat) : Bad (numR d n p) := Bad.ite (Bad.ok _) (Bad.err 3 (by omega))
theorem putR_bad (most : Int) (out : List UInt8) (c : UInt8) : Bad (putR most out c) := Bad.ite (Bad.err 2 (by omega)) (Bad.ok _)
theorem signR_bad (d : List UInt8) (ls : List Nat) (p : Nat) : Bad (signR d ls p) := by
  have : ∀ (f l n fi k p : Nat), Bad (signGo d ls f l n fi k p) := by
    intro f
    induction f with
    | zero => intro l n fi k p; exact Bad.err 4 (by omega)
    | succ f ih =>
      intro l n fi k p
      rw [signGo]
      exact Bad.ite (Bad.ite (Bad.ok _) (Bad.ite (Bad.err 4 (by omega)) (ih _ _ _ _ _))) (Bad.err 3 (by omega))
  exact this _ _ _ _ _ _
theorem lenR_bad (d : List UInt8) (s p : Nat) : Bad (lenR d s p) := by
  rw [lenR_b]
  exact Bad.ite (Bad.ok _) (Bad.ite (Bad.ok _) (Bad.ite (Bad.err 4 (by omega)) ((numR_bad _ _ _).bind fun x => Bad.ok _)))
theorem distR_bad (d : List UInt8) (s p : Nat) : Bad (distR d s p) := by
  rw [distR_b]
  exact Bad.ite (Bad.ok _) (Bad.ite (Bad.err 4 (by omega)) ((numR_bad _ _ _).bind fun x => Bad.ok _))
theorem storedGo_bad (d : List UInt8) (most : Int) : ∀ (n p : Nat) (out : List UInt8), Bad (storedGo d most n p out) := by
  intro n
  induction n with
  | zero => intro p out; exact Bad.ok _
  | succ n ih => intro p out; rw [storedGo_b]; exact (numR_bad _ _ _).bind fun x => (putR_bad _ _ _).bind fun o => ih _ _
theorem storedR_bad (d : List UInt8) (most : Int) (p : Nat) (out : List UInt8) : Bad (storedR d most p out) := by
  rw [storedR_b]; exact (numR_bad _ _ _).bind fun x => (numR_bad _ _ _).bind fun y => Bad.ite (storedGo_bad _ _ _ _ _) (Bad.err 4 (by omega))
theorem copyGo_bad (most : Int) (back : Nat) : ∀ (n : Nat) (out : List UInt8), Bad (copyGo most back n out) := by
  intro n
  induction n with
  | zero => intro out; exact Bad.ok _
  | succ n ih => intro out; rw [copyGo_b]; exact (putR_bad _ _ _).bind fun o => ih _
theorem signsR_bad (d : List UInt8) (most : Int) (cl cd : List Nat) : ∀ (f p : Nat) (out : List UInt8), Bad (signsR d most cl cd f p out) := by
  intro f
  induction f with
  | zero => intro p out; rw [signsR]; exact Bad.err 4 (by omega)
  | succ f ih =>
    intro p out
    rw [signsR_b]
    exact (signR_bad _ _ _).bind fun x => Bad.ite ((putR_bad _ _ _).bind fun o => ih _ _) (Bad.ite (Bad.ok _) ((lenR_bad _ _ _).bind fun y => Bad.ite (Bad.err 4 (by omega))
      ((signR_bad _ _ _).bind fun z => (distR_bad _ _ _).bind fun u => Bad.ite (Bad.err 4 (by omega)) ((copyGo_bad _ _ _ _).bind fun o => ih _ _))))
theorem ownGo_bad (d : List UInt8) : ∀ (n : Nat) (l : List Nat) (p : Nat) (own : List Nat), Bad (ownGo d n l p own) := by
  intro n
  induction n with
  | zero => intro l p own; exact Bad.ok _
  | succ n ih => intro l p own; rw [ownGo_b]; exact (numR_bad _ _ _).bind fun x => ih _ _ _
theorem allGo_bad (d : List UInt8) (own : List Nat) (tot : Nat) : ∀ (f p : Nat) (all : List Nat), Bad (allGo d own tot f p all) := by
  intro f
  induction f with
  | zero => intro p all; rw [allGo]; exact Bad.err 4 (by omega)
  | succ f ih =>
    intro p all
    rw [allGo_b]
    exact Bad.ite (Bad.ok _) ((signR_bad _ _ _).bind fun x => Bad.ite (Bad.ite (Bad.err 4 (by omega)) ((numR_bad _ _ _).bind fun y => Bad.ite (Bad.err 4 (by omega)) (ih _ _)))
      (Bad.ite ((numR_bad _ _ _).bind fun y => Bad.ite (Bad.err 4 (by omega)) (ih _ _)) (Bad.ite ((numR_bad _ _ _).bind fun y => Bad.ite (Bad.err 4 (by omega)) (ih _ _)) (ih _ _))))
theorem toldR_bad (d : List UInt8) (p : Nat) : Bad (toldR d p) := by
  rw [toldR_b]
  exact (numR_bad _ _ _).bind fun a => Bad.ite (Bad.err 4 (by omega)) ((numR_bad _ _ _).bind fun b => Bad.ite (Bad.err 4 (by omega)) ((numR_bad _ _ _).bind fun c => (ownGo_bad _ _ _ _ _).bind fun o =>
    Bad.ite (Bad.err 4 (by omega)) ((allGo_bad _ _ _ _ _ _).bind fun l => Bad.ite (Bad.err 4 (by omega)) (Bad.ok _))))
theorem blockR_bad (d : List UInt8) (most : Int) (t p : Nat) (out : List UInt8) : Bad (blockR d most t p out) := by
  rw [blockR_b]
  exact Bad.ite (storedR_bad _ _ _ _) (Bad.ite (signsR_bad _ _ _ _ _ _ _) (Bad.ite ((toldR_bad _ _).bind fun x => signsR_bad _ _ _ _ _ _ _) (Bad.err 4 (by omega))))
theorem rawGo_bad (d : List UInt8) (most : Int) : ∀ (f p : Nat) (out : List UInt8), Bad (rawGo d most f p out) := by
  intro f
  induction f with
  | zero => intro p out; rw [rawGo]; exact Bad.err 4 (by omega)
  | succ f ih => intro p out; rw [rawGo_b]; exact (numR_bad _ _ _).bind fun x => (numR_bad _ _ _).bind fun y => (blockR_bad _ _ _ _ _).bind fun z => Bad.ite (Bad.ok _) (ih _ _)

theorem rawGo_three {d : List UInt8} {most : Int} {f p : Nat} {out : List UInt8} {y : Nat × List UInt8} (h : rawGo d most f p out = .ok y) : p + 3 ≤ y.1 := by
  cases f with
  | zero => rw [rawGo] at h; cases h
  | succ f =>
    rw [rawGo_b] at h
    obtain ⟨x, hx, h⟩ := bind_ok h
    obtain ⟨z, hz, h⟩ := bind_ok h
    obtain ⟨u, hu, h⟩ := bind_ok h
    have h1 := (numR_le (x := x.1) (q := x.2) hx).1
    have h2 := numR_le (x := z.1) (q := z.2) hz
    have h3 := (blockR_past h2.2.1 u hu).1
    split at h
    · injection h with h; subst h; omega
    · have := (rawGo_past _ _ _ _ _ y h).1; omega

/-- What was unpacked: where reading ended; or the error. -/
theorem rawOf_cases (d : List UInt8) (most : Int) :
    (∃ q x, rawGo d most (8 * d.length + 1) 0 [] = .ok (q, x) ∧ rawOf d most = (x, (q + 7) / 8, 0) ∧ 3 ≤ q ∧ q ≤ 8 * d.length) ∨ (∃ e, rawGo d most (8 * d.length + 1) 0 [] = .error e ∧ rawOf d most = ([], 0, e) ∧ 2 ≤ e ∧ e ≤ 4) := by
  rw [rawOf_end]
  cases hr : rawGo d most (8 * d.length + 1) 0 [] with
  | error e => exact .inr ⟨e, rfl, rfl, rawGo_bad _ _ _ _ _ e hr⟩
  | ok y => exact .inl ⟨y.1, y.2, rfl, rfl, by have := rawGo_three hr; omega, (rawGo_past _ _ _ _ _ y hr).2⟩

theorem bitAt_app (b more : List UInt8) (n i : Nat) (h : i < 8 * n) (hn : n ≤ b.length) : bitAt (b.take n ++ more) i = bitAt b i := by
  unfold bitAt
  rw [getD_app _ _ _ _ (by rw [List.length_take]; omega), List.getD_eq_getElem?_getD, List.getD_eq_getElem?_getD, List.getElem?_take, if_pos (by omega)]
theorem bitAt_behind (c b : List UInt8) (i : Nat) : bitAt (c ++ b) (8 * c.length + i) = bitAt b i := by
  unfold bitAt
  rw [getD_app_right _ _ _ _ (by omega), show (8 * c.length + i) / 8 - c.length = i / 8 by omega, show (8 * c.length + i) % 8 = i % 8 by omega]
theorem agr_take (b more : List UInt8) (n : Nat) (hn : n ≤ b.length) : Agr b (b.take n ++ more) 0 (8 * n) :=
  ⟨rfl, by omega, by omega, by rw [List.length_append, List.length_take]; omega, fun i hi => by rw [Nat.zero_add]; exact bitAt_app b more n i hi hn⟩
theorem agr_behind (c b : List UInt8) : Agr b (c ++ b) (8 * c.length) (8 * b.length) :=
  ⟨by omega, by omega, Nat.le_refl _, by rw [List.length_append]; omega, fun i _ => bitAt_behind c b i⟩

/-- What InflateMore says. -/
theorem more_pure (b : List UInt8) (most : Int) (x : List UInt8) (n : Nat) (h : rawOf b most = (x, n, 0)) :
    1 ≤ n ∧ n ≤ b.length ∧ (∀ more, rawOf (b.take n ++ more) (x.length : Int) = (x, n, 0)) ∧ (∀ k, k < n → rawOf (b.take k) most = ([], 0, 3)) ∧
    (rawOf b ((x.length : Int) - 1) = if x = [] then (x, n, 0) else ([], 0, 2)) := by
  rcases rawOf_cases b most with ⟨q, y, h1, h2, h3, h4⟩ | ⟨e, _, h2, h3, _⟩
  · rw [h2] at h
    simp only [Prod.mk.injEq] at h
    obtain ⟨rfl, rfl, -⟩ := h
    refine ⟨by omega, by omega, fun more => ?_, fun k hk => ?_, ?_⟩
    · have r1 := rawGo_rm b most (y.length : Int) (8 * b.length + 1) 0 [] (by simp)
      rw [h1] at r1
      have r2 := r1.1 (by simp)
      have r3 := rawGo_fol (agr_take b more ((q + 7) / 8) (by omega)) (y.length : Int) (8 * b.length + 1) (8 * (b.take ((q + 7) / 8) ++ more).length + 1) 0 [] (by omega) (by omega) (by omega)
      rw [r2] at r3
      have r4 := r3.1 (by simp only; omega)
      rw [rawOf_end, show (0 : Nat) = 0 + 0 from rfl, r4]
      simp [rawEnd]
    · have r3 := rawGo_fol (agr_take b [] k (by omega)) most (8 * b.length + 1) (8 * (b.take k ++ []).length + 1) 0 [] (by omega) (by omega) (by omega)
      rw [h1, List.append_nil] at r3
      have r4 := r3.2 (by simp only; omega) (by rw [List.length_take]; omega)
      rw [rawOf_end]
      rw [show (0 : Nat) + 0 = 0 from rfl] at r4
      rw [r4]
      rfl
    · have r1 := rawGo_rm b most ((y.length : Int) - 1) (8 * b.length + 1) 0 [] (by simp)
      rw [h1] at r1
      rw [rawOf_end]
      split
      · rename_i hy
        rw [r1.1 (by rw [hy]; simp)]
        rfl
      · rename_i hy
        rw [r1.2 (by
          have : y.length ≠ 0 := fun h => hy (List.length_eq_zero_iff.1 h)
          simp only; omega)]
        rfl
  · rw [h2] at h
    simp only [Prod.mk.injEq] at h
    omega

theorem rawOf_len (d : List UInt8) (most : Int) : (rawOf d most).1.length ≤ most.toNat := by
  rcases rawOf_cases d most with ⟨q, y, h1, h2, _⟩ | ⟨e, _, h2, _⟩
  · rw [h2]
    have r1 := rawGo_rm d most most (8 * d.length + 1) 0 [] (by simp)
    rw [h1] at r1
    rcases Nat.lt_or_ge most.toNat y.length with h | h
    · have := r1.2 h; cases this
    · exact h
  · rw [h2]; simp

/-- An empty block of its own. -/
def emptyB : List UInt8 := [0, 0, 0, 255, 255]
def empties (t : Nat) : List UInt8 := (List.replicate t emptyB).flatten
theorem empties_succ (t : Nat) : empties (t + 1) = emptyB ++ empties t := by simp [empties, List.replicate_succ]
theorem empties_snoc (t : Nat) : empties (t + 1) = empties t ++ emptyB := by simp [empties, List.replicate_succ']
theorem empties_len (t : Nat) : (empties t).length = 5 * t := by
  induction t with
  | zero => rfl
  | succ t ih => rw [empties_succ, List.length_append, ih]; simp [emptyB]; omega

theorem num_bits (d : List UInt8) (p n k : Nat) (h : p + n ≤ 8 * d.length) (hb : ∀ i, i < n → bitAt d (p + i) = k / 2 ^ i % 2) : numR d n p = .ok (k % 2 ^ n, p + n) := by
  unfold numR; rw [if_pos h]
  have : numAt d p n = k % 2 ^ n := by
    clear h
    induction n with
    | zero => simp [numAt, Nat.mod_one]
    | succ n ih => rw [numAt, ih (fun i hi => hb i (by omega)), hb n (by omega), Nat.pow_succ, Nat.mod_mul, Nat.mul_comm (2 ^ n)]
  rw [this]

theorem empty_block (r : List UInt8) (most : Int) (f : Nat) (out : List UInt8) : rawGo (emptyB ++ r) most (f + 1) 0 out = rawGo (emptyB ++ r) most f 40 out := by
  have hl : (emptyB ++ r).length = 5 + r.length := by rw [List.length_append]; rfl
  have hb : ∀ i, i < 40 → bitAt (emptyB ++ r) i = bitAt emptyB i := fun i hi => by
    unfold bitAt
    rw [getD_app _ _ _ _ (by show i / 8 < 5; omega)]
  have hz : ∀ i, i < 24 → bitAt emptyB i = 0 := by decide
  have ho : ∀ i, i < 40 → 24 ≤ i → bitAt emptyB i = 1 := by decide
  have n1 : numR (emptyB ++ r) 1 0 = .ok (0, 1) := num_bits _ 0 1 0 (by omega) (fun i hi => by rw [hb _ (by omega), hz _ (by omega)]; simp)
  have n2 : numR (emptyB ++ r) 2 1 = .ok (0, 3) := num_bits _ 1 2 0 (by omega) (fun i hi => by rw [hb _ (by omega), hz _ (by omega)]; simp)
  have n3 : numR (emptyB ++ r) 16 8 = .ok (0, 24) := num_bits _ 8 16 0 (by omega) (fun i hi => by rw [hb _ (by omega), hz _ (by omega)]; simp)
  have n4 : numR (emptyB ++ r) 16 24 = .ok (65535, 40) := num_bits _ 24 16 65535 (by omega) (fun i hi => by
    rw [hb _ (by omega), ho _ (by omega) (by omega)]
    have : ∀ j, j < 16 → 1 = 65535 / 2 ^ j % 2 := by decide
    exact this i hi)
  have hs : storedR (emptyB ++ r) most 3 out = .ok (40, out) := by
    rw [storedR_b, show (3 + 7) / 8 * 8 = 8 from rfl, n3]
    show ((numR (emptyB ++ r) 16 24).bind fun y => if y.1 + 0 = 65535 then storedGo (emptyB ++ r) most 0 y.2 out else .error 4) = _
    rw [n4]; rfl
  rw [rawGo_b, n1]
  show ((numR (emptyB ++ r) 2 1).bind fun y => (blockR (emptyB ++ r) most y.1 y.2 out).bind fun z => if (0 : Nat) = 1 then .ok z else rawGo (emptyB ++ r) most f z.1 z.2) = _
  rw [n2]
  show ((blockR (emptyB ++ r) most 0 3 out).bind fun z => if (0 : Nat) = 1 then .ok z else rawGo (emptyB ++ r) most f z.1 z.2) = _
  rw [show blockR (emptyB ++ r) most 0 3 out = storedR (emptyB ++ r) most 3 out from rfl, hs]
  rfl

theorem ahead_one (r : List UInt8) (most : Int) : rawGo (emptyB ++ r) most (8 * (emptyB ++ r).length + 1) 0 [] = match rawGo r most (8 * r.length + 1) 0 [] with
    | .ok x => .ok (40 + x.1, x.2)
    | .error e => .error e := by
  have hl : (emptyB ++ r).length = 5 + r.length := by rw [List.length_append]; rfl
  rw [empty_block]
  have h := rawGo_fol (agr_behind emptyB r) most (8 * r.length + 1) (8 * (emptyB ++ r).length) 0 [] (by omega) (by omega) (by rw [hl]; show _ < 40 + 0 + _; omega)
  cases hr : rawGo r most (8 * r.length + 1) 0 [] with
  | error e =>
    rw [hr] at h
    exact h rfl (by rw [hl]; show 40 + 8 * r.length = _; omega)
  | ok x =>
    rw [hr] at h
    exact h.1 (rawGo_past _ _ _ _ _ x hr).2

/-- What InflateAhead says. -/
theorem ahead_pure (t : Nat) (r : List UInt8) (most : Int) : rawOf (empties t ++ r) most = ((rawOf r most).1, if (rawOf r most).2.2 = 0 then 5 * t + (rawOf r most).2.1 else 0, (rawOf r most).2.2) := by
  have : rawGo (empties t ++ r) most (8 * (empties t ++ r).length + 1) 0 [] = match rawGo r most (8 * r.length + 1) 0 [] with
      | .ok x => .ok (40 * t + x.1, x.2)
      | .error e => .error e := by
    induction t with
    | zero =>
      rw [show empties 0 ++ r = r from rfl]
      cases rawGo r most (8 * r.length + 1) 0 [] with
      | error e => rfl
      | ok x => simp
    | succ t ih =>
      rw [empties_succ, List.append_assoc, ahead_one, ih]
      cases rawGo r most (8 * r.length + 1) 0 [] with
      | error e => rfl
      | ok x => simp only; rw [← Nat.add_assoc]; congr 2; omega
  rw [rawOf_end, this]
  rcases rawOf_cases r most with ⟨q, y, h1, h2, h3, h4⟩ | ⟨e, h1, h2, h3, h4⟩
  · rw [h1, h2]
    simp only [rawEnd]
    rw [if_pos trivial]
    congr 2
    omega
  · rw [h1, h2]
    simp only [rawEnd]
    rw [if_neg (by omega)]

end Go.Proofs.Ytaapnjhkflpiiaa
