/-
  Plain Lean: rawOf over bytes that agree up to some bit: the same; cut off: it ends too early.
-/
import Derived.Test.YtaapnjhkflpiiaaInf11
namespace Go.Proofs.Ytaapnjhkflpiiaa

/-- From bit s on d' has d's first N bits. -/
structure Agr (d d' : List UInt8) (s N : Nat) : Prop where
  s8 : s % 8 = 0
  n8 : N % 8 = 0
  le : N ≤ 8 * d.length
  le' : s + N ≤ 8 * d'.length
  bits : ∀ i, i < N → bitAt d' (s + i) = bitAt d i

/-- How what is read of d' follows what is read of d. -/
def Fol {α : Type} (d d' : List UInt8) (s N : Nat) (pos : α → Nat) (sh : α → α) (r r' : Except Nat α) : Prop := match r with
  | .ok x => (pos x ≤ N → r' = .ok (sh x)) ∧ (N < pos x → s + N = 8 * d'.length → r' = .error 3)
  | .error e => N = 8 * d.length → s + N = 8 * d'.length → r' = .error e

theorem Fol.of_ok {α : Type} {d d' : List UInt8} {s N : Nat} {pos : α → Nat} {sh : α → α} {x : α} {r' : Except Nat α} (h : r' = .ok (sh x)) (hx : pos x ≤ N) : Fol d d' s N pos sh (.ok x) r' := ⟨fun _ => h, fun h2 => by omega⟩
theorem Fol.same_err {α : Type} {d d' : List UInt8} {s N : Nat} {pos : α → Nat} {sh : α → α} (e : Nat) : Fol d d' s N pos sh (.error e) (.error e) := fun _ _ => rfl

theorem Fol.bind {α β : Type} {d d' : List UInt8} {s N : Nat} {pos : α → Nat} {sh : α → α} {pos2 : β → Nat} {sh2 : β → β} {r r' : Except Nat α} {k k' : α → Except Nat β}
    (h : Fol d d' s N pos sh r r') (hle : ∀ x, r = .ok x → pos x ≤ 8 * d.length) (hk : ∀ x, r = .ok x → pos x ≤ N → Fol d d' s N pos2 sh2 (k x) (k' (sh x)))
    (hm : ∀ x y, r = .ok x → k x = .ok y → pos x ≤ pos2 y) : Fol d d' s N pos2 sh2 (r.bind k) (r'.bind k') := by
  cases r with
  | error e => intro h1 h2; rw [h h1 h2]; rfl
  | ok x =>
    show Fol d d' s N pos2 sh2 (k x) (r'.bind k')
    by_cases hx : pos x ≤ N
    · rw [h.1 hx]; exact hk x rfl hx
    · have h3 := h.2 (by omega)
      cases hy : k x with
      | error e => intro h1; have := hle x rfl; omega
      | ok y =>
        have hmy := hm x y rfl hy
        exact ⟨fun h4 => by omega, fun _ h5 => by rw [h3 h5]; rfl⟩

variable {d d' : List UInt8} {s N : Nat}

theorem numAt_agr (h : Agr d d' s N) (p : Nat) : ∀ n, p + n ≤ N → numAt d' (s + p) n = numAt d p n := by
  intro n
  induction n with
  | zero => intro _; rfl
  | succ n ih => intro hn; rw [numAt, numAt, ih (by omega), Nat.add_assoc s p n, h.bits _ (by omega)]

theorem numR_fol (h : Agr d d' s N) (n p : Nat) : Fol d d' s N (·.2) (fun x => (x.1, s + x.2)) (numR d n p) (numR d' n (s + p)) := by
  have h1 := h.le
  have h2 := h.le'
  unfold numR
  split
  · refine ⟨fun hx => ?_, fun hx hd => ?_⟩
    · simp only at hx
      rw [if_pos (by omega), numAt_agr h p n hx, Nat.add_assoc]
    · simp only at hx
      rw [if_neg (by omega)]
  · intro h3 h4
    rw [if_neg (by omega)]

theorem numR_pos {n p : Nat} {x : Nat × Nat} (h : numR d n p = .ok x) : p ≤ x.2 ∧ x.2 ≤ 8 * d.length := by
  obtain ⟨x, q⟩ := x
  have := numR_le h
  (try simp only); omega

theorem signGo_fol (h : Agr d d' s N) (ls : List Nat) : ∀ (f l n fi k p : Nat), Fol d d' s N (·.2) (fun x => (x.1, s + x.2)) (signGo d ls f l n fi k p) (signGo d' ls f l n fi k (s + p)) := by
  have h1 := h.le
  have h2 := h.le'
  intro f
  induction f with
  | zero => intro l n fi k p; rw [signGo, signGo]; exact Fol.same_err 4
  | succ f ih =>
    intro l n fi k p
    rw [signGo, signGo]
    by_cases hp : p < N
    · rw [if_pos (show p < 8 * d.length by omega), if_pos (show s + p < 8 * d'.length by omega), h.bits p hp]
      by_cases c1 : 2 * n + bitAt d p < 2 * fi + cnt ls l
      · rw [if_pos c1, if_pos c1]; exact Fol.of_ok (by rw [Nat.add_assoc]) (by (try simp only); omega)
      · rw [if_neg c1, if_neg c1]
        by_cases c2 : k + cnt ls l = (sgn ls).length
        · rw [if_pos c2, if_pos c2]; exact Fol.same_err 4
        · rw [if_neg c2, if_neg c2]
          have := ih (l + 1) (2 * n + bitAt d p) (2 * fi + cnt ls l) (k + cnt ls l) (p + 1)
          rw [← Nat.add_assoc] at this
          exact this
    · by_cases hd : s + N = 8 * d'.length
      · rw [if_neg (show ¬ s + p < 8 * d'.length by omega)]
        by_cases hp2 : p < 8 * d.length
        · rw [if_pos hp2]
          have hbig : ∀ x q, (if 2 * n + bitAt d p < 2 * fi + cnt ls l then Except.ok ((sgn ls).getD (k + (2 * n + bitAt d p - 2 * fi)) 0, p + 1) else if k + cnt ls l = (sgn ls).length then .error 4 else signGo d ls f (l + 1) (2 * n + bitAt d p) (2 * fi + cnt ls l) (k + cnt ls l) (p + 1)) = .ok (x, q) → N < q := by
            intro x q hq
            split at hq
            · injection hq with hq; injection hq with e1 e2; omega
            · split at hq
              · cases hq
              · have := signGo_le d ls _ _ _ _ _ _ _ _ hq; omega
          generalize (if 2 * n + bitAt d p < 2 * fi + cnt ls l then Except.ok ((sgn ls).getD (k + (2 * n + bitAt d p - 2 * fi)) 0, p + 1) else if k + cnt ls l = (sgn ls).length then .error 4 else signGo d ls f (l + 1) (2 * n + bitAt d p) (2 * fi + cnt ls l) (k + cnt ls l) (p + 1)) = r at *
          cases r with
          | error e => intro h3 _; omega
          | ok x =>
            obtain ⟨x, q⟩ := x
            have := hbig x q rfl
            exact ⟨fun h3 => by simp only at h3; omega, fun _ _ => rfl⟩
        · rw [if_neg hp2]; exact Fol.same_err 3
      · generalize hr : (if p < 8 * d.length then _ else _ : Except Nat (Nat × Nat)) = r
        cases r with
        | error e => intro _ h4; exact absurd h4 hd
        | ok x =>
          obtain ⟨x, q⟩ := x
          refine ⟨fun h3 => ?_, fun _ h4 => absurd h4 hd⟩
          exfalso
          simp only at h3
          split at hr
          · split at hr
            · injection hr with hr; injection hr with e1 e2; omega
            · split at hr
              · cases hr
              · have := signGo_le d ls _ _ _ _ _ _ _ _ hr; omega
          · cases hr
theorem signR_fol (h : Agr d d' s N) (ls : List Nat) (p : Nat) : Fol d d' s N (·.2) (fun x => (x.1, s + x.2)) (signR d ls p) (signR d' ls (s + p)) := signGo_fol h ls 15 1 0 0 0 p

abbrev sh1 (s : Nat) (x : Nat × Nat) : Nat × Nat := (x.1, s + x.2)
abbrev sh2 (s : Nat) (x : Nat × List UInt8) : Nat × List UInt8 := (s + x.1, x.2)
abbrev sh3 (s : Nat) (x : List Nat × Nat) : List Nat × Nat := (x.1, s + x.2)
abbrev sh4 (s : Nat) (x : List Nat × List Nat × Nat) : List Nat × List Nat × Nat := (x.1, x.2.1, s + x.2.2)

theorem signR_pos {ls : List Nat} {p : Nat} {x : Nat × Nat} (h : signR d ls p = .ok x) : p ≤ x.2 ∧ x.2 ≤ 8 * d.length := by
  obtain ⟨x, q⟩ := x
  have := signR_le h
  (try simp only); omega

theorem lenR_b (d : List UInt8) (g p : Nat) : lenR d g p = if g < 265 then .ok (g - 254, p) else if g = 285 then .ok (258, p) else if 285 < g then .error 4
    else (numR d ((g - 257) / 4 - 1) p).bind fun x => .ok (3 + (4 + (g - 257) % 4) * 2 ^ ((g - 257) / 4 - 1) + x.1, x.2) := by
  unfold lenR
  cases numR d ((g - 257) / 4 - 1) p <;> rfl
theorem lenR_fol (h : Agr d d' s N) (g p : Nat) (hp : p ≤ N) : Fol d d' s N (·.2) (sh1 s) (lenR d g p) (lenR d' g (s + p)) := by
  rw [lenR_b, lenR_b]
  split
  · exact Fol.of_ok rfl hp
  · split
    · exact Fol.of_ok rfl hp
    · split
      · exact Fol.same_err 4
      · exact (numR_fol h _ p).bind (fun x hx => (numR_pos hx).2) (fun x hx hN => Fol.of_ok rfl hN) (fun x y hx hy => by injection hy with hy; subst hy; exact Nat.le_refl _)
theorem lenR_pos {g p : Nat} {x : Nat × Nat} (h : lenR d g p = .ok x) (hp : p ≤ 8 * d.length) : p ≤ x.2 ∧ x.2 ≤ 8 * d.length := by
  obtain ⟨x, q⟩ := x
  have := lenR_le h hp
  (try simp only); omega

theorem distR_b (d : List UInt8) (g p : Nat) : distR d g p = if g < 4 then .ok (g + 1, p) else if 29 < g then .error 4
    else (numR d (g / 2 - 1) p).bind fun x => .ok (1 + (2 + g % 2) * 2 ^ (g / 2 - 1) + x.1, x.2) := by
  unfold distR
  cases numR d (g / 2 - 1) p <;> rfl
theorem distR_fol (h : Agr d d' s N) (g p : Nat) (hp : p ≤ N) : Fol d d' s N (·.2) (sh1 s) (distR d g p) (distR d' g (s + p)) := by
  rw [distR_b, distR_b]
  split
  · exact Fol.of_ok rfl hp
  · split
    · exact Fol.same_err 4
    · exact (numR_fol h _ p).bind (fun x hx => (numR_pos hx).2) (fun x hx hN => Fol.of_ok rfl hN) (fun x y hx hy => by injection hy with hy; subst hy; exact Nat.le_refl _)
theorem distR_pos {g p : Nat} {x : Nat × Nat} (h : distR d g p = .ok x) (hp : p ≤ 8 * d.length) : p ≤ x.2 ∧ x.2 ≤ 8 * d.length := by
  obtain ⟨x, q⟩ := x
  have := distR_le h hp
  (try simp only); omega

theorem storedGo_b (d : List UInt8) (most : Int) (n p : Nat) (out : List UInt8) : storedGo d most (n + 1) p out = (numR d 8 p).bind fun x => (putR most out (UInt8.ofNat x.1)).bind fun o => storedGo d most n x.2 o := by
  rw [storedGo]
  cases numR d 8 p with
  | error e => rfl
  | ok x =>
    simp only [Except.bind]
    cases putR most out (UInt8.ofNat x.1) <;> rfl
theorem storedGo_fol (h : Agr d d' s N) (most : Int) : ∀ (n p : Nat) (out : List UInt8), p ≤ N → Fol d d' s N (·.1) (sh2 s) (storedGo d most n p out) (storedGo d' most n (s + p) out) := by
  intro n
  induction n with
  | zero => intro p out hp; rw [storedGo, storedGo]; exact Fol.of_ok rfl hp
  | succ n ih =>
    intro p out hp
    rw [storedGo_b, storedGo_b]
    refine (numR_fol h 8 p).bind (fun x hx => (numR_pos hx).2) (fun x hx hN => ?_) (fun x y hx hy => ?_)
    · simp only
      cases putR most out (UInt8.ofNat x.1) with
      | error e => exact Fol.same_err e
      | ok o => exact ih x.2 o hN
    · obtain ⟨q, o2⟩ := y
      cases hr : putR most out (UInt8.ofNat x.1) with
      | error e => rw [hr] at hy; cases hy
      | ok o => rw [hr] at hy; exact (storedGo_le _ _ _ _ _ _ _ hy (numR_pos hx).2).1

theorem storedR_b (d : List UInt8) (most : Int) (p : Nat) (out : List UInt8) : storedR d most p out = (numR d 16 ((p + 7) / 8 * 8)).bind fun x => (numR d 16 x.2).bind fun y => if y.1 + x.1 = 65535 then storedGo d most x.1 y.2 out else .error 4 := by
  unfold storedR
  cases numR d 16 ((p + 7) / 8 * 8) with
  | error e => rfl
  | ok x =>
    simp only [Except.bind]
    cases numR d 16 x.2 <;> rfl
theorem storedR_fol (h : Agr d d' s N) (most : Int) (p : Nat) (out : List UInt8) : Fol d d' s N (·.1) (sh2 s) (storedR d most p out) (storedR d' most (s + p) out) := by
  have h8 := h.s8
  have hn8 := h.n8
  rw [storedR_b, storedR_b, show (s + p + 7) / 8 * 8 = s + (p + 7) / 8 * 8 by omega]
  refine (numR_fol h 16 _).bind (fun x hx => (numR_pos hx).2) (fun x hx hN => ?_) (fun x y hx hy => ?_)
  · refine (numR_fol h 16 x.2).bind (fun y hy => (numR_pos hy).2) (fun y hy hN2 => ?_) (fun y z hy hz => ?_)
    · simp only
      split
      · exact storedGo_fol h most _ _ _ hN2
      · exact Fol.same_err 4
    · split at hz
      · obtain ⟨q, o2⟩ := z
        exact (storedGo_le _ _ _ _ _ _ _ hz (numR_pos hy).2).1
      · cases hz
  · cases hr : numR d 16 x.2 with
    | error e => rw [hr] at hy; cases hy
    | ok z =>
      rw [hr] at hy
      have h1 := numR_pos hr
      simp only [Except.bind] at hy
      split at hy
      · obtain ⟨q, o2⟩ := y
        have := (storedGo_le _ _ _ _ _ _ _ hy h1.2).1
        (try simp only); omega
      · cases hy

theorem signsR_b (d : List UInt8) (most : Int) (cl cd : List Nat) (f p : Nat) (out : List UInt8) : signsR d most cl cd (f + 1) p out = (signR d cl p).bind fun x =>
    if x.1 < 256 then (putR most out (UInt8.ofNat x.1)).bind fun o => signsR d most cl cd f x.2 o
    else if x.1 = 256 then .ok (x.2, out)
    else (lenR d x.1 x.2).bind fun y => if (sgn cd).length = 0 then .error 4 else (signR d cd y.2).bind fun z => (distR d z.1 z.2).bind fun u =>
      if out.length < u.1 then .error 4 else (copyGo most u.1 y.1 out).bind fun o => signsR d most cl cd f u.2 o := by
  rw [signsR]
  cases signR d cl p with
  | error e => rfl
  | ok x =>
    simp only [Except.bind]
    split
    · cases putR most out (UInt8.ofNat x.1) <;> rfl
    · split
      · rfl
      · cases lenR d x.1 x.2 with
        | error e => rfl
        | ok y =>
          simp only
          split
          · rfl
          · cases signR d cd y.2 with
            | error e => rfl
            | ok z =>
              simp only
              cases distR d z.1 z.2 with
              | error e => rfl
              | ok u =>
                simp only
                split
                · rfl
                · cases copyGo most u.1 y.1 out <;> rfl

/-- How far reading came. -/
def Past (p : Nat) (d : List UInt8) (r : Except Nat (Nat × List UInt8)) : Prop := ∀ y, r = .ok y → p ≤ y.1 ∧ y.1 ≤ 8 * d.length
theorem signsR_past (d : List UInt8) (most : Int) (cl cd : List Nat) (f p : Nat) (out : List UInt8) : Past p d (signsR d most cl cd f p out) := fun y hy => signsR_le d most cl cd f p out y.1 y.2 hy
theorem bind_ok {α β : Type} {r : Except Nat α} {k : α → Except Nat β} {y : β} (h : r.bind k = .ok y) : ∃ x, r = .ok x ∧ k x = .ok y := by
  cases r with
  | error e => cases h
  | ok x => exact ⟨x, rfl, h⟩

theorem signsR_fol (h : Agr d d' s N) (most : Int) (cl cd : List Nat) : ∀ (f f' p : Nat) (out : List UInt8), p ≤ N → 8 * d.length < p + f → 8 * d'.length < s + p + f' →
    Fol d d' s N (·.1) (sh2 s) (signsR d most cl cd f p out) (signsR d' most cl cd f' (s + p) out) := by
  have h1 := h.le
  have h2 := h.le'
  intro f
  induction f with
  | zero => intro f' p out hp hf; omega
  | succ f ih =>
    intro f' p out hp hf hf'
    obtain ⟨f', rfl⟩ : ∃ g, f' = g + 1 := ⟨f' - 1, by omega⟩
    rw [signsR_b, signsR_b]
    refine (signR_fol h cl p).bind (fun x hx => (signR_pos hx).2) (fun x hx hN => ?_) (fun x y hx hy => ?_)
    · have hpx := (signR_le (x := x.1) (q := x.2) hx).1
      simp only
      split
      · cases putR most out (UInt8.ofNat x.1) with
        | error e => exact Fol.same_err e
        | ok o => exact ih f' x.2 o hN (by omega) (by omega)
      · split
        · exact Fol.of_ok rfl hN
        · refine (lenR_fol h x.1 x.2 hN).bind (fun y hy => (lenR_pos hy (signR_pos hx).2).2) (fun y hy hN2 => ?_) (fun y z hy hz => ?_)
          · have hpy := lenR_pos hy (signR_pos hx).2
            simp only
            split
            · exact Fol.same_err 4
            · refine (signR_fol h cd y.2).bind (fun z hz => (signR_pos hz).2) (fun z hz hN3 => ?_) (fun z u hz hu => ?_)
              · have hpz := signR_pos hz
                simp only
                refine (distR_fol h z.1 z.2 hN3).bind (fun u hu => (distR_pos hu hpz.2).2) (fun u hu hN4 => ?_) (fun u v hu hv => ?_)
                · have hpu := distR_pos hu hpz.2
                  simp only
                  split
                  · exact Fol.same_err 4
                  · cases copyGo most u.1 y.1 out with
                    | error e => exact Fol.same_err e
                    | ok o => exact ih f' u.2 o hN4 (by omega) (by omega)
                · split at hv
                  · cases hv
                  · obtain ⟨o, _, ho⟩ := bind_ok hv
                    exact (signsR_past _ _ _ _ _ _ _ v ho).1
              · obtain ⟨v, hv, hv2⟩ := bind_ok hu
                have hpv := distR_pos hv (signR_pos hz).2
                (try simp only at hv2)
                split at hv2
                · cases hv2
                · obtain ⟨o, _, ho⟩ := bind_ok hv2
                  have := (signsR_past _ _ _ _ _ _ _ u ho).1
                  (try simp only); omega
          · split at hz
            · cases hz
            · obtain ⟨u, hu, hu2⟩ := bind_ok hz
              have hpu := signR_pos hu
              obtain ⟨v, hv, hv2⟩ := bind_ok hu2
              have hpv := distR_pos hv hpu.2
              (try simp only at hv2)
              split at hv2
              · cases hv2
              · obtain ⟨o, _, ho⟩ := bind_ok hv2
                have := (signsR_past _ _ _ _ _ _ _ z ho).1
                (try simp only); omega
    · have hpx := signR_pos hx
      (try simp only at hy)
      split at hy
      · obtain ⟨o, _, ho⟩ := bind_ok hy
        exact (signsR_past _ _ _ _ _ _ _ y ho).1
      · split at hy
        · injection hy with hy; subst hy; exact Nat.le_refl _
        · obtain ⟨t, ht, ht2⟩ := bind_ok hy
          have hpt := lenR_pos ht hpx.2
          split at ht2
          · cases ht2
          · obtain ⟨u, hu, hu2⟩ := bind_ok ht2
            have hpu := signR_pos hu
            obtain ⟨v, hv, hv2⟩ := bind_ok hu2
            have hpv := distR_pos hv hpu.2
            (try simp only at hv2)
            split at hv2
            · cases hv2
            · obtain ⟨o, _, ho⟩ := bind_ok hv2
              have := (signsR_past _ _ _ _ _ _ _ y ho).1
              (try simp only); omega

theorem ownGo_b (d : List UInt8) (n : Nat) (o : List Nat) (p : Nat) (own : List Nat) : ownGo d (n + 1) o p own = (numR d 3 p).bind fun x => ownGo d n (o.drop 1) x.2 (own.set (o.getD 0 0) x.1) := by
  rw [ownGo]; cases numR d 3 p <;> rfl
theorem ownGo_pos {n p : Nat} {l own : List Nat} {x : List Nat × Nat} (h : ownGo d n l p own = .ok x) (hp : p ≤ 8 * d.length) : p ≤ x.2 ∧ x.2 ≤ 8 * d.length := by
  have := ownGo_le d n l p own x.1 x.2 h hp; omega
theorem ownGo_fol (h : Agr d d' s N) : ∀ (n : Nat) (l : List Nat) (p : Nat) (own : List Nat), p ≤ N → Fol d d' s N (·.2) (sh3 s) (ownGo d n l p own) (ownGo d' n l (s + p) own) := by
  intro n
  induction n with
  | zero => intro l p own hp; rw [ownGo, ownGo]; exact Fol.of_ok rfl hp
  | succ n ih =>
    intro l p own hp
    rw [ownGo_b, ownGo_b]
    refine (numR_fol h 3 p).bind (fun x hx => (numR_pos hx).2) (fun x hx hN => ih _ _ _ hN) (fun x y hx hy => (ownGo_pos hy (numR_pos hx).2).1)

theorem allGo_b (d : List UInt8) (own : List Nat) (tot f p : Nat) (all : List Nat) : allGo d own tot (f + 1) p all = if tot ≤ all.length then .ok (all, p) else (signR d own p).bind fun x =>
    if x.1 = 16 then (if all.length = 0 then .error 4 else (numR d 2 x.2).bind fun y => if tot < all.length + (3 + y.1) then .error 4 else allGo d own tot f y.2 (all ++ List.replicate (3 + y.1) (all.getD (all.length - 1) 0)))
    else if x.1 = 17 then (numR d 3 x.2).bind fun y => if tot < all.length + (3 + y.1) then .error 4 else allGo d own tot f y.2 (all ++ List.replicate (3 + y.1) 0)
    else if x.1 = 18 then (numR d 7 x.2).bind fun y => if tot < all.length + (11 + y.1) then .error 4 else allGo d own tot f y.2 (all ++ List.replicate (11 + y.1) 0)
    else allGo d own tot f x.2 (all ++ [x.1]) := by
  rw [allGo]
  split
  · rfl
  · cases signR d own p with
    | error e => rfl
    | ok x =>
      simp only [Except.bind]
      split
      · split
        · rfl
        · cases numR d 2 x.2 <;> rfl
      · split
        · cases numR d 3 x.2 <;> rfl
        · split
          · cases numR d 7 x.2 <;> rfl
          · rfl
theorem allGo_pos {own : List Nat} {tot f p : Nat} {all : List Nat} {x : List Nat × Nat} (h : allGo d own tot f p all = .ok x) (hp : p ≤ 8 * d.length) : p ≤ x.2 ∧ x.2 ≤ 8 * d.length := by
  by_cases ha : all.length ≤ tot
  · have := allGo_le d own tot f p all x.1 x.2 h hp ha; omega
  · cases f with
    | zero => rw [allGo] at h; cases h
    | succ f =>
      rw [allGo, if_pos (by omega)] at h
      injection h with h; subst h; exact ⟨Nat.le_refl _, hp⟩
theorem allGo_fol (h : Agr d d' s N) (own : List Nat) (tot : Nat) : ∀ (f p : Nat) (all : List Nat), p ≤ N → Fol d d' s N (·.2) (sh3 s) (allGo d own tot f p all) (allGo d' own tot f (s + p) all) := by
  intro f
  induction f with
  | zero => intro p all hp; rw [allGo, allGo]; exact Fol.same_err 4
  | succ f ih =>
    intro p all hp
    rw [allGo_b, allGo_b]
    split
    · exact Fol.of_ok rfl hp
    · refine (signR_fol h own p).bind (fun x hx => (signR_pos hx).2) (fun x hx hN => ?_) (fun x z hx hz => ?_)
      · simp only
        split
        · split
          · exact Fol.same_err 4
          · refine (numR_fol h 2 x.2).bind (fun y hy => (numR_pos hy).2) (fun y hy hN2 => ?_) (fun y z hy hz => ?_)
            · simp only
              split
              · exact Fol.same_err 4
              · exact ih _ _ hN2
            · split at hz
              · cases hz
              · exact (allGo_pos hz (numR_pos hy).2).1
        · split
          · refine (numR_fol h 3 x.2).bind (fun y hy => (numR_pos hy).2) (fun y hy hN2 => ?_) (fun y z hy hz => ?_)
            · simp only
              split
              · exact Fol.same_err 4
              · exact ih _ _ hN2
            · split at hz
              · cases hz
              · exact (allGo_pos hz (numR_pos hy).2).1
          · split
            · refine (numR_fol h 7 x.2).bind (fun y hy => (numR_pos hy).2) (fun y hy hN2 => ?_) (fun y z hy hz => ?_)
              · simp only
                split
                · exact Fol.same_err 4
                · exact ih _ _ hN2
              · split at hz
                · cases hz
                · exact (allGo_pos hz (numR_pos hy).2).1
            · exact ih _ _ hN
      · have hpx := signR_pos hx
        split at hz
        · split at hz
          · cases hz
          · obtain ⟨y, hy, hz⟩ := bind_ok hz
            split at hz
            · cases hz
            · have h1 := allGo_pos hz (numR_pos hy).2; have h2 := numR_pos hy; (try simp only); omega
        · split at hz
          · obtain ⟨y, hy, hz⟩ := bind_ok hz
            split at hz
            · cases hz
            · have h1 := allGo_pos hz (numR_pos hy).2; have h2 := numR_pos hy; (try simp only); omega
          · split at hz
            · obtain ⟨y, hy, hz⟩ := bind_ok hz
              split at hz
              · cases hz
              · have h1 := allGo_pos hz (numR_pos hy).2; have h2 := numR_pos hy; (try simp only); omega
            · exact (allGo_pos hz hpx.2).1

theorem toldR_b (d : List UInt8) (p : Nat) : toldR d p = (numR d 5 p).bind fun a => if 30 ≤ a.1 then .error 4 else (numR d 5 a.2).bind fun b => if 30 ≤ b.1 then .error 4 else (numR d 4 b.2).bind fun c =>
    (ownGo d (c.1 + 4) order19 c.2 (List.replicate 19 0)).bind fun o => if good o.1 false = false then .error 4 else (allGo d o.1 (a.1 + b.1 + 258) (a.1 + b.1 + 259) o.2 []).bind fun l =>
      if l.1.getD 256 0 = 0 ∨ good (l.1.take (a.1 + 257)) false = false ∨ good (l.1.drop (a.1 + 257)) true = false then .error 4 else .ok (l.1.take (a.1 + 257), l.1.drop (a.1 + 257), l.2) := by
  unfold toldR
  cases numR d 5 p with
  | error e => rfl
  | ok a =>
    simp only [Except.bind]
    split
    · rfl
    · cases numR d 5 a.2 with
      | error e => rfl
      | ok b =>
        simp only
        split
        · rfl
        · cases numR d 4 b.2 with
          | error e => rfl
          | ok c =>
            simp only
            cases ownGo d (c.1 + 4) order19 c.2 (List.replicate 19 0) with
            | error e => rfl
            | ok o =>
              simp only
              split
              · rfl
              · cases allGo d o.1 (a.1 + b.1 + 258) (a.1 + b.1 + 259) o.2 [] <;> rfl
theorem toldR_pos {p : Nat} {x : List Nat × List Nat × Nat} (h : toldR d p = .ok x) : p ≤ x.2.2 ∧ x.2.2 ≤ 8 * d.length := by
  have := toldR_le (cl := x.1) (cd := x.2.1) (q := x.2.2) h; omega
theorem toldR_fol (h : Agr d d' s N) (p : Nat) : Fol d d' s N (·.2.2) (sh4 s) (toldR d p) (toldR d' (s + p)) := by
  have hmono := fun y => @toldR_pos d p y
  rw [toldR_b] at hmono
  rw [toldR_b, toldR_b]
  refine (numR_fol h 5 p).bind (fun x hx => (numR_pos hx).2) (fun a ha hN => ?_) (fun a y ha hy => ?_)
  · simp only
    split
    · exact Fol.same_err 4
    · refine (numR_fol h 5 a.2).bind (fun x hx => (numR_pos hx).2) (fun b hb hN => ?_) (fun b y hb hy => ?_)
      · simp only
        split
        · exact Fol.same_err 4
        · refine (numR_fol h 4 b.2).bind (fun x hx => (numR_pos hx).2) (fun c hc hN => ?_) (fun c y hc hy => ?_)
          · refine (ownGo_fol h _ _ _ _ hN).bind (fun x hx => (ownGo_pos hx (numR_pos hc).2).2) (fun o ho hN => ?_) (fun o y ho hy => ?_)
            · simp only
              split
              · exact Fol.same_err 4
              · refine (allGo_fol h _ _ _ _ _ hN).bind (fun x hx => (allGo_pos hx (ownGo_pos ho (numR_pos hc).2).2).2) (fun l hl hN => ?_) (fun l y hl hy => ?_)
                · simp only
                  split
                  · exact Fol.same_err 4
                  · exact Fol.of_ok rfl hN
                · split at hy
                  · cases hy
                  · injection hy with hy; subst hy; exact Nat.le_refl _
            · split at hy
              · cases hy
              · obtain ⟨l, hl, hy⟩ := bind_ok hy
                have h1 := allGo_pos hl (ownGo_pos ho (numR_pos hc).2).2
                split at hy
                · cases hy
                · injection hy with hy; subst hy; exact h1.1
          · obtain ⟨o, ho, hy⟩ := bind_ok hy
            have h0 := ownGo_pos ho (numR_pos hc).2
            split at hy
            · cases hy
            · obtain ⟨l, hl, hy⟩ := bind_ok hy
              have h1 := allGo_pos hl h0.2
              split at hy
              · cases hy
              · injection hy with hy; subst hy; (try simp only); omega
      · split at hy
        · cases hy
        · obtain ⟨c, hc, hy⟩ := bind_ok hy
          have h9 := numR_pos hc
          obtain ⟨o, ho, hy⟩ := bind_ok hy
          have h0 := ownGo_pos ho h9.2
          split at hy
          · cases hy
          · obtain ⟨l, hl, hy⟩ := bind_ok hy
            have h1 := allGo_pos hl h0.2
            split at hy
            · cases hy
            · injection hy with hy; subst hy; (try simp only); omega
  · split at hy
    · cases hy
    · obtain ⟨b, hb, hy⟩ := bind_ok hy
      have h8 := numR_pos hb
      split at hy
      · cases hy
      · obtain ⟨c, hc, hy⟩ := bind_ok hy
        have h9 := numR_pos hc
        obtain ⟨o, ho, hy⟩ := bind_ok hy
        have h0 := ownGo_pos ho h9.2
        split at hy
        · cases hy
        · obtain ⟨l, hl, hy⟩ := bind_ok hy
          have h1 := allGo_pos hl h0.2
          split at hy
          · cases hy
          · injection hy with hy; subst hy; (try simp only); omega

theorem blockR_b (d : List UInt8) (most : Int) (t p : Nat) (out : List UInt8) : blockR d most t p out = if t = 0 then storedR d most p out else if t = 1 then signsR d most fixedL fixedD (8 * d.length + 1) p out
    else if t = 2 then (toldR d p).bind fun x => signsR d most x.1 x.2.1 (8 * d.length + 1) x.2.2 out else .error 4 := by
  unfold blockR
  cases toldR d p <;> rfl
theorem blockR_past {most : Int} {t p : Nat} {out : List UInt8} (hp : p ≤ 8 * d.length) : Past p d (blockR d most t p out) := fun y hy => blockR_le (q := y.1) (o2 := y.2) hy hp
theorem blockR_fol (h : Agr d d' s N) (most : Int) (t p : Nat) (out : List UInt8) (hp : p ≤ N) : Fol d d' s N (·.1) (sh2 s) (blockR d most t p out) (blockR d' most t (s + p) out) := by
  rw [blockR_b, blockR_b]
  split
  · exact storedR_fol h most p out
  · split
    · exact signsR_fol h most _ _ _ _ _ _ hp (by omega) (by omega)
    · split
      · refine (toldR_fol h p).bind (fun x hx => (toldR_pos hx).2) (fun x hx hN => ?_) (fun x y hx hy => (signsR_past _ _ _ _ _ _ _ y hy).1)
        exact signsR_fol h most _ _ _ _ _ _ hN (by omega) (by (try simp only); omega)
      · exact Fol.same_err 4

theorem rawGo_b (d : List UInt8) (most : Int) (f p : Nat) (out : List UInt8) : rawGo d most (f + 1) p out = (numR d 1 p).bind fun x => (numR d 2 x.2).bind fun y => (blockR d most y.1 y.2 out).bind fun z => if x.1 = 1 then .ok z else rawGo d most f z.1 z.2 := by
  rw [rawGo]
  cases numR d 1 p with
  | error e => rfl
  | ok x =>
    simp only [Except.bind]
    cases numR d 2 x.2 with
    | error e => rfl
    | ok y =>
      simp only
      cases blockR d most y.1 y.2 out <;> rfl
theorem rawGo_past (d : List UInt8) (most : Int) : ∀ (f p : Nat) (out : List UInt8), Past p d (rawGo d most f p out) := by
  intro f
  induction f with
  | zero => intro p out y hy; rw [rawGo] at hy; cases hy
  | succ f ih =>
    intro p out y hy
    rw [rawGo_b] at hy
    obtain ⟨x, hx, hy⟩ := bind_ok hy
    obtain ⟨z, hz, hy⟩ := bind_ok hy
    obtain ⟨u, hu, hy⟩ := bind_ok hy
    have h1 := numR_pos hx
    have h2 := numR_pos hz
    have h3 := blockR_past h2.2 u hu
    split at hy
    · injection hy with hy; subst hy; omega
    · have := ih _ _ y hy; omega
theorem rawGo_fol (h : Agr d d' s N) (most : Int) : ∀ (f f' p : Nat) (out : List UInt8), p ≤ N → 8 * d.length < p + f → 8 * d'.length < s + p + f' → Fol d d' s N (·.1) (sh2 s) (rawGo d most f p out) (rawGo d' most f' (s + p) out) := by
  have h1 := h.le
  have h2 := h.le'
  intro f
  induction f with
  | zero => intro f' p out hp hf; omega
  | succ f ih =>
    intro f' p out hp hf hf'
    obtain ⟨f', rfl⟩ : ∃ g, f' = g + 1 := ⟨f' - 1, by omega⟩
    rw [rawGo_b, rawGo_b]
    refine (numR_fol h 1 p).bind (fun x hx => (numR_pos hx).2) (fun x hx hN => ?_) (fun x y hx hy => ?_)
    · have hpx := (numR_le (x := x.1) (q := x.2) hx).1
      refine (numR_fol h 2 x.2).bind (fun x hx => (numR_pos hx).2) (fun y hy hN2 => ?_) (fun y z hy hz => ?_)
      · have hpy := numR_pos hy
        refine (blockR_fol h most y.1 y.2 out hN2).bind (fun z hz => (blockR_past hpy.2 z hz).2) (fun z hz hN3 => ?_) (fun z u hz hu => ?_)
        · have hpz := blockR_past hpy.2 z hz
          simp only
          split
          · exact Fol.of_ok rfl hN3
          · exact ih f' z.1 z.2 hN3 (by omega) (by omega)
        · split at hu
          · injection hu with hu; subst hu; exact Nat.le_refl _
          · exact (rawGo_past _ _ _ _ _ u hu).1
      · obtain ⟨u, hu, hz⟩ := bind_ok hz
        have h3 := blockR_past (numR_pos hy).2 u hu
        split at hz
        · injection hz with hz; subst hz; exact h3.1
        · have := (rawGo_past _ _ _ _ _ z hz).1
          (try simp only); omega
    · obtain ⟨z, hz, hy⟩ := bind_ok hy
      obtain ⟨u, hu, hy⟩ := bind_ok hy
      have h2 := numR_pos hz
      have h3 := blockR_past h2.2 u hu
      split at hy
      · injection hy with hy; subst hy; (try simp only); omega
      · have := (rawGo_past _ _ _ _ _ y hy).1
        (try simp only); omega

end Go.Proofs.Ytaapnjhkflpiiaa
