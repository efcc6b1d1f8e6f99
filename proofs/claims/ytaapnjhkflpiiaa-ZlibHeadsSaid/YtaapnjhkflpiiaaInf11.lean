/-
  Plain Lean: how far the parts of rawOf read.
-/
import Derived.Test.YtaapnjhkflpiiaaInf10
namespace Go.Proofs.Ytaapnjhkflpiiaa

theorem storedGo_le (d : List UInt8) (most : Int) : ∀ (n p : Nat) (o : List UInt8) (q : Nat) (o2 : List UInt8), storedGo d most n p o = .ok (q, o2) → p ≤ 8 * d.length → p ≤ q ∧ q ≤ 8 * d.length := by
  intro n
  induction n with
  | zero => intro p o q o2 h hp; rw [storedGo] at h; injection h with h; injection h with h1 h2; omega
  | succ n ih =>
    intro p o q o2 h hp
    rw [storedGo] at h
    split at h
    · cases h
    · rename_i c p' hr
      obtain ⟨e1, e2, _⟩ := numR_le hr
      split at h
      · cases h
      · have := ih _ _ _ _ h e2; omega
theorem storedR_le {d : List UInt8} {most : Int} {p : Nat} {o : List UInt8} {q : Nat} {o2 : List UInt8} (h : storedR d most p o = .ok (q, o2)) (_hp : p ≤ 8 * d.length) : p ≤ q ∧ q ≤ 8 * d.length := by
  unfold storedR at h
  split at h
  · cases h
  · rename_i n p2 hr
    obtain ⟨e1, e2, _⟩ := numR_le hr
    split at h
    · cases h
    · rename_i m p3 hr2
      obtain ⟨e3, e4, _⟩ := numR_le hr2
      split at h
      · have := storedGo_le _ _ _ _ _ _ _ h e4; omega
      · cases h
theorem signsR_le (d : List UInt8) (most : Int) (cl cd : List Nat) : ∀ (f p : Nat) (o : List UInt8) (q : Nat) (o2 : List UInt8), signsR d most cl cd f p o = .ok (q, o2) → p ≤ q ∧ q ≤ 8 * d.length := by
  intro f
  induction f with
  | zero => intro p o q o2 h; rw [signsR] at h; cases h
  | succ f ih =>
    intro p o q o2 h
    rw [signsR] at h
    split at h
    · cases h
    · rename_i s p1 hr
      obtain ⟨e1, e2, _⟩ := signR_le hr
      split at h
      · split at h
        · cases h
        · have := ih _ _ _ _ h; omega
      · split at h
        · injection h with h; injection h with h1 h2; omega
        · split at h
          · cases h
          · rename_i n p2 hr2
            obtain ⟨e3, e4, _⟩ := lenR_le hr2 e2
            split at h
            · cases h
            · split at h
              · cases h
              · rename_i s2 p3 hr3
                obtain ⟨e5, e6, _⟩ := signR_le hr3
                split at h
                · cases h
                · rename_i b p4 hr4
                  obtain ⟨e7, e8, _⟩ := distR_le hr4 e6
                  split at h
                  · cases h
                  · split at h
                    · cases h
                    · have := ih _ _ _ _ h; omega
theorem ownGo_le (d : List UInt8) : ∀ (n : Nat) (l : List Nat) (p : Nat) (own o2 : List Nat) (q : Nat), ownGo d n l p own = .ok (o2, q) → p ≤ 8 * d.length → p ≤ q ∧ q ≤ 8 * d.length ∧ o2.length = own.length := by
  intro n
  induction n with
  | zero => intro l p own o2 q h hp; rw [ownGo] at h; injection h with h; injection h with h1 h2; subst h1; exact ⟨by omega, by omega, rfl⟩
  | succ n ih =>
    intro l p own o2 q h hp
    rw [ownGo] at h
    split at h
    · cases h
    · rename_i x p' hr
      obtain ⟨e1, e2, _⟩ := numR_le hr
      have := ih _ _ _ _ _ h e2
      rw [List.length_set] at this
      omega
theorem allGo_le (d : List UInt8) (own : List Nat) (tot : Nat) : ∀ (f p : Nat) (all a2 : List Nat) (q : Nat), allGo d own tot f p all = .ok (a2, q) → p ≤ 8 * d.length → all.length ≤ tot → p ≤ q ∧ q ≤ 8 * d.length ∧ a2.length = tot := by
  intro f
  induction f with
  | zero => intro p all a2 q h; rw [allGo] at h; cases h
  | succ f ih =>
    intro p all a2 q h hp hal
    rw [allGo] at h
    split at h
    · injection h with h; injection h with h1 h2; subst h1; omega
    · split at h
      · cases h
      · rename_i s p1 hr
        obtain ⟨e1, e2, _⟩ := signR_le hr
        split at h
        · split at h
          · cases h
          · split at h
            · cases h
            · rename_i x p2 hr2
              obtain ⟨e3, e4, _⟩ := numR_le hr2
              split at h
              · cases h
              · have := ih _ _ _ _ h e4 (by rw [List.length_append, List.length_replicate]; omega)
                omega
        · split at h
          · split at h
            · cases h
            · rename_i x p2 hr2
              obtain ⟨e3, e4, _⟩ := numR_le hr2
              split at h
              · cases h
              · have := ih _ _ _ _ h e4 (by rw [List.length_append, List.length_replicate]; omega)
                omega
          · split at h
            · split at h
              · cases h
              · rename_i x p2 hr2
                obtain ⟨e3, e4, _⟩ := numR_le hr2
                split at h
                · cases h
                · have := ih _ _ _ _ h e4 (by rw [List.length_append, List.length_replicate]; omega)
                  omega
            · have := ih _ _ _ _ h e2 (by rw [List.length_append, List.length_singleton]; omega)
              omega
theorem toldR_le {d : List UInt8} {p : Nat} {cl cd : List Nat} {q : Nat} (h : toldR d p = .ok (cl, cd, q)) : p ≤ q ∧ q ≤ 8 * d.length ∧ cl.length ≤ 1000 ∧ cd.length ≤ 1000 := by
  unfold toldR at h
  split at h
  · cases h
  · rename_i a p1 hr1
    obtain ⟨e1, e2, _⟩ := numR_le hr1
    split at h
    · cases h
    · split at h
      · cases h
      · rename_i b p2 hr2
        obtain ⟨e3, e4, _⟩ := numR_le hr2
        split at h
        · cases h
        · split at h
          · cases h
          · rename_i c p3 hr3
            obtain ⟨e5, e6, _⟩ := numR_le hr3
            split at h
            · cases h
            · rename_i own p4 hr4
              obtain ⟨e7, e8, _⟩ := ownGo_le _ _ _ _ _ _ _ hr4 e6
              split at h
              · cases h
              · split at h
                · cases h
                · rename_i all p5 hr5
                  obtain ⟨e9, e10, e11⟩ := allGo_le _ _ _ _ _ _ _ _ hr5 e8 (by simp)
                  split at h
                  · cases h
                  · injection h with h; injection h with h1 h2; injection h2 with h2 h3
                    subst h1 h2 h3
                    rw [List.length_take, List.length_drop]
                    omega
theorem blockR_le {d : List UInt8} {most : Int} {t p : Nat} {o : List UInt8} {q : Nat} {o2 : List UInt8} (h : blockR d most t p o = .ok (q, o2)) (hp : p ≤ 8 * d.length) : p ≤ q ∧ q ≤ 8 * d.length := by
  unfold blockR at h
  split at h
  · exact storedR_le h hp
  · split at h
    · exact signsR_le _ _ _ _ _ _ _ _ _ h
    · split at h
      · split at h
        · cases h
        · rename_i cl cd p' hr
          have h1 := toldR_le hr
          have h2 := signsR_le _ _ _ _ _ _ _ _ _ h
          omega
      · cases h

/-- What Raw hands back. -/
def rawEnd (r : Except Nat (Nat × List UInt8)) : List UInt8 × Nat × Nat := match r with
  | .error e => ([], 0, e)
  | .ok (p, out) => (out, (p + 7) / 8, 0)
theorem rawOf_end (d : List UInt8) (most : Int) : rawOf d most = rawEnd (rawGo d most (8 * d.length + 1) 0 []) := by
  unfold rawOf rawEnd
  cases rawGo d most (8 * d.length + 1) 0 [] <;> rfl
theorem fixedL_len : fixedL.length = 288 := by unfold fixedL; rw [List.length_append, List.length_append, List.length_append, List.length_replicate, List.length_replicate, List.length_replicate, List.length_replicate]
theorem fixedD_len : fixedD.length = 32 := by unfold fixedD; rw [List.length_replicate]

end Go.Proofs.Ytaapnjhkflpiiaa
