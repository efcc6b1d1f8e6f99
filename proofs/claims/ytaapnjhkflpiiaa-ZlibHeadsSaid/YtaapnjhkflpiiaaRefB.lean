/-
  The document's told: the plain part.
  Plain: how long the document's texts are; what good says of the room.
  What the document's loop of lengths needs: numbers that grow beside the stream; its plain steps.
-/
import Derived.Test.YtaapnjhkflpiiaaRef9
import Derived.Test.YtaapnjhkflpiiaaInfCodes3
import Derived.Test.YtaapnjhkflpiiaaInfCodes2
import Derived.Test.YtaapnjhkflpiiaaRefA
import Derived.Test.YtaapnjhkflpiiaaMixT
import Derived.Test.YtaapnjhkflpiiaaInf9
namespace Go.Proofs.Ytaapnjhkflpiiaa
open Go.RowKit Go.Mix

/-- Lengths of the code of lengths, read to the end whatever comes. -/
def ownN (d : List UInt8) : Nat → List Nat → Nat → Nat → List Nat → List Nat × Nat × Nat
  | 0, _, p, bad, own => (own, p, bad)
  | n + 1, o, p, bad, own => ownN d n (o.drop 1) (numN d p bad 3).2.1 (numN d p bad 3).2.2 (own.set (o.getD 0 0) (numN d p bad 3).1)
def over (x bad : Nat) : Nat := if 29 < x then stopN bad 4 else bad

theorem num_or (d : List UInt8) (p n : Nat) (hp : p ≤ 8 * d.length) : (∃ x q, numR d n p = .ok (x, q) ∧ numN d p 0 n = (x, q, 0) ∧ p ≤ q ∧ q ≤ 8 * d.length) ∨ (numR d n p = .error 3 ∧ (numN d p 0 n).2 = (8 * d.length, 3)) := by
  cases h : numR d n p with
  | ok y =>
    obtain ⟨x, q⟩ := y
    obtain ⟨h1, h2, _⟩ := numR_le h
    exact .inl ⟨x, q, rfl, numN_ok h, by omega, h2⟩
  | error k => obtain ⟨rfl, h2⟩ := numN_err hp h; exact .inr ⟨rfl, h2⟩

theorem ownN_dead (d : List UInt8) : ∀ (n : Nat) (o : List Nat) (p bad : Nat) (own : List Nat), bad ≠ 0 → (ownN d n o p bad own).2 = (p, bad) := by
  intro n
  induction n with
  | zero => intro o p bad own hb; rfl
  | succ n ih => intro o p bad own hb; rw [ownN, numN_bad d p bad hb]; exact ih _ _ _ _ hb
theorem ownN_own (d : List UInt8) : ∀ (n : Nat) (o : List Nat) (p : Nat) (own : List Nat), p ≤ 8 * d.length →
    (∃ l q, ownGo d n o p own = .ok (l, q) ∧ ownN d n o p 0 own = (l, q, 0) ∧ q ≤ 8 * d.length) ∨ (ownGo d n o p own = .error 3 ∧ (ownN d n o p 0 own).2.2 = 3) := by
  intro n
  induction n with
  | zero => intro o p own hp; exact .inl ⟨own, p, rfl, rfl, hp⟩
  | succ n ih =>
    intro o p own hp
    rw [ownGo, ownN]
    rcases num_or d p 3 hp with ⟨x, q, h1, h2, h3, h4⟩ | ⟨h1, h2⟩
    · rw [h1, h2]; exact ih _ _ _ h4
    · rw [h1]
      have e : (numN d p 0 3).2.1 = 8 * d.length ∧ (numN d p 0 3).2.2 = 3 := by rw [h2]; exact ⟨rfl, rfl⟩
      rw [e.1, e.2]
      refine .inr ⟨rfl, ?_⟩
      rw [ownN_dead d n _ _ 3 _ (by decide)]
theorem ownN_len (d : List UInt8) : ∀ (n : Nat) (o : List Nat) (p bad : Nat) (own : List Nat), (ownN d n o p bad own).1.length = own.length := by
  intro n
  induction n with
  | zero => intro o p bad own; rfl
  | succ n ih => intro o p bad own; rw [ownN, ih, List.length_set]

/-- The state ahead of the loop: a, b, own, where reading is, the error. -/
structure ToldS where
  a : Nat
  b : Nat
  c : Nat
  own : List Nat
  q : Nat
  bad : Nat
def toldN (d : List UInt8) (p : Nat) : ToldS :=
  let A := numN d p 0 5
  let B := numN d A.2.1 (over A.1 A.2.2) 5
  let C := numN d B.2.1 (over B.1 B.2.2) 4
  let O := ownN d (C.1 + 4) order19 C.2.1 C.2.2 (List.replicate 19 0)
  ⟨A.1, B.1, C.1, O.1, O.2.1, if O.2.2 = 0 ∧ good O.1 false = false then 4 else O.2.2⟩

theorem over_bad (x bad : Nat) (h : bad ≠ 0) : over x bad = bad := by unfold over stopN; rw [if_neg h]; split <;> rfl

theorem toldN_dead (d : List UInt8) (p : Nat) (hp : p ≤ 8 * d.length) :
    ((toldN d p).bad ≠ 0 ∧ toldR d p = .error (toldN d p).bad) ∨
    ((toldN d p).bad = 0 ∧ (toldN d p).a ≤ 29 ∧ (toldN d p).b ≤ 29 ∧ (toldN d p).q ≤ 8 * d.length ∧ good (toldN d p).own false = true ∧
      toldR d p = match allGo d (toldN d p).own ((toldN d p).a + (toldN d p).b + 258) ((toldN d p).a + (toldN d p).b + 259) (toldN d p).q [] with
        | .error e => .error e
        | .ok (all, p5) => toldE (toldN d p).a all p5) := by
  have hdeadO : ∀ (n p bad : Nat), bad ≠ 0 → ∀ own, (if (ownN d n order19 p bad own).2.2 = 0 ∧ good (ownN d n order19 p bad own).1 false = false then 4 else (ownN d n order19 p bad own).2.2) = bad := by
    intro n p bad hb own
    have := ownN_dead d n order19 p bad own hb
    rw [this]
    rw [if_neg (fun h => hb h.1)]
  unfold toldR
  rcases num_or d p 5 hp with ⟨x, q, h1, h2, h3, h4⟩ | ⟨h1, h2⟩
  · by_cases hx : 30 ≤ x
    · refine .inl ?_
      have hov : over x 0 = 4 := by unfold over; rw [if_pos (by omega)]; rfl
      simp only [toldN, h1, h2, hov, if_pos hx, numN_bad d _ 4 (by decide), over_bad _ 4 (by decide)]
      rw [hdeadO _ _ 4 (by decide)]
      exact ⟨by decide, rfl⟩
    · have hov : over x 0 = 0 := by unfold over; rw [if_neg (by omega)]
      rcases num_or d q 5 h4 with ⟨y, q2, g1, g2, g3, g4⟩ | ⟨g1, g2⟩
      · by_cases hy : 30 ≤ y
        · refine .inl ?_
          have hov2 : over y 0 = 4 := by unfold over; rw [if_pos (by omega)]; rfl
          simp only [toldN, h1, h2, hov, if_neg hx, g1, g2, hov2, if_pos hy, numN_bad d _ 4 (by decide)]
          rw [hdeadO _ _ 4 (by decide)]
          exact ⟨by decide, rfl⟩
        · have hov2 : over y 0 = 0 := by unfold over; rw [if_neg (by omega)]
          rcases num_or d q2 4 g4 with ⟨z, q3, k1, k2, k3, k4⟩ | ⟨k1, k2⟩
          · rcases ownN_own d (z + 4) order19 q3 (List.replicate 19 0) k4 with ⟨l, q4, m1, m2, m3⟩ | ⟨m1, m2⟩
            · by_cases hg : good l false = false
              · refine .inl ?_
                simp only [toldN, h1, h2, hov, if_neg hx, g1, g2, hov2, if_neg hy, k1, k2, m1, m2, hg, if_true, and_self]
                exact ⟨by decide, trivial⟩
              · refine .inr ?_
                have hg2 : good l false = true := by simpa using hg
                simp only [toldN, h1, h2, hov, if_neg hx, g1, g2, hov2, if_neg hy, k1, k2, m1, m2, hg2]
                refine ⟨by simp, by omega, by omega, m3, by simp, ?_⟩
                simp only [Bool.true_eq_false, if_false]
                cases allGo d l (x + y + 258) (x + y + 259) q4 [] with
                | error e => rfl
                | ok r => rfl
            · refine .inl ?_
              simp only [toldN, h1, h2, hov, if_neg hx, g1, g2, hov2, if_neg hy, k1, k2, m1, m2]
              rw [if_neg (fun h => absurd h.1 (by decide))]
              exact ⟨by decide, rfl⟩
          · refine .inl ?_
            have e : (numN d q2 0 4).2.2 = 3 := by rw [k2]
            simp only [toldN, h1, h2, hov, if_neg hx, g1, g2, hov2, if_neg hy, k1, e]
            rw [hdeadO _ _ 3 (by decide)]
            exact ⟨by decide, rfl⟩
      · refine .inl ?_
        have e : (numN d q 0 5).2.2 = 3 := by rw [g2]
        simp only [toldN, h1, h2, hov, if_neg hx, g1, e, numN_bad d _ 3 (by decide), over_bad _ 3 (by decide)]
        rw [hdeadO _ _ 3 (by decide)]
        exact ⟨by decide, rfl⟩
  · refine .inl ?_
    have e : (numN d p 0 5).2.2 = 3 := by rw [h2]
    simp only [toldN, h1, e, numN_bad d _ 3 (by decide), over_bad _ 3 (by decide)]
    rw [hdeadO _ _ 3 (by decide)]
    exact ⟨by decide, rfl⟩

end Go.Proofs.Ytaapnjhkflpiiaa
namespace Go.Proofs.Ytaapnjhkflpiiaa

def Short (n : Nat) (st : List UInt8 × List (List UInt8)) : Prop := st.1.length ≤ n ∧ ∀ t ∈ st.2, t.length ≤ n
theorem stepC_short (ls : List Nat) (n i : Nat) (st : List UInt8 × List (List UInt8)) (h : Short n st) : Short n (stepC ls n i st) := by
  unfold stepC
  split
  · have hx : (padTo n (if st.1 = [] then [] else nextS st.1)).length ≤ n := by
      rw [padTo_len]
      have : (if st.1 = [] then [] else nextS st.1).length ≤ n := by
        split
        · exact Nat.zero_le _
        · rw [nextS_len]; exact h.1
      omega
    refine ⟨hx, fun t ht => ?_⟩
    rcases List.mem_or_eq_of_mem_set ht with h1 | h1
    · exact h.2 t h1
    · rw [h1]; exact hx
  · exact h
theorem innerC_short (ls : List Nat) (n : Nat) (st : List UInt8 × List (List UInt8)) (h : Short n st) : ∀ i, Short n (innerC ls n i st) := by
  intro i
  induction i with
  | zero => exact h
  | succ i ih => rw [innerC]; exact stepC_short ls n i _ ih
theorem outerC_short (ls : List Nat) : ∀ n, Short n (outerC ls n) := by
  intro n
  induction n with
  | zero =>
    refine ⟨Nat.le_refl _, fun t ht => ?_⟩
    rw [outerC] at ht
    rw [List.eq_of_mem_replicate ht]
    exact Nat.le_refl _
  | succ n ih =>
    rw [outerC]
    exact innerC_short ls (n + 1) _ ⟨Nat.le_succ_of_le ih.1, fun t ht => Nat.le_succ_of_le (ih.2 t ht)⟩ _
theorem genC_short (ls : List Nat) (i : Nat) : ((genC ls).getD i []).length ≤ 15 := by
  rw [List.getD_eq_getElem?_getD]
  cases h : (genC ls)[i]? with
  | none => exact Nat.zero_le _
  | some t => exact (outerC_short ls 15).2 t (List.mem_of_getElem? h)
theorem genC_len (ls : List Nat) : (genC ls).length = ls.length := outerC_len ls 15

theorem good_room (ls : List Nat) (nn : Bool) (hg : good ls nn = true) (hne : (sgn ls).length ≠ 0) : roomTo ls 15 ≤ 32768 := by
  have hcases : roomTo ls 15 = 32768 ∨ ((sgn ls).length = 1 ∧ cnt ls 1 = 1) := by
    unfold good at hg
    simp only [Bool.or_eq_true, Bool.and_eq_true, decide_eq_true_eq] at hg
    rcases hg with (h | h) | h
    · exact .inl h
    · exact .inr h
    · exact absurd h.2 hne
  have hroom : roomTo ls 15 ≤ 32768 := by
    rcases hcases with h | ⟨h, h1⟩
    · omega
    · have hs : ∀ l, l ≤ 14 → (sgnTo ls (l + 1)).length = 1 ∧ roomTo ls (l + 1) = 16384 := by
        intro l hl
        have hm := sgnTo_len_mono ls (l + 1) 15 (by omega)
        have : (sgnTo ls 15).length = 1 := h
        induction l with
        | zero =>
          have e : (sgnTo ls 1).length = cnt ls 1 := by rw [sgnTo, sgnTo]; simp [cnt]
          refine ⟨?_, ?_⟩
          · show (sgnTo ls 1).length = 1
            omega
          · show roomTo ls 1 = 16384
            rw [roomTo, roomTo, h1]
        | succ l ih =>
          obtain ⟨a, b⟩ := ih (by omega) (sgnTo_len_mono ls (l + 1) 15 (by omega))
          have e : (sgnTo ls (l + 1 + 1)).length = (sgnTo ls (l + 1)).length + cnt ls (l + 1 + 1) := by rw [sgnTo, List.length_append]; rfl
          have hz : cnt ls (l + 1 + 1) = 0 := by omega
          exact ⟨by omega, by rw [roomTo, hz, b]; simp⟩
      have : roomTo ls 15 = 16384 := (hs 14 (by omega)).2
      omega
  exact hroom
theorem signG_eq (d : List UInt8) (ls : List Nat) (nn : Bool) (hmax : ∀ i, ls.getD i 0 ≤ 15) (hg : good ls nn = true) (hne : (sgn ls).length ≠ 0) (p : Nat) : signC d (genC ls) 15 [] p = signR d ls p := by
  rw [genC_eq ls hmax (good_room ls nn hg hne)]
  exact signC_eq d ls nn hmax hg hne p
theorem good_some (ls : List Nat) (hg : good ls false = true) : (sgn ls).length ≠ 0 := by
  intro h0
  unfold good at hg
  rw [h0] at hg
  simp only [Bool.or_eq_true, Bool.and_eq_true, decide_eq_true_eq, Bool.false_eq_true, false_and, or_false] at hg
  rcases hg with h | h
  · have hz : ∀ n, n ≤ 15 → roomTo ls n = 0 := by
      intro n
      induction n with
      | zero => intro _; rfl
      | succ n ih =>
        intro hn
        have e : (sgnTo ls (n + 1)).length = (sgnTo ls n).length + cnt ls (n + 1) := by rw [sgnTo, List.length_append]; rfl
        have hm := sgnTo_len_mono ls (n + 1) 15 hn
        have h1 : (sgnTo ls 15).length = 0 := h0
        have hc : cnt ls (n + 1) = 0 := by omega
        rw [roomTo, ih (by omega), hc, Nat.zero_mul]
    have := hz 15 (by omega)
    omega
  · exact absurd h.1 (by decide)

end Go.Proofs.Ytaapnjhkflpiiaa
namespace Go.Proofs.Ytaapnjhkflpiiaa
open Go.RowKit Go.Mix

def anyP (ys : List Nat) : Nat → Bool
  | 0 => false
  | i + 1 => anyP ys i || decide (0 < ys.getD i 0)
theorem anyP_gs (ys : List Nat) : ∀ i, anyP ys i = !decide ((gs ys i).2.1 = 0) := by
  intro i
  induction i with
  | zero => rfl
  | succ i ih =>
    rw [anyP, ih, gs]
    by_cases h : 0 < ys.getD i 0
    · rw [if_pos h, decide_eq_true h]; simp
    · rw [if_neg h, decide_eq_false h]; simp
theorem anyP_sgn (ys : List Nat) (hmax : ∀ i, ys.getD i 0 ≤ 15) : anyP ys ys.length = !decide ((sgn ys).length = 0) := by
  have e1 : (sgn ys).length = (gs ys ys.length).2.1 := by rw [(gs_eq ys hmax ys.length).2.1]; exact sgnTo_cnts ys 15
  rw [anyP_gs, e1]
theorem getD_le15 {l : List Nat} (h : ∀ x ∈ l, x ≤ 15) (i : Nat) : l.getD i 0 ≤ 15 := by
  rw [List.getD_eq_getElem?_getD]
  cases hx : l[i]? with
  | none => exact Nat.zero_le _
  | some t => exact h t (List.mem_of_getElem? hx)
theorem app_le15 {l : List Nat} (h : ∀ x ∈ l, x ≤ 15) (n y : Nat) (hy : y ≤ 15) : ∀ x ∈ l ++ List.replicate n y, x ≤ 15 := by
  intro x hx
  rcases List.mem_append.1 hx with h1 | h1
  · exact h x h1
  · rw [List.eq_of_mem_replicate h1]; exact hy

/-- Behind a step of the loop of lengths. -/
def afterX (d : List UInt8) (own : List Nat) (tot f q2 : Nat) (l2 : List Nat) (b2 : Nat) : Except Nat (List Nat × Nat) :=
  if b2 ≠ 0 then .error b2 else if tot < l2.length then .error 4 else allGo d own tot f q2 l2

section
variable {d : List UInt8} {own : List Nat} {tot f q p1 s : Nat} {l : List Nat}
theorem allGo_err {e : Nat} (hl : l.length < tot) (hr : signR d own q = .error e) : allGo d own tot (f + 1) q l = .error e := by
  rw [allGo, if_neg (by omega), hr]
theorem allGo_lit (hl : l.length < tot) (hr : signR d own q = .ok (s, p1)) (hs : s < 16) : allGo d own tot (f + 1) q l = afterX d own tot f p1 (l ++ [s]) 0 := by
  unfold afterX
  rw [allGo, if_neg (by omega), hr, if_neg (fun h => h rfl), if_neg (by rw [List.length_append, List.length_singleton]; omega)]
  simp only
  rw [if_neg (by omega), if_neg (by omega), if_neg (by omega)]
theorem allGo_none (hl : l.length < tot) (hr : signR d own q = .ok (16, p1)) (h0 : l.length = 0) : allGo d own tot (f + 1) q l = .error 4 := by
  rw [allGo, if_neg (by omega), hr]
  simp only
  rw [if_pos trivial, if_pos h0]
theorem after_num {n k what : Nat} (hp : p1 ≤ 8 * d.length) : (match numR d n p1 with
      | .error e => .error e
      | .ok (x, p2) => if tot < l.length + (k + x) then .error 4 else allGo d own tot f p2 (l ++ List.replicate (k + x) what)) =
    afterX d own tot f (numN d p1 0 n).2.1 (l ++ List.replicate (k + (numN d p1 0 n).1) what) (numN d p1 0 n).2.2 := by
  unfold afterX
  rcases num_or d p1 n hp with ⟨x, q, h1, h2, -, -⟩ | ⟨h1, h2⟩
  · rw [h1, h2, if_neg (fun h => h rfl), List.length_append, List.length_replicate]
  · have e : (numN d p1 0 n).2.2 = 3 := by rw [h2]
    rw [h1, e, if_pos (by decide)]
theorem allGo_16 (hl : l.length < tot) (hr : signR d own q = .ok (16, p1)) (h0 : l.length ≠ 0) (hp : p1 ≤ 8 * d.length) :
    allGo d own tot (f + 1) q l = afterX d own tot f (numN d p1 0 2).2.1 (l ++ List.replicate (3 + (numN d p1 0 2).1) (l.getD (l.length - 1) 0)) (numN d p1 0 2).2.2 := by
  rw [← after_num hp, allGo, if_neg (by omega), hr]
  simp only
  rw [if_pos trivial, if_neg h0]
  cases numR d 2 p1 <;> rfl
theorem allGo_17 (hl : l.length < tot) (hr : signR d own q = .ok (17, p1)) (hp : p1 ≤ 8 * d.length) :
    allGo d own tot (f + 1) q l = afterX d own tot f (numN d p1 0 3).2.1 (l ++ List.replicate (3 + (numN d p1 0 3).1) 0) (numN d p1 0 3).2.2 := by
  rw [← after_num hp, allGo, if_neg (by omega), hr]
  simp only
  rw [if_neg (by decide), if_pos trivial]
  cases numR d 3 p1 <;> rfl
theorem allGo_18 (hl : l.length < tot) (hr : signR d own q = .ok (18, p1)) (hp : p1 ≤ 8 * d.length) :
    allGo d own tot (f + 1) q l = afterX d own tot f (numN d p1 0 7).2.1 (l ++ List.replicate (11 + (numN d p1 0 7).1) 0) (numN d p1 0 7).2.2 := by
  rw [← after_num hp, allGo, if_neg (by omega), hr]
  simp only
  rw [if_neg (by decide), if_neg (by decide), if_pos trivial]
  cases numR d 7 p1 <;> rfl
end

section
variable {S : Nat → Prop} {w0 w w' : World} {P : Nat} {a : Option Addr} {cap : Nat} {d : List UInt8} {most : Int} {p : Nat} {out : List UInt8} {bad : Nat} {v : Value} {l : List Nat} {xs : List Value}

theorem RefS.grown (h : RefS S w0 w P a cap d most p out bad) (hr : Row S 3 w0 w v xs) (g : w.grownBy w' v.ownBlock) : RefS S w0 w' P a cap d most p out bad := by
  obtain ⟨vo, h⟩ := h
  have hP : v.ownBlock ≠ some P := hr.other h.blk (by decide)
  refine ⟨vo, (g.block P (lt_of_block h.blk) (fun e => hP e.symm)).trans h.blk, h.row.kept g ?_ hr.off, h.off, h.few, h.le, h.badLe⟩
  cases hv : vo.ownBlock with
  | none => exact .inl rfl
  | some k =>
    refine .inr fun e => ?_
    obtain ⟨Ck, hk⟩ := hr.held k e.symm
    exact h.row.other hk (by decide) hv

theorem refMany_hold (h : RefS S w0 w P a cap d most p out bad) (hr : Row S 3 w0 w v (icells l)) (hl : l.length ≤ 100000) (n times : Nat) (ni ti : Int) (hni : ni = (n : Int)) (hti : ti = (times : Int)) (ht : times ≤ 1000) :
    Calls Try.prog 48 #[v, .int .i64 ni, .int .i64 ti] w fun e w' => ∃ v', e = .returned v' ∧ Row S 3 w0 w' v' (icells (l ++ List.replicate times n)) ∧ RefS S w0 w' P a cap d most p out bad := by
  have hr' : Row (fun k => k < w.heap.size ∧ v.ownBlock ≠ some k) 3 w w v (icells l) := hr.rebase (FrameS.refl fun k hk => hk.1) (fun g hg hk => hk.2 hg)
  refine Calls.mono (many_any hr' hl n times ni ti hni hti ht) ?_
  rintro e w2 ⟨v', rfl, h2⟩
  have hF := h2.frame
  have hST : ∀ k, S k → k < w.heap.size ∧ v.ownBlock ≠ some k := fun k hk => ⟨hr.frame.lt hk, fun e => hr.off k e hk⟩
  refine ⟨v', rfl, h2.rebase (hr.frame.trans (hF.sub hST)) (fun g hg hk => h2.off g hg (hST g hk)), ?_⟩
  obtain ⟨vo, h⟩ := h
  refine ⟨vo, (hF.keep P ⟨lt_of_block h.blk, hr.other h.blk (by decide)⟩).2.trans h.blk, h.row.moved hF (fun g hg => ?_) hST, h.off, h.few, h.le, h.badLe⟩
  obtain ⟨C, hC⟩ := h.row.held g hg
  exact ⟨lt_of_block hC, hr.other hC (by decide)⟩

theorem RefS.ownT (h : RefS S w0 w P a cap d most p out bad) (hr : Row S 3 w0 w v xs) : ∀ g, v.ownBlock = some g → ∃ C, w.heap[g]? = some (.cells C 3 (0, 0)) ∧ g ≠ P := fun g hg => by
  obtain ⟨C, hC⟩ := hr.held g hg
  obtain ⟨vo, h⟩ := h
  exact ⟨C, hC, fun e => hr.other h.blk (by decide) (e ▸ hg)⟩

theorem refNumber_row (hd : Fits S w0 a cap d most) (h : RefS S w0 w P a cap d most p out bad) (hr : Row S 3 w0 w v xs) (n : Nat) (ni : Int) (hni : ni = (n : Int)) (hn : n ≤ 16) :
    Calls Try.prog 43 #[.pointer (some ⟨P, 0, none⟩), .int .i64 ni] w fun e w' =>
      e = .returned (.int .i64 ((numN d p bad n).1 : Nat)) ∧ RefS S w0 w' P a cap d most (numN d p bad n).2.1 out (numN d p bad n).2.2 ∧ Row S 3 w0 w' v xs ∧
        MixT.Grow (fun k => v.ownBlock = some k) w w' := by
  obtain ⟨T, hST, hI, hTall, -, hback⟩ := h.holdNew (Below.refl _ _)
  have hT : ∀ g, v.ownBlock = some g → T g := fun g hg => by
    obtain ⟨C, hC, hne⟩ := h.ownT hr g hg
    exact hTall g C _ _ hC hne (by decide)
  refine Calls.mono (refNumber_any (hd.hold h.frame hST) hI n ni hni hn) ?_
  rintro e w2 ⟨rfl, h2⟩
  have hF := h2.frame
  exact ⟨rfl, hback _ _ _ _ h2, hr.moved hF hT hST, ⟨hF.os, hF.tape, hF.output, hF.size, fun k hk _ => (hF.keep k (hT k hk)).2⟩⟩

theorem refStop_row (h : RefS S w0 w P a cap d most p out bad) (hr : Row S 3 w0 w v xs) (e : Nat) (ei : Int) (hei : ei = (e : Int)) (he : e ≤ 100) :
    Calls Try.prog 44 #[.pointer (some ⟨P, 0, none⟩), .int .i64 ei] w fun en w' => en = .returned (.tuple #[]) ∧ RefS S w0 w' P a cap d most p out (stopN bad e) ∧ Row S 3 w0 w' v xs := by
  obtain ⟨T, hST, hI, hTall, -, hback⟩ := h.holdNew (Below.refl _ _)
  have hT : ∀ g, v.ownBlock = some g → T g := fun g hg => by
    obtain ⟨C, hC, hne⟩ := h.ownT hr g hg
    exact hTall g C _ _ hC hne (by decide)
  refine Calls.mono (stop_any hI e ei hei he) ?_
  rintro e w2 ⟨rfl, h2⟩
  exact ⟨rfl, hback _ _ _ _ h2, hr.moved h2.frame hT hST⟩

theorem refSign_row (hd : Fits S w0 a cap d most) (h : RefS S w0 w P a cap d most p out 0) (hr : Row S 3 w0 w v xs) {ca : Option Addr} {cc : Nat} {cs : List (List UInt8)} (hc : Txts S w ca cc cs) (hcl : cs.length ≤ 1000) (h15 : ∀ i, (cs.getD i []).length ≤ 15) :
    Calls Try.prog 64 #[.pointer (some ⟨P, 0, none⟩), .slice ca cs.length cc] w fun e w' => SignOut S w0 w' P a cap d most out e (signC d cs 15 [] p) ∧ Row S 3 w0 w' v xs := by
  obtain ⟨T, hST, hI, hTall, -, hback⟩ := h.holdNew (Below.refl _ _)
  have hT : ∀ g, v.ownBlock = some g → T g := fun g hg => by
    obtain ⟨C, hC, hne⟩ := h.ownT hr g hg
    exact hTall g C _ _ hC hne (by decide)
  refine Calls.mono (refSign_any (hd.hold h.frame hST) hI (⟨hc.cells, hc.le, fun x hx => hST _ (hc.off x hx)⟩ : Txts T w ca cc cs) hcl h15) ?_
  intro e w2 hO
  cases hs : signC d cs 15 [] p with
  | ok x =>
    rw [hs] at hO
    obtain ⟨rfl, h2⟩ := hO
    exact ⟨⟨rfl, hback _ _ _ _ h2⟩, hr.moved h2.frame hT hST⟩
  | error k =>
    rw [hs] at hO
    obtain ⟨rfl, hk, hk1, q, h2⟩ := hO
    exact ⟨⟨rfl, hk, hk1, q, hback _ _ _ _ h2⟩, hr.moved h2.frame hT hST⟩

/-- What is left of the loop of lengths. -/
def toldLeft (P tot : Nat) (v : Value) (w : World) : Nat := if intOf ((w.cell? ⟨P, 4, none⟩).getD undef) = 0 then tot + 1 - lenV v else 0
theorem RefS.toldLeft (h : RefS S w0 w P a cap d most p out bad) (tot : Nat) (v : Value) : toldLeft P tot v w = if bad = 0 then tot + 1 - lenV v else 0 := by
  obtain ⟨v', h⟩ := h
  obtain ⟨-, -, -, -, c4⟩ := five_cells h.blk
  unfold Go.Proofs.Ytaapnjhkflpiiaa.toldLeft
  rw [c4]
  simp [intOf]
end
end Go.Proofs.Ytaapnjhkflpiiaa
