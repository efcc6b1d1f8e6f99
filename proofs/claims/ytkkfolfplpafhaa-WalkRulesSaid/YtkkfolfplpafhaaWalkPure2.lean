/-
  Plain Lean: what is true while the kids are laid down.
-/
import Derived.Test.YtkkfolfplpafhaaWalkPure
namespace Go.Proofs.Ytkkfolfplpafhaa

theorem getD_setL {l : List (List Nat)} {i : Nat} {v : List Nat} {k : Nat} (hi : i < l.length) : (l.set i v).getD k [] = if k = i then v else l.getD k [] := by
  rw [List.getD_eq_getElem?_getD, List.getD_eq_getElem?_getD, List.getElem?_set]
  by_cases hk : k = i
  · subst hk; rw [if_pos rfl, if_pos rfl, if_pos hi]; rfl
  · rw [if_neg (fun e => hk e.symm), if_neg hk]

/-- m nodes are gone through, and t of node m's parents. -/
structure BInv (g : List (List Int)) (h L : List Nat) (K : List (List Nat)) (m t : Nat) : Prop where
  kl : K.length = g.length
  kc : ∀ p, p < g.length → ∀ k, (K.getD p []).count k = if k < m then (g.getD k []).count (p : Int) else if k = m then ((g.getD m []).take t).count (p : Int) else 0
  kb : ∀ p, p < g.length → (K.getD p []).length ≤ 1000 * m + t
  ll : L.length = g.length
  lc : ∀ k, k < m → L.getD k 0 = (g.getD k []).length
  ok : HeapOK h
  hc : ∀ i, h.count i = if i < m ∧ (g.getD i []).length = 0 then 1 else 0

theorem getD_rep {α : Type} (n : Nat) (x d : α) (k : Nat) (hd : x = d) : (List.replicate n x).getD k d = d := by
  rw [List.getD_eq_getElem?_getD, List.getElem?_replicate]
  split
  · exact hd
  · rfl
theorem BInv.start (g : List (List Int)) : BInv g [] (List.replicate g.length 0) (List.replicate g.length []) 0 0 := by
  refine ⟨by simp, fun p _ k => ?_, fun p _ => ?_, by simp, fun k hk => by omega, fun j _ hj => by simp at hj, fun i => by simp⟩
  · rw [getD_rep _ _ _ _ rfl, List.take_zero]
    simp
  · rw [getD_rep _ _ _ _ rfl]; simp
theorem BInv.kid {g : List (List Int)} {h L : List Nat} {K : List (List Nat)} {m t p : Nat} (v : BInv g h L K m t) (ht : t < (g.getD m []).length) (hp : p < g.length) (hz : (g.getD m []).getD t 0 = (p : Int)) :
    BInv g h L (K.set p (K.getD p [] ++ [m])) m (t + 1) := by
  have hpl : p < K.length := by rw [v.kl]; exact hp
  have htk : (g.getD m []).take (t + 1) = (g.getD m []).take t ++ [(p : Int)] := by
    have e : (g.getD m []).getD t 0 = (g.getD m [])[t] := by rw [List.getD_eq_getElem?_getD (i := t), List.getElem?_eq_getElem ht]; rfl
    rw [List.take_succ_eq_append_getElem ht, ← e, hz]
  refine ⟨by rw [List.length_set]; exact v.kl, fun q hq k => ?_, fun q hq => ?_, v.ll, v.lc, v.ok, v.hc⟩
  · rw [getD_setL hpl, htk, List.count_append, List.count_singleton]
    have h1 := v.kc q hq k
    by_cases hqp : q = p
    · subst hqp
      rw [if_pos rfl, List.count_append, List.count_singleton, h1]
      by_cases hkm : k < m
      · rw [if_pos hkm, if_pos hkm]
        have : (m == k) = false := by rw [beq_eq_false_iff_ne]; omega
        rw [this]; simp
      · rw [if_neg hkm, if_neg hkm]
        by_cases hke : k = m
        · subst hke; rw [if_pos rfl, if_pos rfl]; simp
        · rw [if_neg hke, if_neg hke]
          have : (m == k) = false := by rw [beq_eq_false_iff_ne]; omega
          rw [this]; simp
    · rw [if_neg hqp, h1]
      have : ((p : Int) == (q : Int)) = false := by rw [beq_eq_false_iff_ne]; omega
      rw [this]; simp
  · rw [getD_setL hpl]
    have := v.kb q hq
    by_cases hqp : q = p
    · subst hqp; rw [if_pos rfl, List.length_append, List.length_singleton]; omega
    · rw [if_neg hqp]; omega
theorem BInv.setL {g : List (List Int)} {h L : List Nat} {K : List (List Nat)} {m : Nat} (v : BInv g h L K m 0) (x : Nat) (hm : m < g.length) : BInv g h (L.set m x) K m 0 ∧ (L.set m x).getD m 0 = x := by
  have hl : m < L.length := by rw [v.ll]; exact hm
  refine ⟨⟨v.kl, v.kc, v.kb, by rw [List.length_set]; exact v.ll, fun k hk => ?_, v.ok, v.hc⟩, by rw [getD_set hl, if_pos rfl]⟩
  rw [getD_set hl, if_neg (by omega)]
  exact v.lc k hk
theorem BInv.done {g : List (List Int)} {h h' L : List Nat} {K : List (List Nat)} {m : Nat} (v : BInv g h L K m (g.getD m []).length) (hgb : (g.getD m []).length ≤ 1000) (hL : L.getD m 0 = (g.getD m []).length)
    (hh : if (g.getD m []).length = 0 then HeapOK h' ∧ ∀ b, h'.count b = h.count b + (if m = b then 1 else 0) else h' = h) : BInv g h' L K (m + 1) 0 := by
  refine ⟨v.kl, fun p hp k => ?_, fun p hp => ?_, v.ll, fun k hk => ?_, ?_, fun i => ?_⟩
  · rw [v.kc p hp k, List.take_length, List.take_zero]
    by_cases hkm : k < m
    · rw [if_pos hkm, if_pos (by omega)]
    · rw [if_neg hkm]
      by_cases hke : k = m
      · subst hke; rw [if_pos rfl, if_pos (by omega)]
      · rw [if_neg hke, if_neg (by omega)]; simp
  · have := v.kb p hp; omega
  · by_cases hkm : k = m
    · subst hkm; exact hL
    · exact v.lc k (by omega)
  · by_cases hz : (g.getD m []).length = 0
    · rw [if_pos hz] at hh; exact hh.1
    · rw [if_neg hz] at hh; rw [hh]; exact v.ok
  · have hci := v.hc i
    by_cases hz : (g.getD m []).length = 0
    · rw [if_pos hz] at hh
      rw [hh.2 i, hci]
      by_cases him : i = m
      · subst him
        rw [if_neg (fun h => by omega), if_pos rfl, if_pos ⟨by omega, hz⟩]
      · rw [if_neg (show ¬ m = i from fun e => him e.symm), Nat.add_zero]
        exact ite_iff ⟨fun h => ⟨by omega, h.2⟩, fun h => ⟨by omega, h.2⟩⟩
    · rw [if_neg hz] at hh
      rw [hh, hci]
      refine ite_iff ⟨fun h => ⟨by omega, h.2⟩, fun h => ⟨?_, h.2⟩⟩
      have : i ≠ m := fun e => hz (e ▸ h.2)
      omega
theorem BInv.all {g : List (List Int)} {h L : List Nat} {K : List (List Nat)} (v : BInv g h L K g.length 0) : PInv g [] h L K := by
  refine ⟨v.kl, fun p hp k => ?_, v.ll, fun k hk => ?_, v.ok, fun i => ?_, fun o ho => by simp at ho, fun o ho => by simp at ho, List.nodup_nil⟩
  · rw [v.kc p hp k]
    by_cases hk : k < g.length
    · rw [if_pos hk]
    · have e : g.getD k [] = [] := by rw [List.getD_eq_getElem?_getD, List.getElem?_eq_none (by omega)]; rfl
      rw [if_neg hk, e, List.take_zero]; simp
  · rw [v.lc k hk, leftC_nil]
  · rw [v.hc i]
    refine ite_iff ⟨fun h => ⟨h.1, (ready_iff g [] i).2 ⟨by simp, by rw [leftC_nil]; exact h.2⟩⟩, fun h => ⟨h.1, ?_⟩⟩
    have := ((ready_iff g [] i).1 h.2).2
    rw [leftC_nil] at this
    exact this

/-- A parent that is none of the nodes: the graph isn't right. -/
theorem order_bad {g : List (List Int)} {m : Nat} (hm : m < g.length) {z : Int} (hz : z ∈ g.getD m []) (hb : z < 0 ∨ (g.length : Int) ≤ z) : orderG g = none := by
  have hF : ∀ (f : Nat) (out : List Nat), out.Nodup → (∀ o ∈ out, o < g.length) → m ∉ out → orderF g f out = none := by
    have hlt : ∀ out : List Nat, out.Nodup → (∀ o ∈ out, o < g.length) → m ∉ out → ¬ g.length ≤ out.length := by
      intro out hn hl hmo hle
      have h1 : (m :: out).Nodup := List.nodup_cons.2 ⟨hmo, hn⟩
      have := out_le h1 (fun o ho => by
        rcases List.mem_cons.1 ho with h | h
        · rw [h]; exact hm
        · exact hl o h)
      simp at this
      omega
    intro f
    induction f with
    | zero => intro out hn hl hmo; rw [orderF, if_neg (hlt out hn hl hmo)]
    | succ f ih =>
      intro out hn hl hmo
      rw [orderF, if_neg (hlt out hn hl hmo)]
      cases hx : leastFrom g out 0 g.length with
      | none => rfl
      | some x =>
        dsimp only
        obtain ⟨h1, h2, h3, -⟩ := (least_some g.length 0 x).1 hx
        have hr := (ready_iff g out x).1 h3
        have hxm : x ≠ m := by
          intro e
          have h0 := (leftC_zero _ _).1 hr.2
          rw [List.all_eq_true] at h0
          have := h0 z (by rw [e]; exact hz)
          obtain ⟨o, ho, hoz⟩ := (hasI_iff out z).1 this
          have := hl o ho
          omega
        refine ih (out ++ [x]) ?_ ?_ ?_
        · rw [List.nodup_append]
          refine ⟨hn, by simp, ?_⟩
          intro a ha b hb' e
          rw [List.mem_singleton] at hb'
          exact hr.1 (by rw [← hb', ← e]; exact ha)
        · intro o ho
          rcases List.mem_append.1 ho with h | h
          · exact hl o h
          · rw [List.mem_singleton.1 h]; omega
        · intro hmm
          rcases List.mem_append.1 hmm with h | h
          · exact hmo h
          · exact hxm (List.mem_singleton.1 h).symm
  exact hF g.length [] List.nodup_nil (fun o ho => by simp at ho) (by simp)
/-- A graph whose parents are ahead is right. -/
theorem order_right {g : List (List Int)} (hg : ∀ i, i < g.length → ∀ z ∈ g.getD i [], 0 ≤ z ∧ z < (i : Int)) : ∃ l, orderG g = some l ∧ l.length = g.length ∧ l.Nodup ∧ ∀ o ∈ l, o < g.length := by
  have hF : ∀ (f : Nat) (out : List Nat), out.Nodup → (∀ o ∈ out, o < g.length) → g.length ≤ f + out.length → ∃ l, orderF g f out = some l ∧ l.length = g.length ∧ l.Nodup ∧ ∀ o ∈ l, o < g.length := by
    intro f
    induction f with
    | zero =>
      intro out hn hl hf
      have := out_le hn hl
      exact ⟨out, by rw [orderF, if_pos (by omega)], by omega, hn, hl⟩
    | succ f ih =>
      intro out hn hl hf
      have hle := out_le hn hl
      rw [orderF]
      by_cases hall : g.length ≤ out.length
      · rw [if_pos hall]; exact ⟨out, rfl, by omega, hn, hl⟩
      · rw [if_neg hall]
        have hex : ∃ x, x < g.length ∧ readyB g out x = true := by
          have hstep : ∀ n i, i ≤ n → i < g.length → i ∉ out → ∃ x, x < g.length ∧ readyB g out x = true := by
            intro n
            induction n with
            | zero =>
              intro i hi hil hio
              have hi0 : i = 0 := by omega
              subst hi0
              refine ⟨0, hil, (ready_iff g out 0).2 ⟨hio, (leftC_zero _ _).2 (List.all_eq_true.2 fun z hz => ?_)⟩⟩
              have := hg 0 hil z hz
              omega
            | succ n ihn =>
              intro i hi hil hio
              by_cases hpar : ∃ j, j < i ∧ j ∉ out
              · obtain ⟨j, hj, hjo⟩ := hpar
                exact ihn j (by omega) (by omega) hjo
              · refine ⟨i, hil, (ready_iff g out i).2 ⟨hio, (leftC_zero _ _).2 (List.all_eq_true.2 fun z hz => ?_)⟩⟩
                have := hg i hil z hz
                rw [hasI_iff]
                refine ⟨z.toNat, ?_, by omega⟩
                exact Classical.byContradiction fun hn => hpar ⟨z.toNat, by omega, hn⟩
          obtain ⟨i, hi, hio⟩ := out_miss (n := g.length) (out := out) (by omega)
          exact hstep i i (Nat.le_refl _) hi hio
        cases hx : leastFrom g out 0 g.length with
        | none =>
          obtain ⟨x, hx1, hx2⟩ := hex
          have := (least_none g.length 0).1 hx x (Nat.zero_le _) (by omega)
          rw [hx2] at this; cases this
        | some x =>
          obtain ⟨h1, h2, h3, -⟩ := (least_some g.length 0 x).1 hx
          have hr := (ready_iff g out x).1 h3
          refine ih (out ++ [x]) ?_ ?_ ?_
          · rw [List.nodup_append]
            refine ⟨hn, by simp, ?_⟩
            intro a ha b hb' e
            rw [List.mem_singleton] at hb'
            exact hr.1 (by rw [← hb', ← e]; exact ha)
          · intro o ho
            rcases List.mem_append.1 ho with h | h
            · exact hl o h
            · rw [List.mem_singleton.1 h]; omega
          · rw [List.length_append, List.length_singleton]; omega
  exact hF g.length [] List.nodup_nil (fun o ho => by simp at ho) (by simp)

/-- What an order is. -/
theorem order_props {g : List (List Int)} {l : List Nat} (h : orderG g = some l) : l.length = g.length ∧ l.Nodup ∧ (∀ o ∈ l, o < g.length) := by
  have hF : ∀ (f : Nat) (out : List Nat), out.Nodup → (∀ o ∈ out, o < g.length) → orderF g f out = some l → l.length = g.length ∧ l.Nodup ∧ (∀ o ∈ l, o < g.length) := by
    intro f
    induction f with
    | zero =>
      intro out hn hl hf
      rw [orderF] at hf
      split at hf
      · injection hf with hf
        subst hf
        have := out_le hn hl
        exact ⟨by omega, hn, hl⟩
      · cases hf
    | succ f ih =>
      intro out hn hl hf
      rw [orderF] at hf
      split at hf
      · injection hf with hf
        subst hf
        have := out_le hn hl
        exact ⟨by omega, hn, hl⟩
      · cases hx : leastFrom g out 0 g.length with
        | none => rw [hx] at hf; cases hf
        | some x =>
          rw [hx] at hf
          obtain ⟨h1, h2, h3, -⟩ := (least_some g.length 0 x).1 hx
          have hr := (ready_iff g out x).1 h3
          refine ih (out ++ [x]) ?_ ?_ hf
          · rw [List.nodup_append]
            refine ⟨hn, by simp, ?_⟩
            intro a ha b hb' e
            rw [List.mem_singleton] at hb'
            exact hr.1 (by rw [← hb', ← e]; exact ha)
          · intro o ho
            rcases List.mem_append.1 ho with h | h
            · exact hl o h
            · rw [List.mem_singleton.1 h]; omega
  exact hF g.length [] List.nodup_nil (fun o ho => by simp at ho) h

end Go.Proofs.Ytkkfolfplpafhaa
