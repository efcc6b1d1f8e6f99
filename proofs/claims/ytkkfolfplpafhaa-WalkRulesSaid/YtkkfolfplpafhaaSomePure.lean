/-
  Plain Lean: the order of the first nodes of a graph that is right.
-/
import Derived.Test.YtkkfolfplpafhaaWalkPure2
namespace Go.Proofs.Ytkkfolfplpafhaa

def RightG (g : List (List Int)) : Prop := ∀ i, i < g.length → ∀ z ∈ g.getD i [], 0 ≤ z ∧ z < (i : Int)
theorem full_mem {n : Nat} {out : List Nat} (hn : out.Nodup) (hl : ∀ o ∈ out, o < n) (h : n ≤ out.length) {i : Nat} (hi : i < n) : i ∈ out := by
  apply Classical.byContradiction
  intro hno
  have := out_le (List.nodup_cons.2 ⟨hno, hn⟩) (n := n) (fun o ho => by
    rcases List.mem_cons.1 ho with h1 | h1
    · rw [h1]; exact hi
    · exact hl o h1)
  simp at this
  omega
theorem getD_takeG (g : List (List Int)) (k i : Nat) (hi : i < k) : (g.take k).getD i [] = g.getD i [] := by
  rw [List.getD_eq_getElem?_getD, List.getD_eq_getElem?_getD, List.getElem?_take, if_pos hi]
theorem mem_flt (out : List Nat) (k i : Nat) : i ∈ out.filter (fun x => decide (x < k)) ↔ i ∈ out ∧ i < k := by
  rw [List.mem_filter, decide_eq_true_eq]
theorem ready_take {g : List (List Int)} (hg : RightG g) {out : List Nat} {k i : Nat} (hk : k ≤ g.length) (hi : i < k) : readyB (g.take k) (out.filter fun x => decide (x < k)) i = readyB g out i := by
  have h1 : hasI (out.filter fun x => decide (x < k)) (i : Int) = hasI out (i : Int) := by
    rw [Bool.eq_iff_iff, hasI_nat, hasI_nat, mem_flt]
    exact ⟨fun h => h.1, fun h => ⟨h, hi⟩⟩
  have h2 : (g.getD i []).all (hasI (out.filter fun x => decide (x < k))) = (g.getD i []).all (hasI out) := by
    rw [Bool.eq_iff_iff, List.all_eq_true, List.all_eq_true]
    constructor
    · intro h z hz
      obtain ⟨o, ho, hoz⟩ := (hasI_iff _ z).1 (h z hz)
      exact (hasI_iff out z).2 ⟨o, ((mem_flt out k o).1 ho).1, hoz⟩
    · intro h z hz
      obtain ⟨o, ho, hoz⟩ := (hasI_iff out z).1 (h z hz)
      have := hg i (by omega) z hz
      exact (hasI_iff _ z).2 ⟨o, (mem_flt out k o).2 ⟨ho, by omega⟩, hoz⟩
  unfold readyB
  rw [h1, getD_takeG g k i hi, h2]
theorem order_some {g : List (List Int)} (hg : RightG g) {k : Nat} (hk : k ≤ g.length) {l : List Nat} (h : orderG g = some l) : orderG (g.take k) = some (l.filter fun x => decide (x < k)) := by
  have hgl : (g.take k).length = k := by rw [List.length_take]; omega
  have hF : ∀ (f : Nat) (out : List Nat) (f' : Nat), out.Nodup → (∀ o ∈ out, o < g.length) → orderF g f out = some l → k ≤ f' + (out.filter fun x => decide (x < k)).length →
      orderF (g.take k) f' (out.filter fun x => decide (x < k)) = some (l.filter fun x => decide (x < k)) := by
    have hdone : ∀ (f' : Nat) (out : List Nat), out.Nodup → (∀ o ∈ out, o < g.length) → g.length ≤ out.length → orderF (g.take k) f' (out.filter fun x => decide (x < k)) = some (out.filter fun x => decide (x < k)) := by
      intro f' out hn hl hle
      have hlen : k ≤ (out.filter fun x => decide (x < k)).length := by
        have := nodup_le (List.range k) (out.filter fun x => decide (x < k)) List.nodup_range (fun x hx => (mem_flt out k x).2 ⟨full_mem hn hl hle (by have := List.mem_range.1 hx; omega), List.mem_range.1 hx⟩)
        rwa [List.length_range] at this
      cases f' with
      | zero => rw [orderF, if_pos (by rw [hgl]; exact hlen)]
      | succ f' => rw [orderF, if_pos (by rw [hgl]; exact hlen)]
    intro f
    induction f with
    | zero =>
      intro out f' hn hl hf hf'
      rw [orderF] at hf
      split at hf
      · injection hf with hf
        subst hf
        exact hdone f' out hn hl (by assumption)
      · cases hf
    | succ f ih =>
      intro out f' hn hl hf hf'
      rw [orderF] at hf
      split at hf
      · injection hf with hf
        subst hf
        exact hdone f' out hn hl (by assumption)
      · cases hx : leastFrom g out 0 g.length with
        | none => rw [hx] at hf; cases hf
        | some x =>
          rw [hx] at hf
          obtain ⟨h1, h2, h3, h4⟩ := (least_some g.length 0 x).1 hx
          have hr := (ready_iff g out x).1 h3
          have hn2 : (out ++ [x]).Nodup := by
            rw [List.nodup_append]
            refine ⟨hn, by simp, ?_⟩
            intro a ha b hb' e
            rw [List.mem_singleton] at hb'
            exact hr.1 (by rw [← hb', ← e]; exact ha)
          have hl2 : ∀ o ∈ out ++ [x], o < g.length := fun o ho => by
            rcases List.mem_append.1 ho with h | h
            · exact hl o h
            · rw [List.mem_singleton.1 h]; omega
          by_cases hxk : x < k
          · have hfl : (out ++ [x]).filter (fun x => decide (x < k)) = out.filter (fun x => decide (x < k)) ++ [x] := by
              rw [List.filter_append]; simp [hxk]
            have hlt : (out.filter fun x => decide (x < k)).length < k := by
              have h5 : ((out ++ [x]).filter fun x => decide (x < k)).Nodup := List.Pairwise.filter _ hn2
              have := out_le h5 (n := k) (fun o ho => ((mem_flt _ k o).1 ho).2)
              rw [hfl, List.length_append, List.length_singleton] at this
              omega
            cases f' with
            | zero => omega
            | succ f' =>
              have hst : leastFrom (g.take k) (out.filter fun x => decide (x < k)) 0 (g.take k).length = some x := by
                rw [least_some, hgl]
                refine ⟨Nat.zero_le _, by omega, by rw [ready_take hg hk hxk]; exact h3, fun j hj1 hj2 => by rw [ready_take hg hk (by omega)]; exact h4 j hj1 hj2⟩
              rw [orderF, if_neg (by rw [hgl]; omega), hst]
              simp only
              rw [← hfl]
              exact ih (out ++ [x]) f' hn2 hl2 hf (by rw [hfl, List.length_append, List.length_singleton]; omega)
          · have hfl : (out ++ [x]).filter (fun x => decide (x < k)) = out.filter (fun x => decide (x < k)) := by
              rw [List.filter_append]; simp [hxk]
            rw [← hfl]
            exact ih (out ++ [x]) f' hn2 hl2 hf (by rw [hfl]; exact hf')
  have := hF g.length [] k List.nodup_nil (fun o ho => by simp at ho) h (by simp)
  unfold orderG
  rw [hgl]
  exact this

end Go.Proofs.Ytkkfolfplpafhaa
