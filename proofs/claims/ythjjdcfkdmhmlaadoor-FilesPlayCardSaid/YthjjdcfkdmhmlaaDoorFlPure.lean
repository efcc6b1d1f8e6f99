/-
  Plain: a store of files of one byte each; lists in order and their parts.
-/
import Derived.Test.YthjjdcfkdmhmlaaDoorStKnown
namespace Go.Proofs.YthjjdcfkdmhmlaaDoor

/-- Every file is one byte long. -/
structure OnesP (S : StP) (n : Nat) : Prop where
  quota : S.quota = 1048576
  up : S.down = false
  arm : S.armed = false
  len : S.files.length = n
  one : ∀ p ∈ S.files, p.2.now.length = 1
  sorted : Sorted S.files
  used : S.used = (n : Int)
theorem OnesP.new : OnesP (newS 1048576) 0 := ⟨rfl, rfl, rfl, rfl, (fun _p hp => nomatch hp), List.Pairwise.nil, rfl⟩
theorem OnesP.write {S : StP} {n : Nat} (h : OnesP S n) (hn : n ≤ 100) (p : Bytes) :
    ((writeS S p 0 [120]).2 = 0 ∧ OnesP (writeS S p 0 [120]).1 (if getF S.files p = none then n + 1 else n)) ∨ ((writeS S p 0 [120]).2 ≠ 0 ∧ (writeS S p 0 [120]).1 = S) := by
  have e0 : ((getF S.files p).getD file0).now.length = if getF S.files p = none then 0 else 1 := by
    cases hg : getF S.files p with
    | none => rfl
    | some f => rw [if_neg (by simp)]; exact h.one _ (getF_mem hg)
  have e1 : max 0 (0 + (([120] : Bytes).length : Int) - (((if getF S.files p = none then 0 else 1 : Nat) : Nat) : Int)) = if getF S.files p = none then 1 else 0 := by split <;> simp <;> rfl
  have hlen := h.len
  unfold writeS
  rw [if_neg (by rw [h.up]; simp), e0, e1]
  by_cases c1 : (!rightF p || decide ((0 : Int) < 0)) = true
  · rw [if_pos c1]; exact .inr ⟨by simp, rfl⟩
  rw [if_neg c1]
  by_cases c2 : (!freeF S.files p p) = true
  · rw [if_pos c2]; exact .inr ⟨by simp, rfl⟩
  rw [if_neg c2, if_neg (by split <;> simp), if_neg (by
    rw [h.quota, h.used, hlen]
    rw [decide_eq_false (by split <;> omega : ¬ ((if getF S.files p = none then (1 : Int) else 0) > 1048576 - (n : Int))), decide_eq_false (by omega : ¬ 10000 ≤ n)]
    simp)]
  left
  refine ⟨rfl, ?_⟩
  have hd : ∀ T : StP, T.armed = false → doneS T = T := fun T hT => by unfold doneS; rw [if_neg (by rw [hT]; simp)]
  show OnesP (doneS _) _
  rw [hd _ (by exact h.arm)]
  refine ⟨h.quota, h.up, h.arm, ?_, ?_, sorted_put h.sorted _ _, ?_⟩
  · show (putF S.files p _).length = _
    rw [length_put h.sorted, hlen]
  · intro q hq
    rcases mem_put hq with rfl | hq
    · have e2 : ∀ (f : FileP) (c : Chg), (doF f c).now = Chg.on c f.now := fun _ _ => rfl
      show (doF _ _).now.length = 1
      rw [e2]
      unfold Chg.on
      rw [if_neg (by decide)]
      simp only [List.length_append, List.length_take, List.length_drop, e0, List.length_cons, List.length_nil]
      split <;> simp
    · exact h.one q hq
  · show S.used + (if getF S.files p = none then (1 : Int) else 0) = _
    rw [h.used]
    split <;> omega

theorem keys_len (l : Files) : (keysF l).length = l.length := by unfold keysF; rw [List.length_map]
theorem keys_less {l : Files} (h : Sorted l) {i : Nat} (h0 : 0 < i) (hi : i < (keysF l).length) : (keysF l)[i - 1]! < (keysF l)[i]! := by
  have hp : (keysF l).Pairwise (· < ·) := by unfold keysF; exact List.pairwise_map.2 h
  rw [getElem!_pos (keysF l) i hi, getElem!_pos (keysF l) (i - 1) (by omega)]
  exact List.pairwise_iff_getElem.1 hp (i - 1) i (by omega) hi (by omega)
section
variable (f : Bytes → Bool) (l : List Bytes)
theorem filter_at {i : Nat} (hi : i < l.length) (hp : f l[i]! = true) : ((l.take i).filter f).length < (l.filter f).length ∧ (l.filter f)[((l.take i).filter f).length]! = l[i]! := by
  have e : l.filter f = (l.take i).filter f ++ l[i]! :: (l.drop (i + 1)).filter f := by
    conv => lhs; rw [← List.take_append_drop i l, List.filter_append, List.drop_eq_getElem_cons hi]
    rw [getElem!_pos l i hi] at hp ⊢
    rw [List.filter_cons_of_pos hp]
  rw [e]
  refine ⟨by simp, ?_⟩
  rw [getElem!_pos ((l.take i).filter f ++ l[i]! :: (l.drop (i + 1)).filter f) ((l.take i).filter f).length (by simp)]
  simp
theorem filter_next {i : Nat} (hi : i < l.length) : ((l.take (i + 1)).filter f).length = ((l.take i).filter f).length + if f l[i]! then 1 else 0 := by
  rw [List.take_succ_eq_append_getElem hi, List.filter_append, List.length_append, getElem!_pos l i hi]
  cases hf : f l[i] <;> simp [hf]
theorem filter_upto (i : Nat) : ((l.take i).filter f).length ≤ (l.filter f).length :=
  (List.Sublist.filter f (List.take_sublist i l)).length_le
end
end Go.Proofs.YthjjdcfkdmhmlaaDoor
