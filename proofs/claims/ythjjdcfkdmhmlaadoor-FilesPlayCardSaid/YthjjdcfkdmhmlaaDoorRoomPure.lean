/-
  Plain: what stays true of a store's room under the law's acts.
-/
import Derived.Test.YthjjdcfkdmhmlaaDoorActDo
namespace Go.Proofs.YthjjdcfkdmhmlaaDoor

structure RoomP (q : Int) (cr : Bool) (S : StP) : Prop where
  quota : S.quota = q
  room : cr = false → S.used ≤ max q 0
  neg : q < 0 → ∀ p ∈ S.files, ∀ k, runs p.2.kept (p.2.since.take k) = []
section
variable {q : Int} {cr : Bool} {S : StP} {Z : Nat}
theorem now_empty {f : FileP} (hf : f.ok) (h : ∀ k, runs f.kept (f.since.take k) = []) : f.now = [] := by
  rw [← hf.now]
  have := h f.since.length
  rwa [List.take_length] at this
theorem do_empty {f : FileP} {c : Chg} (h : ∀ k, runs f.kept (f.since.take k) = []) (hc : c.on [] = []) : ∀ k, runs (doF f c).kept ((doF f c).since.take k) = [] := fun k => by
  show runs f.kept ((f.since ++ [c]).take k) = []
  by_cases hk : k ≤ f.since.length
  · rw [List.take_append_of_le_length hk]; exact h k
  · rw [List.take_of_length_le (by rw [List.length_append, List.length_singleton]; omega), runs_snoc]
    have := h f.since.length
    rw [List.take_length] at this
    rw [this, hc]
theorem RoomP.new (q : Int) : RoomP q false (newS q) := ⟨rfl, fun _ => by show (0 : Int) ≤ max q 0; omega, fun _ p hp => nomatch hp⟩
theorem RoomP.done (h : RoomP q cr S) : RoomP q cr (doneS S) := by
  unfold doneS
  split
  · exact ⟨h.quota, h.room, h.neg⟩
  · exact h
theorem RoomP.write (h : RoomP q cr S) (ok : OkS Z S) (path : Bytes) (at_ : Int) (b : Bytes) : RoomP q cr (writeS S path at_ b).1 := by
  unfold writeS
  split
  · exact h
  split
  · exact h
  rename_i hr
  split
  · exact h
  split
  · exact h
  split
  · exact h
  rename_i hfull
  rw [Bool.or_eq_true, Bool.not_eq_true', decide_eq_true_eq, not_or] at hr
  rw [Bool.or_eq_true, Bool.and_eq_true, decide_eq_true_eq, decide_eq_true_eq, not_or, not_and, h.quota] at hfull
  have h1 := hfull.1
  refine RoomP.done ⟨h.quota, fun hc => ?_, fun hq p hp k => ?_⟩
  · have := h.room hc
    show S.used + max 0 _ ≤ max q 0
    omega
  · rcases mem_put hp with rfl | hp
    · obtain ⟨g1, -⟩ := ok.get path
      have hne : ∀ k, runs ((getF S.files path).getD file0).kept (((getF S.files path).getD file0).since.take k) = [] := fun k => by
        cases hg : getF S.files path with
        | none => show runs [] (([] : List Chg).take k) = []; rw [List.take_nil]; rfl
        | some f => exact h.neg hq _ (getF_mem hg) k
      have hn0 := now_empty g1 hne
      rw [hn0] at h1
      have hu0 := ok.neg (by rw [h.quota]; exact hq)
      have hb : b = [] := by
        apply List.eq_nil_of_length_eq_zero
        simp only [List.length_nil] at h1
        omega
      subst hb
      exact do_empty hne (by simp [Chg.on]) k
    · exact h.neg hq p hp k
theorem RoomP.cut (h : RoomP q cr S) (path : Bytes) (n : Int) : RoomP q cr (cutS S path n).1 := by
  unfold cutS
  split
  · exact h
  split
  · exact h
  rename_i f hg
  split
  · exact h
  rename_i hn
  refine RoomP.done ⟨h.quota, fun hc => ?_, fun hq p hp k => ?_⟩
  · have := h.room hc
    show S.used - ((f.now.length : Int) - n) ≤ max q 0
    omega
  · rcases mem_put hp with rfl | hp
    · exact do_empty (h.neg hq _ (getF_mem hg)) (by simp [Chg.on]) k
    · exact h.neg hq p hp k
theorem RoomP.sync (h : RoomP q cr S) (ok : OkS Z S) (path : Bytes) : RoomP q cr (syncS S path).1 := by
  unfold syncS
  split
  · exact h
  split
  · exact h
  rename_i f hg
  refine RoomP.done ⟨h.quota, h.room, fun hq p hp k => ?_⟩
  rcases mem_put hp with rfl | hp
  · show runs f.now (([] : List Chg).take k) = []
    rw [List.take_nil, runs_nil]
    exact now_empty (ok.ok _ (getF_mem hg)).1 (h.neg hq _ (getF_mem hg))
  · exact h.neg hq p hp k
theorem RoomP.remove (h : RoomP q cr S) (path : Bytes) : RoomP q cr (removeS S path).1 := by
  unfold removeS
  split
  · exact h
  split
  · exact h
  rename_i f hg
  refine RoomP.done ⟨h.quota, fun hc => ?_, fun hq p hp k => h.neg hq p (List.mem_filter.1 hp).1 k⟩
  have := h.room hc
  show S.used - (f.now.length : Int) ≤ max q 0
  omega
theorem RoomP.rename (h : RoomP q cr S) (src dst : Bytes) : RoomP q cr (renameS S src dst).1 := by
  unfold renameS
  split
  · exact h
  split
  · exact h
  rename_i f hg
  split
  · exact h
  split
  · exact h
  refine RoomP.done ⟨h.quota, fun hc => ?_, fun hq p hp k => ?_⟩
  · have := h.room hc
    show S.used - (if dst = src then 0 else _) ≤ max q 0
    split <;> omega
  · rcases mem_put hp with rfl | hp
    · exact h.neg hq _ (getF_mem hg) k
    · exact h.neg hq p (List.mem_filter.1 hp).1 k
theorem RoomP.crash (h : RoomP q cr S) (keep : List Int) : RoomP q true (crashS S keep) :=
  ⟨h.quota, (fun hc => nomatch hc), fun hq p hp k => by
    obtain ⟨r, hr, j, rfl⟩ := crashL_mem hp
    show runs (runs r.2.kept (r.2.since.take j)) (([] : List Chg).take k) = []
    rw [List.take_nil, runs_nil]
    exact h.neg hq r hr j⟩
theorem RoomP.arm (h : RoomP q cr S) (n : Int) : RoomP q cr (armS S n) := by
  unfold armS
  split
  · exact h
  · exact ⟨h.quota, h.room, h.neg⟩
theorem RoomP.more (h : RoomP q cr S) (b : Bool) : RoomP q (cr || b) S := ⟨h.quota, fun hc => h.room (by cases cr <;> simp_all), h.neg⟩
theorem RoomP.act (h : RoomP q cr S) (ok : OkS Z S) (x : ActP) : RoomP q (cr || decide (x.kind = 6)) (actS S x).1 := by
  unfold actS
  split
  · exact (h.write ok _ _ _).more _
  split
  · exact (h.cut _ _).more _
  split
  · exact (h.sync ok _).more _
  split
  · exact (h.rename _ _).more _
  split
  · exact (h.remove _).more _
  split
  · exact (h.arm _).more _
  split
  · rename_i hk
    rw [decide_eq_true hk, Bool.or_true]
    exact h.crash _
  · exact h.more _
theorem act_ok (h : RoomP q cr S) (ok : OkS Z S) (x : ActP) (hb : x.b.length ≤ 300) (hn : x.num ≤ 9223372036854775807) : OkS (Z + 301) (actS S x).1 := by
  unfold actS
  split
  · exact (ok.write _ _ _).mono (by omega)
  split
  · exact (ok.cut _ _).mono (by omega)
  split
  · exact (ok.sync _).mono (by omega)
  split
  · exact (ok.rename _ _).mono (by omega)
  split
  · exact (ok.remove _).mono (by omega)
  split
  · exact (ok.arm _ hn).mono (by omega)
  split
  · exact (ok.crash _ (fun hq => h.neg (by rw [← h.quota]; exact hq))).mono (by omega)
  · exact ok.mono (by omega)
end
/-! ### The sum of the files, in order -/
theorem sumF_take {l : Files} {k : Nat} (hk : k < l.length) : sumF (l.take (k + 1)) = sumF (l.take k) + l[k].2.now.length := by
  induction l generalizing k with
  | nil => simp at hk
  | cons p r ih =>
    cases k with
    | zero => simp [sumF]
    | succ k =>
      rw [List.take_succ_cons, List.take_succ_cons]
      simp only [sumF, List.getElem_cons_succ]
      rw [ih (by simpa using hk)]
      omega
theorem sumF_upto (l : Files) (k : Nat) : sumF (l.take k) ≤ sumF l := by
  induction l generalizing k with
  | nil => simp
  | cons p r ih =>
    cases k with
    | zero => simp [sumF]
    | succ k =>
      rw [List.take_succ_cons]
      simp only [sumF]
      have := ih k
      omega
theorem key_file {l : Files} (hs : Sorted l) {k : Nat} (hk : k < l.length) : (keysF l)[k]! = l[k].1 ∧ getF l (keysF l)[k]! = some l[k].2 := by
  have e : (keysF l)[k]! = l[k].1 := by
    unfold keysF
    rw [getElem!_pos (l.map Prod.fst) k (by rw [List.length_map]; exact hk), List.getElem_map]
  exact ⟨e, by rw [e]; exact getF_of_mem hs (List.getElem_mem hk)⟩
end Go.Proofs.YthjjdcfkdmhmlaaDoor
