/-
  What holds of a store goes on to hold: plain.
-/
import Derived.Test.YtnlkanhakmkejaaDoorStPure
namespace Go.Proofs.YtnlkanhakmkejaaDoor

theorem OkS.mono {Z Z' : Nat} {S : StP} (h : OkS Z S) (hZ : Z ≤ Z') : OkS Z' S :=
  ⟨h.sorted, h.used, h.quota, h.neg, h.few, h.left, fun p hp => by have := h.ok p hp; exact ⟨this.1, this.2.1, by omega, by omega, by omega⟩, fun p hp k => Nat.le_trans (h.big p hp k) hZ⟩
theorem OkS.new (q : Int) (hq : -9223372036854775808 ≤ q ∧ q ≤ 9223372036854775807) : OkS 0 (newS q) :=
  ⟨List.Pairwise.nil, rfl, hq, fun _ => rfl, Nat.zero_le _, ⟨by show (0 : Int) ≤ 0; omega, by show (0 : Int) ≤ _; omega, fun h => nomatch h⟩, fun p hp => by simp [newS] at hp, fun p hp => by simp [newS] at hp⟩
theorem OkS.done {Z : Nat} {S : StP} (h : OkS Z S) (hd : S.down = false) : OkS Z (doneS S) := by
  unfold doneS
  split
  · rename_i ha
    have hl := h.left
    have h1 := hl.2.2 ha hd
    exact ⟨h.sorted, h.used, h.quota, h.neg, h.few, ⟨by show 0 ≤ S.left - 1; omega, by show S.left - 1 ≤ _; omega, fun _ h2 => by have := of_decide_eq_false h2; show 1 ≤ S.left - 1; omega⟩, h.ok, h.big⟩
  · exact h
theorem mem_put {l : Files} {x : Bytes} {f : FileP} {q : Bytes × FileP} (h : q ∈ putF l x f) : q = (x, f) ∨ q ∈ l := by
  unfold putF at h
  rcases mem_ins.1 h with h | h
  · exact .inl h
  · exact .inr (List.mem_filter.1 h).1
theorem OkS.put {Z : Nat} {S : StP} (h : OkS Z S) {x : Bytes} {f : FileP} {u : Int} (hx : x.length ≤ 255) (hf : f.ok) (h1 : f.now.length ≤ Z) (h2 : f.kept.length ≤ Z) (h3 : f.since.length ≤ Z) (hb : ∀ k, (runs f.kept (f.since.take k)).length ≤ Z)
    (hfew : (putF S.files x f).length ≤ 10000) (hu : u = (sumF (putF S.files x f) : Nat)) (hn : S.quota < 0 → u = 0) : OkS Z { S with used := u, files := putF S.files x f } :=
  ⟨sorted_put h.sorted x f, hu, h.quota, hn, hfew, h.left, fun p hp => by
    rcases mem_put hp with rfl | hp
    · exact ⟨hf, hx, h1, h2, h3⟩
    · exact h.ok p hp, fun p hp k => by
    rcases mem_put hp with rfl | hp
    · exact hb k
    · exact h.big p hp k⟩
theorem OkS.get {Z : Nat} {S : StP} (h : OkS Z S) (x : Bytes) : ((getF S.files x).getD file0).ok ∧ ((getF S.files x).getD file0).now.length ≤ Z ∧ ((getF S.files x).getD file0).kept.length ≤ Z ∧ ((getF S.files x).getD file0).since.length ≤ Z ∧ ∀ k, (runs ((getF S.files x).getD file0).kept (((getF S.files x).getD file0).since.take k)).length ≤ Z := by
  cases hx : getF S.files x with
  | none => exact ⟨file0_ok, Nat.zero_le _, Nat.zero_le _, Nat.zero_le _, fun k => by simp [file0, runs]⟩
  | some f =>
    have hm := getF_mem hx
    have := h.ok _ hm
    exact ⟨this.1, this.2.2.1, this.2.2.2.1, this.2.2.2.2, h.big _ hm⟩
theorem on_len (c : Chg) (x : Bytes) (h : c.fits x) : (c.on x).length ≤ x.length + c.b.length := by
  unfold Chg.on
  split
  · simp only [List.length_take]; omega
  · rename_i hc
    have := h.2 (by omega)
    simp only [List.length_append, List.length_take, List.length_drop]; omega
theorem big_do {f : FileP} (hf : f.ok) {c : Chg} {Z : Nat} (h : ∀ k, (runs f.kept (f.since.take k)).length ≤ Z) (hc : (c.on f.now).length ≤ Z) : ∀ k, (runs (doF f c).kept ((doF f c).since.take k)).length ≤ Z := fun k => by
  show (runs f.kept ((f.since ++ [c]).take k)).length ≤ Z
  by_cases hk : k ≤ f.since.length
  · rw [List.take_append_of_le_length hk]; exact h k
  · rw [List.take_of_length_le (by rw [List.length_append, List.length_singleton]; omega), runs_snoc, hf.now]; exact hc
theorem right_len {p : Bytes} (h : rightF p = true) : p.length ≤ 255 := by
  unfold rightF at h
  rw [Bool.and_eq_true, Bool.and_eq_true, decide_eq_true_eq] at h
  exact h.1.1

theorem write_len (x : Bytes) (at_ : Nat) (b : Bytes) (h : at_ ≤ x.length) : ((Chg.on ⟨at_, -1, b⟩ x).length : Int) = (x.length : Int) + max 0 ((at_ : Int) + (b.length : Int) - (x.length : Int)) := by
  unfold Chg.on
  rw [if_neg (by show ¬ (0 : Int) ≤ -1; decide)]
  simp only [List.length_append, List.length_take, List.length_drop]
  omega
theorem OkS.write {Z : Nat} {S : StP} (h : OkS Z S) (path : Bytes) (at_ : Int) (b : Bytes) : OkS (Z + b.length + 1) (writeS S path at_ b).1 := by
  unfold writeS
  split
  · exact h.mono (by omega)
  rename_i hd
  split
  · exact h.mono (by omega)
  rename_i hr
  split
  · exact h.mono (by omega)
  split
  · exact h.mono (by omega)
  rename_i hat
  split
  · exact h.mono (by omega)
  rename_i hfull
  rw [Bool.or_eq_true, Bool.not_eq_true', decide_eq_true_eq, not_or] at hr
  have hright : rightF path = true := by cases h1 : rightF path <;> simp_all
  have h0 : 0 ≤ at_ := by omega
  obtain ⟨g1, g2, g3, g4, g5⟩ := h.get path
  generalize hfe : (getF S.files path).getD file0 = f at *
  have hat' : at_.toNat ≤ f.now.length := by omega
  have hfit : Chg.fits ⟨at_.toNat, -1, b⟩ f.now := ⟨fun h => absurd (show (0 : Int) ≤ -1 from h) (by decide), fun _ => hat'⟩
  have hl := on_len ⟨at_.toNat, -1, b⟩ f.now hfit
  change _ ≤ f.now.length + b.length at hl
  have hwl := write_len f.now at_.toNat b hat'
  have hput := sumF_put h.sorted path (doF f ⟨at_.toNat, -1, b⟩)
  rw [hfe] at hput
  change sumF _ + f.now.length = sumF S.files + (Chg.on ⟨at_.toNat, -1, b⟩ f.now).length at hput
  have hm : (at_.toNat : Int) = at_ := by omega
  rw [hm] at hwl
  have hus := h.used
  refine ((h.mono (show Z ≤ Z + b.length + 1 by omega)).put (x := path) (f := doF f ⟨at_.toNat, -1, b⟩) (u := S.used + max 0 (at_ + (b.length : Int) - (f.now.length : Nat))) (right_len hright) (g1.do_ hfit (fun h => absurd (show (0 : Int) ≤ -1 from h) (by decide))) (by show (Chg.on ⟨at_.toNat, -1, b⟩ f.now).length ≤ _; omega) (by show f.kept.length ≤ _; omega) (by show (f.since ++ [_]).length ≤ _; rw [List.length_append, List.length_singleton]; omega) (fun k => ?_) ?_ ?_ ?_).done ?_
  · refine Nat.le_trans (big_do g1 (Z := Z + b.length) (fun k => Nat.le_trans (g5 k) (by omega)) (by omega) k) (by omega)
  · rw [length_put h.sorted]
    split
    · rename_i hn
      have hfew := h.few
      rw [hn] at hfull
      simp only [Option.isNone_none, Bool.true_and, Bool.or_eq_true, decide_eq_true_eq, not_or] at hfull
      omega
    · exact h.few
  · omega
  · intro hq
    have hu0 := h.neg hq
    rw [Bool.or_eq_true, Bool.and_eq_true, decide_eq_true_eq, decide_eq_true_eq, not_or, not_and] at hfull
    have := hfull.1
    omega
  · cases hd2 : S.down <;> simp_all
theorem OkS.cut {Z : Nat} {S : StP} (h : OkS Z S) (path : Bytes) (n : Int) : OkS (Z + 1) (cutS S path n).1 := by
  unfold cutS
  split
  · exact h.mono (by omega)
  rename_i hd
  cases hx : getF S.files path with
  | none => exact h.mono (by omega)
  | some f =>
    simp only []
    split
    · exact h.mono (by omega)
    rename_i hn
    have hm := getF_mem hx
    obtain ⟨g1, g2, g3, g4, g5⟩ := h.ok _ hm
    have g6 := h.big _ hm
    have hfit : Chg.fits ⟨0, n, []⟩ f.now := ⟨fun _ => by show n.toNat ≤ _; omega, fun h => absurd (show n < 0 from h) (by omega)⟩
    have hon : (Chg.on ⟨0, n, []⟩ f.now).length = n.toNat := by unfold Chg.on; rw [if_pos (by show 0 ≤ n; omega)]; rw [List.length_take]; show min n.toNat _ = _; omega
    have hput := sumF_put h.sorted path (doF f ⟨0, n, []⟩)
    rw [hx] at hput
    change sumF _ + f.now.length = sumF S.files + (Chg.on ⟨0, n, []⟩ f.now).length at hput
    have hus := h.used
    refine ((h.mono (show Z ≤ Z + 1 by omega)).put (x := path) (f := doF f ⟨0, n, []⟩) (u := S.used - ((f.now.length : Int) - n)) g2 (g1.do_ hfit (fun _ => rfl)) (by show (Chg.on ⟨0, n, []⟩ f.now).length ≤ _; have h3 : f.now.length ≤ Z := g3; omega) (by show f.kept.length ≤ _; have h4 : f.kept.length ≤ Z := g4; omega) (by show (f.since ++ [_]).length ≤ _; rw [List.length_append, List.length_singleton]; have h5 : f.since.length ≤ Z := g5; omega) (fun k => ?_) ?_ ?_ ?_).done ?_
    · refine Nat.le_trans (big_do g1 (Z := Z) g6 (by have h3 : f.now.length ≤ Z := g3; show (Chg.on ⟨0, n, []⟩ f.now).length ≤ Z; omega) k) (by omega)
    · rw [length_put h.sorted, hx]
      exact h.few
    · omega
    · intro hq
      have hu0 := h.neg hq
      have hle : f.now.length ≤ sumF S.files := sumF_mem hm
      omega
    · cases hd2 : S.down <;> simp_all
theorem OkS.sync {Z : Nat} {S : StP} (h : OkS Z S) (path : Bytes) : OkS Z (syncS S path).1 := by
  unfold syncS
  split
  · exact h
  rename_i hd
  cases hx : getF S.files path with
  | none => exact h
  | some f =>
    have hm := getF_mem hx
    have g := h.ok _ hm
    have g3 : f.now.length ≤ Z := g.2.2.1
    have hput := sumF_put h.sorted path (syncF f)
    rw [hx] at hput
    change sumF _ + f.now.length = sumF S.files + f.now.length at hput
    have hus := h.used
    refine (h.put (x := path) (f := syncF f) (u := S.used) g.2.1 (syncF_ok f) g3 g3 (Nat.zero_le _) (fun k => ?_) ?_ ?_ h.neg).done ?_
    · show (runs f.now (([] : List Chg).take k)).length ≤ Z
      simp only [List.take_nil, runs_nil]
      exact g3
    · rw [length_put h.sorted, hx]
      exact h.few
    · omega
    · cases hd2 : S.down <;> simp_all
theorem OkS.del {Z : Nat} {S : StP} (h : OkS Z S) {x : Bytes} {u : Int} (hu : u = (sumF (delF S.files x) : Nat)) (hn : S.quota < 0 → u = 0) : OkS Z { S with used := u, files := delF S.files x } :=
  ⟨sorted_del h.sorted x, hu, h.quota, hn, Nat.le_trans (length_del_le _ _) h.few, h.left, fun p hp => h.ok p (List.mem_filter.1 hp).1, fun p hp => h.big p (List.mem_filter.1 hp).1⟩
theorem OkS.remove {Z : Nat} {S : StP} (h : OkS Z S) (path : Bytes) : OkS Z (removeS S path).1 := by
  unfold removeS
  split
  · exact h
  rename_i hd
  cases hx : getF S.files path with
  | none => exact h
  | some f =>
    have hm := getF_mem hx
    have hsum := sumF_del h.sorted hx
    have hus := h.used
    refine (h.del (x := path) (u := S.used - (f.now.length : Int)) (by omega) (fun hq => ?_)).done ?_
    · have hu0 := h.neg hq
      have hle : f.now.length ≤ sumF S.files := sumF_mem hm
      omega
    · cases hd2 : S.down <;> simp_all
theorem OkS.rename {Z : Nat} {S : StP} (h : OkS Z S) (src dst : Bytes) : OkS Z (renameS S src dst).1 := by
  unfold renameS
  split
  · exact h
  rename_i hd
  cases hx : getF S.files src with
  | none => exact h
  | some f =>
    simp only []
    split
    · exact h
    rename_i hr
    split
    · exact h
    have hright : rightF dst = true := by cases h1 : rightF dst <;> simp_all
    have hm := getF_mem hx
    have g := h.ok _ hm
    have hsum := sumF_del h.sorted hx
    have hput := sumF_put (sorted_del h.sorted src) dst f
    rw [getF_del] at hput
    have hus := h.used
    have hlen := length_del h.sorted (x := src) (by rw [hx]; simp)
    have hd2 : OkS Z { S with used := ((sumF (delF S.files src) : Nat) : Int), files := delF S.files src } := h.del rfl (fun hq => by have := h.neg hq; omega)
    refine (hd2.put (x := dst) (f := f) (u := S.used - (if dst = src then 0 else ((((getF S.files dst).getD file0).now.length : Nat) : Int))) (right_len hright) g.1 g.2.2.1 g.2.2.2.1 g.2.2.2.2 (h.big _ hm) ?_ ?_ ?_).done ?_
    · show (putF (delF S.files src) dst f).length ≤ 10000
      rw [length_put (sorted_del h.sorted src)]
      have := h.few
      split <;> omega
    · show _ = ((sumF (putF (delF S.files src) dst f) : Nat) : Int)
      by_cases e : dst = src
      · rw [if_pos e] at hput ⊢
        simp [file0] at hput
        omega
      · rw [if_neg e] at hput ⊢
        omega
    · intro hq
      have hu0 := h.neg hq
      by_cases e : dst = src
      · rw [if_pos e]; omega
      · rw [if_neg e]
        cases hg : getF S.files dst with
        | none => simp [file0]; omega
        | some g2 =>
          have hle : g2.now.length ≤ sumF S.files := sumF_mem (getF_mem hg)
          show S.used - ((g2.now.length : Nat) : Int) = 0
          omega
    · show S.down = false
      cases hd2 : S.down <;> simp_all
theorem OkS.arm {Z : Nat} {S : StP} (h : OkS Z S) (n : Int) (hn : n ≤ 9223372036854775807) : OkS Z (armS S n) := by
  unfold armS
  split
  · exact h
  · exact ⟨h.sorted, h.used, h.quota, h.neg, h.few, ⟨by show 0 ≤ max n 0; omega, by show max n 0 ≤ _; omega, fun _ h2 => by have := of_decide_eq_false h2; show 1 ≤ max n 0; omega⟩, h.ok, h.big⟩
theorem crashL_mem {keep : List Int} : ∀ {l : Files} {i : Nat} {p : Bytes × FileP}, p ∈ crashL keep i l → ∃ q ∈ l, ∃ k, p = (q.1, crashF q.2 k)
  | q :: l, i, p, h => by
    unfold crashL at h
    rcases List.mem_cons.1 h with rfl | h
    · exact ⟨q, by simp, _, rfl⟩
    · obtain ⟨r, hr, k, e⟩ := crashL_mem h
      exact ⟨r, by simp [hr], k, e⟩
theorem crashL_keys (keep : List Int) : ∀ (l : Files) (i : Nat), keysF (crashL keep i l) = keysF l
  | [], _ => rfl
  | p :: r, i => by
    unfold crashL keysF
    rw [List.map_cons, List.map_cons]
    have := crashL_keys keep r (i + 1)
    unfold keysF at this
    rw [this]
theorem crashL_len (keep : List Int) (l : Files) (i : Nat) : (crashL keep i l).length = l.length := by
  have := congrArg List.length (crashL_keys keep l i)
  unfold keysF at this
  simpa using this
theorem OkS.crash {Z : Nat} {S : StP} (h : OkS Z S) (keep : List Int) (hn : S.quota < 0 → ∀ p ∈ S.files, ∀ k, (runs p.2.kept (p.2.since.take k)) = []) : OkS Z (crashS S keep) := by
  refine ⟨?_, rfl, h.quota, fun hq => ?_, by show (crashL keep 0 S.files).length ≤ _; rw [crashL_len]; exact h.few, ⟨h.left.1, h.left.2.1, fun h => nomatch h⟩, fun p hp => ?_, fun p hp k => ?_⟩
  · have h1 : (keysF S.files).Pairwise (· < ·) := List.pairwise_map.2 h.sorted
    rw [← crashL_keys keep S.files 0] at h1
    exact List.pairwise_map.1 h1
  · show ((sumF (crashL keep 0 S.files) : Nat) : Int) = 0
    have : ∀ l : Files, (∀ p ∈ l, p.2.now = []) → sumF l = 0 := fun l => by
      induction l with
      | nil => intro _; rfl
      | cons q r ih =>
        intro h2
        simp only [sumF]
        rw [ih fun p hp => h2 p (by simp [hp]), h2 q (by simp)]
        rfl
    rw [this _ fun p hp => ?_]
    · rfl
    · obtain ⟨q, hq2, k, rfl⟩ := crashL_mem hp
      exact hn hq q hq2 k
  · obtain ⟨q, hq, k, rfl⟩ := crashL_mem hp
    exact ⟨crashF_ok _ _, (h.ok q hq).2.1, h.big q hq k, h.big q hq k, Nat.zero_le _⟩
  · obtain ⟨q, hq, j, rfl⟩ := crashL_mem hp
    show (runs (runs q.2.kept (q.2.since.take j)) (([] : List Chg).take k)).length ≤ Z
    rw [List.take_nil, runs_nil]
    exact h.big q hq j
end Go.Proofs.YtnlkanhakmkejaaDoor
