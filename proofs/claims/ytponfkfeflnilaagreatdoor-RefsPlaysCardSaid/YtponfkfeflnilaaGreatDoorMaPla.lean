/-
  Refs that are changed, through losses of power and crashes: which errors calls answer, plain.
  Refs that are changed, through losses of power and crashes: what holds behind each call, plain.
-/
import Derived.Test.YtponfkfeflnilaaGreatDoorMaDsu
import Derived.Test.YtponfkfeflnilaaGreatDoorMaStA
import Derived.Test.YtponfkfeflnilaaGreatDoorMaHd
namespace Go.Proofs.YtponfkfeflnilaaGreatDoor
open Go.RowKit Go.Mix

/-- No power is about to go, none is gone. -/
def CalmS (S : StP) : Prop := S.armed = false ∧ S.down = false
def codeS (S : StP) : Int := if S.down then 8 else 0
theorem doneS_calm {S : StP} (h : S.armed = false) : doneS S = S := by unfold doneS; rw [if_neg (by simp [h])]
theorem doneS_quota (S : StP) : (doneS S).quota = S.quota := by unfold doneS; split <;> rfl
theorem calm_done {S : StP} (h : CalmS S) : CalmS (doneS S) := by rw [doneS_calm h.1]; exact h
theorem calm_write {S : StP} (h : CalmS S) (p : Bytes) (a : Int) (b : Bytes) : CalmS (writeS S p a b).1 := by
  unfold writeS
  repeat' split
  all_goals first | exact h | exact calm_done h
theorem calm_cut {S : StP} (h : CalmS S) (p : Bytes) (n : Int) : CalmS (cutS S p n).1 := by
  unfold cutS
  repeat' split
  all_goals first | exact h | exact calm_done h
theorem calm_sync {S : StP} (h : CalmS S) (p : Bytes) : CalmS (syncS S p).1 := by
  unfold syncS
  repeat' split
  all_goals first | exact h | exact calm_done h
theorem calm_rename {S : StP} (h : CalmS S) (p q : Bytes) : CalmS (renameS S p q).1 := by
  unfold renameS
  repeat' split
  all_goals first | exact h | exact calm_done h
theorem calm_remove {S : StP} (h : CalmS S) (p : Bytes) : CalmS (removeS S p).1 := by
  unfold removeS
  repeat' split
  all_goals first | exact h | exact calm_done h
theorem quota_cut (S : StP) (p : Bytes) (n : Int) : (cutS S p n).1.quota = S.quota := by
  unfold cutS
  repeat' split
  all_goals first | rfl | exact doneS_quota _
theorem quota_sync (S : StP) (p : Bytes) : (syncS S p).1.quota = S.quota := by
  unfold syncS
  repeat' split
  all_goals first | rfl | exact doneS_quota _
theorem quota_rename (S : StP) (p q : Bytes) : (renameS S p q).1.quota = S.quota := by
  unfold renameS
  repeat' split
  all_goals first | rfl | exact doneS_quota _
theorem quota_remove (S : StP) (p : Bytes) : (removeS S p).1.quota = S.quota := by
  unfold removeS
  repeat' split
  all_goals first | rfl | exact doneS_quota _
theorem calm_lay {S : StP} (h : CalmS S) (f name b : Bytes) : CalmS (layS S f name b).1 := by
  unfold layS
  refine and_step (P := CalmS) (calm_write h _ _ _) (fun S1 h1 => ?_) fun _ h => h
  refine and_step (P := CalmS) (calm_cut h1 _ _) (fun S2 h2 => ?_) fun _ h => h
  exact and_step (P := CalmS) (calm_sync h2 _) (fun S3 h3 => calm_rename h3 _ _) fun _ h => h
theorem quota_lay (S : StP) (f name b : Bytes) : (layS S f name b).1.quota = S.quota := by
  unfold layS
  refine and_step (P := fun T => T.quota = S.quota) (write_quota _ _ _ _) (fun S1 h1 => ?_) fun _ h => h
  refine and_step (P := fun T => T.quota = S.quota) ((quota_cut _ _ _).trans h1) (fun S2 h2 => ?_) fun _ h => h
  exact and_step (P := fun T => T.quota = S.quota) ((quota_sync _ _).trans h2) (fun S3 h3 => (quota_rename _ _ _).trans h3) fun _ h => h
theorem calm_rm {S : StP} (h : CalmS S) (p : Bytes) : CalmS (rmS S p).1 := by
  unfold rmS; split <;> exact calm_remove h p
theorem quota_rm (S : StP) (p : Bytes) : (rmS S p).1.quota = S.quota := by
  unfold rmS; split <;> exact quota_remove S p

/-! ### Errors -/
theorem write_code {S : StP} {p b : Bytes} (hr : rightF p = true) (hf : freeF S.files p p = true) (hq : (b.length : Int) ≤ S.quota - S.used) (hl : S.files.length < 10000) : (writeS S p 0 b).2 = codeS S := by
  unfold writeS codeS
  by_cases hd : S.down = true
  · rw [if_pos hd, if_pos hd]
  · rw [if_neg hd, if_neg hd, if_neg (by simp [hr]), if_neg (by simp [hf]), if_neg (by omega), if_neg]
    intro h
    rw [Bool.or_eq_true, Bool.and_eq_true, Bool.and_eq_true, decide_eq_true_eq, decide_eq_true_eq, decide_eq_true_eq] at h
    rcases h with ⟨h1, h2⟩ | ⟨_, h2⟩
    · omega
    · omega
theorem cut_code {S : StP} {p : Bytes} {n : Int} {f : FileP} (hg : getF S.files p = some f) (h0 : 0 ≤ n) (hn : n ≤ f.now.length) : (cutS S p n).2 = codeS S := by
  unfold cutS codeS
  by_cases hd : S.down = true
  · rw [if_pos hd, if_pos hd]
  · rw [if_neg hd, if_neg hd, hg]
    dsimp only
    rw [if_neg (by omega)]
theorem sync_code {S : StP} {p : Bytes} {f : FileP} (hg : getF S.files p = some f) : (syncS S p).2 = codeS S := by
  unfold syncS codeS
  by_cases hd : S.down = true
  · rw [if_pos hd, if_pos hd]
  · rw [if_neg hd, if_neg hd, hg]
theorem rename_code {S : StP} {p q : Bytes} {f : FileP} (hg : getF S.files p = some f) (hr : rightF q = true) (hf : freeF S.files q p = true) : (renameS S p q).2 = codeS S := by
  unfold renameS codeS
  by_cases hd : S.down = true
  · rw [if_pos hd, if_pos hd]
  · rw [if_neg hd, if_neg hd, hg]
    dsimp only
    rw [if_neg (by simp [hr]), if_neg (by simp [hf])]
theorem remove_code {S : StP} {p : Bytes} (hg : (getF S.files p).isSome = true) : (removeS S p).2 = codeS S := by
  obtain ⟨f, hf⟩ := Option.isSome_iff_exists.1 hg
  unfold removeS codeS
  by_cases hd : S.down = true
  · rw [if_pos hd, if_pos hd]
  · rw [if_neg hd, if_neg hd, hf]
theorem rm_code (S : StP) (p : Bytes) : (rmS S p).2 = codeS S := by
  unfold rmS removeS codeS
  by_cases hd : S.down = true
  · simp [hd]
  · simp only [hd]
    cases getF S.files p <;> simp
theorem code_calm {S : StP} (h : CalmS S) : codeS S = 0 := by unfold codeS; rw [h.2]; rfl
theorem code_cases (S : StP) : codeS S = 0 ∨ (codeS S = 8 ∧ ¬ CalmS S) := by
  unfold codeS
  by_cases hd : S.down = true
  · rw [if_pos hd]; exact .inr ⟨rfl, fun h => by rw [h.2] at hd; cases hd⟩
  · rw [if_neg hd]; exact .inl rfl
/-- What a call answers: all is well, or the power is gone. -/
def Fine (S : StP) (r : StP × Int) : Prop := r.2 = 0 ∨ (r.2 = 8 ∧ ¬ CalmS S)
theorem Fine.code {S : StP} {r : StP × Int} (h : r.2 = codeS S) : Fine S r := by unfold Fine; rw [h]; exact code_cases S
theorem Fine.from {S S1 : StP} {r : StP × Int} (h : Fine S1 r) (hc : CalmS S → CalmS S1) : Fine S r := h.imp id fun ⟨e, k⟩ => ⟨e, fun c => k (hc c)⟩
theorem Fine.and {S : StP} {r : StP × Int} {f : StP → StP × Int} (h : Fine S r) (hc : CalmS S → CalmS r.1) (hf : r.2 = 0 → Fine r.1 (f r.1)) : Fine S (andS r f) := by
  rcases h with h | ⟨h, k⟩
  · rw [andS_z h]; exact (hf h).from hc
  · rw [andS_nz (by rw [h]; decide)]; exact .inr ⟨h, k⟩

theorem free_of {l : Files} {path but : Bytes} (h : ∀ x, x ≠ but → (getF l x).isSome = true → underF path x = false ∧ underF x path = false) : freeF l path but = true := by
  unfold freeF
  rw [Bool.not_eq_true', List.any_eq_false]
  intro p hp
  by_cases hb : p.1 = but
  · simp [hb]
  · obtain ⟨h1, h2⟩ := h p.1 hb (mem_keysF.1 (List.mem_map_of_mem hp))
    simp [h1, h2]
theorem lay_fine {S : StP} {name b : Bytes} (hr : rightF name = true) (ht : ∀ x, x ≠ tmpT → (getF S.files x).isSome = true → underF tmpT x = false ∧ underF x tmpT = false) (hq : (b.length : Int) ≤ S.quota - S.used) (hl : S.files.length < 10000)
    (hf : ∀ x, x ≠ tmpT → (getF S.files x).isSome = true → underF name x = false ∧ underF x name = false) : Fine S (layS S [] name b) := by
  unfold layS
  simp only [List.nil_append]
  have c1 := write_cases S tmpT 0 b
  refine Fine.and (Fine.code (write_code (by decide) (free_of ht) hq hl)) (fun h => calm_write h _ _ _) fun e1 => ?_
  obtain ⟨r1, h1⟩ : ∃ r, r = writeS S tmpT 0 b := ⟨_, rfl⟩
  rw [← h1] at c1 e1 ⊢
  rcases c1 with ⟨-, g1⟩ | ⟨e, -⟩
  case inr => exact absurd e1 e
  have gt := g1 tmpT
  rw [if_pos rfl] at gt
  have c2 := cut_cases r1.1 tmpT (b.length : Int)
  refine Fine.and (Fine.code (cut_code gt (by omega) (by simp [doF, Chg.on]; omega))) (fun h => calm_cut h _ _) fun e2 => ?_
  obtain ⟨r2, h2⟩ : ∃ r, r = cutS r1.1 tmpT (b.length : Int) := ⟨_, rfl⟩
  rw [← h2] at c2 e2 ⊢
  rcases c2 with ⟨-, f2, -, -, -, g2⟩ | ⟨e, -⟩
  case inr => exact absurd e2 e
  have gt2 := g2 tmpT
  rw [if_pos rfl] at gt2
  have c3 := sync_cases r2.1 tmpT
  refine Fine.and (Fine.code (sync_code gt2)) (fun h => calm_sync h _) fun e3 => ?_
  obtain ⟨r3, h3⟩ : ∃ r, r = syncS r2.1 tmpT := ⟨_, rfl⟩
  rw [← h3] at c3 e3 ⊢
  rcases c3 with ⟨-, f3, -, g3⟩ | ⟨e, -⟩
  case inr => exact absurd e3 e
  have gt3 := g3 tmpT
  rw [if_pos rfl] at gt3
  refine Fine.code (rename_code gt3 hr (free_of fun x hx hs => hf x hx ?_))
  rw [g3, if_neg hx, g2, if_neg hx, g1, if_neg hx] at hs
  exact hs

/-! ### Paths -/
theorem under_refs {x y : Bytes} (hx : refsT.isPrefixOf x = true) (hy : refsT.isPrefixOf y = false) (h1 : (y ++ [47]).isPrefixOf refsT = false) (h2 : refsT.isPrefixOf (y ++ [47]) = false) : underF y x = false ∧ underF x y = false := by
  unfold underF
  rw [← Bool.not_eq_true, ← Bool.not_eq_true, List.isPrefixOf_iff_prefix, List.isPrefixOf_iff_prefix]
  rw [List.isPrefixOf_iff_prefix] at hx
  refine ⟨fun h => ?_, fun h => ?_⟩
  · rcases Nat.le_total (y ++ [47]).length refsT.length with hl | hl
    · have := List.isPrefixOf_iff_prefix.2 (List.prefix_of_prefix_length_le h hx hl)
      rw [h1] at this; cases this
    · have := List.isPrefixOf_iff_prefix.2 (List.prefix_of_prefix_length_le hx h hl)
      rw [h2] at this; cases this
  · have := List.isPrefixOf_iff_prefix.2 (hx.trans ((List.prefix_append x [47]).trans h))
    rw [hy] at this; cases this
theorem right_path {n : Bytes} (h : rightN n = true) : rightF n = true := by
  have hp := right_refs h
  obtain ⟨rest, hrest⟩ := List.isPrefixOf_iff_prefix.1 hp
  unfold rightN at h
  simp only [Bool.and_eq_true, decide_eq_true_eq, Bool.not_eq_true', List.any_eq_false] at h
  obtain ⟨⟨⟨⟨⟨⟨-, hl⟩, -⟩, -⟩, -⟩, hc⟩, hn⟩ := h
  have hd : n.drop 5 = rest := by rw [← hrest]; rfl
  rw [hd] at hc hn
  unfold rightF
  rw [Bool.and_eq_true, Bool.and_eq_true, decide_eq_true_eq, Bool.not_eq_true', Bool.not_eq_true']
  refine ⟨⟨by omega, ?_⟩, ?_⟩
  · rw [← Bool.not_eq_true, List.contains_iff_mem]
    intro hm
    rw [← hrest] at hm
    rcases List.mem_append.1 hm with hm | hm
    · exact absurd hm (by decide)
    · exact absurd (hc _ hm) (by decide)
  · rw [partsF_eq, ← hrest, show refsT ++ rest = [114, 101, 102, 115] ++ 47 :: rest from rfl, splitC_hit (by decide), List.any_eq_false]
    intro p hp2 hb
    rcases List.mem_cons.1 hp2 with rfl | hp2
    · exact absurd hb (by decide)
    · refine hn p hp2 ?_
      unfold badF at hb
      unfold badN
      simp only [Bool.or_eq_true, decide_eq_true_eq] at hb
      rcases hb with (rfl | rfl) | rfl <;> rfl
end Go.Proofs.YtponfkfeflnilaaGreatDoor
namespace Go.Proofs.YtponfkfeflnilaaGreatDoor
open Go.RowKit Go.Mix

structure BaseI (n : Nat) (S : StP) (dn : Bool) : Prop where
  ok : OkS (n * 10010) S
  clean : ∀ x f, x ≠ tmpT → getF S.files x = some f → f.since = [] ∧ f.kept = f.now ∧ f.now.length ≤ 10000
  paths : ∀ x, x ≠ tmpT → (getF S.files x).isSome = true → x = headT ∨ x = packedT ∨ rightN x = true
  cnt : (delF S.files tmpT).length ≤ n
  calm : dn = false → CalmS S
  quota : S.quota = 1048576
structure PlayI (n : Nat) (S : StP) (now : Refs) (head : Bytes) (dn : Bool) : Prop where
  base : BaseI n S dn
  all : allK S [] = some now
  hd : headK S.files [] = if head = [] then ([], id0, 6) else (head, id0, 0)
  hr : head = [] ∨ rightN head = true
  len : now.length ≤ n
theorem BaseI.mono {n m : Nat} {S : StP} {dn : Bool} (h : BaseI n S dn) (hm : n ≤ m) : BaseI m S dn :=
  ⟨h.ok.mono (Nat.mul_le_mul_right _ hm), h.clean, h.paths, Nat.le_trans h.cnt hm, h.calm, h.quota⟩
theorem PlayI.mono {n m : Nat} {S : StP} {now : Refs} {head : Bytes} {dn : Bool} (h : PlayI n S now head dn) (hm : n ≤ m) : PlayI m S now head dn :=
  ⟨h.base.mono hm, h.all, h.hd, h.hr, Nat.le_trans h.len hm⟩
theorem play_new : PlayI 0 (newS 1048576) [] [] false := by
  refine ⟨⟨OkS.new 1048576 ⟨by decide, by decide⟩, fun x f _ h => (by cases h), fun x _ h => (by cases h), Nat.le_refl _, fun _ => ⟨rfl, rfl⟩, rfl⟩, ?_, rfl, .inl rfl, Nat.le_refl _⟩
  exact allK_of (a := []) (b := []) parsePk_nil rfl
theorem BaseI.files {n : Nat} {S : StP} {dn : Bool} (h : BaseI n S dn) : S.files.length ≤ n + 1 := by
  have hc := h.cnt
  cases hg : getF S.files tmpT with
  | none => rw [delF_none hg] at hc; omega
  | some f => have := length_del h.ok.sorted (x := tmpT) (by rw [hg]; simp); omega
theorem BaseI.room {n : Nat} {S : StP} {dn : Bool} (h : BaseI n S dn) (hn : n ≤ 41) {b : Nat} (hb : b ≤ 10000) : (b : Int) ≤ S.quota - S.used := by
  rw [h.quota, h.ok.used]
  have hc := h.cnt
  have h1 : sumF (delF S.files tmpT) ≤ 10000 * (delF S.files tmpT).length := sumF_le 10000 _ fun p hp => by
    obtain ⟨q1, q2⟩ := List.mem_filter.1 hp
    exact (h.clean p.1 p.2 (by simpa using q2) (getF_of_mem h.ok.sorted q1)).2.2
  have h2 : sumF S.files ≤ sumF (delF S.files tmpT) + n * 10010 := by
    cases hg : getF S.files tmpT with
    | none => rw [delF_none hg]; omega
    | some f =>
      have := sumF_del h.ok.sorted hg
      have := (h.ok.ok _ (getF_mem hg)).2.2.1
      simp only at this
      omega
  have h3 : 10000 * (delF S.files tmpT).length ≤ 10000 * n := Nat.mul_le_mul_left _ hc
  omega
theorem BaseI.refs {n : Nat} {S : StP} {dn : Bool} (h : BaseI n S dn) (hn : n ≤ 41) : RefsIn (n * 10010) S [] := by
  refine ⟨h.ok, by omega, by decide, ?_, ?_⟩
  · unfold nowO
    rw [List.nil_append]
    cases hg : getF S.files packedT with
    | none => exact Nat.zero_le _
    | some f => exact Nat.le_trans (h.clean _ f (by decide) hg).2.2 (by decide)
  · have h1 : (listS S ([] ++ refsT)).length ≤ (keysF S.files).length := List.length_filter_le _ _
    have h2 : (keysF S.files).length = S.files.length := by unfold keysF; rw [List.length_map]
    have := h.files
    omega
theorem BaseI.lay {n : Nat} {S : StP} {dn : Bool} (h : BaseI n S dn) (hn : n ≤ 41) {name b : Bytes} (hr : rightF name = true) (hne : name ≠ tmpT) (hp : name = headT ∨ name = packedT ∨ rightN name = true) (hb : b.length ≤ 10000)
    (hf : ∀ x, x ≠ tmpT → (getF S.files x).isSome = true → underF name x = false ∧ underF x name = false) : BaseI (n + 1) (layS S [] name b).1 dn ∧ Fine S (layS S [] name b) := by
  have ht : ∀ x, x ≠ tmpT → (getF S.files x).isSome = true → underF tmpT x = false ∧ underF x tmpT = false := fun x hx hs => by
    rcases h.paths x hx hs with rfl | rfl | hx
    · exact ⟨by decide, by decide⟩
    · exact ⟨by decide, by decide⟩
    · exact under_refs (right_refs hx) (by decide) (by decide) (by decide)
  have hff := h.files
  refine ⟨?_, lay_fine hr ht (h.room hn hb) (by omega) hf⟩
  have hok := h.ok.lay [] name b
  have hcases := lay_cases S name b
  refine ⟨hok.mono (by omega), fun x f hx hg => ?_, fun x hx hs => ?_, ?_, fun hd => calm_lay (h.calm hd) _ _ _, (quota_lay _ _ _ _).trans h.quota⟩
  · rcases hcases with ⟨-, g⟩ | ⟨-, g⟩
    · rw [g x hx] at hg
      split at hg
      · injection hg with hg; subst hg; exact ⟨rfl, rfl, hb⟩
      · exact h.clean x f hx hg
    · rw [g x hx] at hg; exact h.clean x f hx hg
  · rcases hcases with ⟨-, g⟩ | ⟨-, g⟩
    · rw [g x hx] at hs
      split at hs
      · rename_i hxn; rw [hxn]; exact hp
      · exact h.paths x hx hs
    · rw [g x hx] at hs; exact h.paths x hx hs
  · rcases hcases with ⟨-, g⟩ | ⟨-, g⟩
    · have e : delF (layS S [] name b).1.files tmpT = putF (delF S.files tmpT) name ⟨b, b, []⟩ := files_ext (sorted_del hok.sorted _) (sorted_put (sorted_del h.ok.sorted _) _ _) fun x => by
        rw [getF_del, getF_put, getF_del]
        by_cases hx : x = tmpT
        · rw [if_pos hx, if_pos hx, if_neg (fun e => hne (e.symm.trans hx))]
        · rw [if_neg hx, if_neg hx, g x hx]
      rw [e]
      exact Nat.le_trans (length_putF _ _ _) (Nat.succ_le_succ h.cnt)
    · have e : delF (layS S [] name b).1.files tmpT = delF S.files tmpT := files_ext (sorted_del hok.sorted _) (sorted_del h.ok.sorted _) fun x => by
        rw [getF_del, getF_del]
        split
        · rfl
        · rename_i hx; exact g x hx
      rw [e]
      exact Nat.le_trans h.cnt (Nat.le_succ _)
theorem BaseI.less {n : Nat} {S S' : StP} {dn : Bool} (h : BaseI n S dn) (ok : OkS (n * 10010) S') (p : Bytes) (g : (∀ x, getF S'.files x = if x = p then none else getF S.files x) ∨ S' = S) (hc : CalmS S → CalmS S') (hq : S'.quota = S.quota) : BaseI n S' dn := by
  rcases g with g | rfl
  · refine ⟨ok, fun x f hx hg => ?_, fun x hx hs => ?_, ?_, fun hd => hc (h.calm hd), hq.trans h.quota⟩
    · rw [g] at hg
      split at hg
      · cases hg
      · exact h.clean x f hx hg
    · rw [g] at hs
      split at hs
      · cases hs
      · exact h.paths x hx hs
    · have e : delF S'.files tmpT = delF (delF S.files tmpT) p := files_ext (sorted_del ok.sorted _) (sorted_del (sorted_del h.ok.sorted _) _) fun x => by
        rw [getF_del, getF_del, getF_del, g]
        by_cases hx : x = tmpT
        · rw [if_pos hx, if_pos hx]; split <;> rfl
        · rw [if_neg hx, if_neg hx]
      rw [e]
      exact Nat.le_trans (length_del_le _ _) h.cnt
  · exact h
theorem BaseI.rm {n : Nat} {S : StP} {dn : Bool} (h : BaseI n S dn) (p : Bytes) : BaseI n (rmS S p).1 dn :=
  h.less (h.ok.rm p) p ((rm_cases S p).imp (fun h => h.2) fun h => h.2) (fun hc => calm_rm hc p) (quota_rm S p)
theorem BaseI.remove {n : Nat} {S : StP} {dn : Bool} (h : BaseI n S dn) (p : Bytes) : BaseI n (removeS S p).1 dn :=
  h.less (h.ok.remove p) p ((remove_cases S p).imp (fun h => h.2.2) fun h => h.2.1) (fun hc => calm_remove hc p) (quota_remove S p)

/-! ### Calls -/
def StepO (n : Nat) (now : Refs) (head : Bytes) (r : StP × Int) (next : Refs) (want : Int) (nh : Bytes) (dn : Bool) : Prop :=
  (r.2 = want ∧ PlayI (n + 1) r.1 next nh dn) ∨ (r.2 = 8 ∧ want = 0 ∧ dn = true ∧ ∃ now' head', (now' = now ∨ now' = next) ∧ (head' = head ∨ head' = nh) ∧ PlayI (n + 1) r.1 now' head' dn)
theorem PlayI.short {n : Nat} {S : StP} {now : Refs} {head : Bytes} {dn : Bool} (h : PlayI n S now head dn) (hn : n ≤ 41) : SortedP now ∧ ∀ r ∈ now, rightN r.name = true ∧ r.name.length ≤ 200 := by
  obtain ⟨h1, -, h2⟩ := all_short (h.base.refs hn) h.all
  exact ⟨h1, h2⟩
/-- No name of a ref's file stands in a new one's way. -/
theorem PlayI.free {n : Nat} {S : StP} {now : Refs} {head : Bytes} {dn : Bool} (h : PlayI n S now head dn) {name : Bytes} (hr : rightN name = true) (hc : clashP now name = false) :
    ∀ x, x ≠ tmpT → (getF S.files x).isSome = true → underF name x = false ∧ underF x name = false := fun x hx hs => by
  have hp := right_refs hr
  rcases h.base.paths x hx hs with rfl | rfl | hx
  · exact (under_refs hp (by decide) (by decide) (by decide)).symm
  · exact (under_refs hp (by decide) (by decide) (by decide)).symm
  · obtain ⟨f, hf⟩ := Option.isSome_iff_exists.1 hs
    obtain ⟨-, ⟨a, -, hget⟩, hok⟩ := allK_get h.base.ok.sorted h.all
    obtain ⟨i, hi⟩ := Option.isSome_iff_exists.1 (hok x (right_refs hx) f hf).1
    have hl : looseG S.files x = some i := by unfold looseG; rw [if_pos (right_refs hx), hf]; exact hi
    have hg : getP now x = some i := by rw [hget, hl]; rfl
    unfold clashP at hc
    have := List.any_eq_false.1 hc _ (getP_mem hg)
    simpa using this
theorem PlayI.freeH {n : Nat} {S : StP} {now : Refs} {head : Bytes} {dn : Bool} (h : PlayI n S now head dn) {name : Bytes} (hn : name = headT ∨ name = packedT) :
    ∀ x, x ≠ tmpT → (getF S.files x).isSome = true → underF name x = false ∧ underF x name = false := fun x hx hs => by
  rcases h.base.paths x hx hs with rfl | rfl | hx <;> rcases hn with rfl | rfl
  · exact ⟨by decide, by decide⟩
  · exact ⟨by decide, by decide⟩
  · exact ⟨by decide, by decide⟩
  · exact ⟨by decide, by decide⟩
  · exact under_refs (right_refs hx) (by decide) (by decide) (by decide)
  · exact under_refs (right_refs hx) (by decide) (by decide) (by decide)
theorem Fine.split {S : StP} {r : StP × Int} {dn : Bool} (h : Fine S r) (hc : dn = false → CalmS S) : r.2 = 0 ∨ (r.2 = 8 ∧ dn = true) :=
  h.imp id fun ⟨e, k⟩ => ⟨e, by cases dn with | true => rfl | false => exact absurd (hc rfl) k⟩
def setN (now : Refs) (name : Bytes) (id : Id20) : Refs := if rightN name then (if clashP now name then now else putP now name id) else now
def setW (now : Refs) (name : Bytes) : Int := if rightN name then (if clashP now name then 9 else 0) else 1
section
variable {n : Nat} {S : StP} {now : Refs} {head : Bytes} {dn : Bool}
theorem step_set (h : PlayI n S now head dn) (hn : n ≤ 40) (name : Bytes) (id : Id20) : StepO n now head (setK S [] name id) (setN now name id) (setW now name) head dn := by
  obtain ⟨hh, hs⟩ := set_spec h.base.ok h.all name id
  unfold setN setW
  by_cases hr : rightN name = true
  case neg =>
    rw [if_neg hr, if_neg hr]
    have e : setK S [] name id = (S, 1) := by unfold setK; rw [if_neg hr]
    rw [e]
    exact .inl ⟨rfl, h.mono (Nat.le_succ _)⟩
  rw [if_pos hr, if_pos hr]
  by_cases hc : clashP now name = true
  · rw [if_pos hc, if_pos hc]
    have e : setK S [] name id = (S, 9) := by unfold setK; rw [if_pos hr, h.all]; dsimp only; rw [if_pos hc]
    rw [e]
    exact .inl ⟨rfl, h.mono (Nat.le_succ _)⟩
  · rw [if_neg hc, if_neg hc]
    have e : setK S [] name id = layS S [] name (hexL id.1 ++ [10]) := by unfold setK; rw [if_pos hr, h.all]; dsimp only; rw [if_neg hc]
    rw [e] at hh hs ⊢
    obtain ⟨hb, hf⟩ := h.base.lay (by omega) (right_path hr) (right_ne hr (by decide)) (.inr (.inr hr)) (b := hexL id.1 ++ [10]) (by rw [List.length_append, hexL_len, id.2]; decide) (h.free hr (Bool.eq_false_iff.2 hc))
    have hlen : (putP now name id).length ≤ n + 1 := by
      have := length_putP (h.short (by omega)).1 name id
      have := h.len
      split at * <;> omega
    rcases hf.split h.base.calm with h0 | ⟨h8, hd⟩
    · rcases hs with ⟨-, ha⟩ | ⟨hne, -⟩
      · exact .inl ⟨h0, hb, ha, hh.trans h.hd, h.hr, hlen⟩
      · exact absurd h0 hne
    · rcases hs with ⟨h0, -⟩ | ⟨-, ha⟩
      · rw [h8] at h0; cases h0
      · exact .inr ⟨h8, rfl, hd, now, head, .inl rfl, .inl rfl, hb, ha, hh.trans h.hd, h.hr, Nat.le_succ_of_le h.len⟩
def dropN (now : Refs) (name : Bytes) : Refs := if rightN name then (if (getP now name).isSome then delP now name else now) else now
def dropW (now : Refs) (name : Bytes) : Int := if rightN name then (if (getP now name).isSome then 0 else 6) else 1
theorem packed_small (h : BaseI n S dn) : (nowO S.files ([] ++ packedT)).length ≤ 10000 := by
  unfold nowO
  rw [List.nil_append]
  cases hg : getF S.files packedT with
  | none => exact Nat.zero_le _
  | some f => exact (h.clean _ f (by decide) hg).2.2
theorem step_drop (h : PlayI n S now head dn) (hn : n ≤ 40) (name : Bytes) : StepO n now head (dropS S [] name) (dropN now name) (dropW now name) head dn := by
  obtain ⟨hh, L', ha, hL, hz⟩ := drop_spec h.base.ok h.all name
  unfold dropN dropW
  by_cases hr : rightN name = true
  case neg =>
    rw [if_neg hr, if_neg hr]
    have e : dropS S [] name = (S, 1) := by unfold dropS; rw [if_neg hr]
    rw [e]
    exact .inl ⟨rfl, h.mono (Nat.le_succ _)⟩
  rw [if_pos hr, if_pos hr]
  cases hg : getP now name with
  | none =>
    have e : dropS S [] name = (S, 6) := by unfold dropS; rw [if_pos hr, h.all]; dsimp only; rw [hg]
    rw [e]
    exact .inl ⟨rfl, h.mono (Nat.le_succ _)⟩
  | some i =>
    have e : dropS S [] name = andS (dropPk S [] name) fun S1 => rmS S1 name := by unfold dropS; rw [if_pos hr, h.all]; dsimp only; rw [hg]; rfl
    have hb : BaseI (n + 1) (dropPk S [] name).1 dn ∧ Fine S (dropPk S [] name) := by
      unfold dropPk
      split
      · refine h.base.lay (by omega) (by decide) (by decide) (.inr (.inl rfl)) ?_ (h.freeH (.inr rfl))
        have h2 := text_filter (pkL S []) fun r => !hasN name r
        have h3 := (parsePk_some (packK_of_all h.all)).2
        have h4 := packed_small h.base
        rw [← h3] at h4
        omega
      · exact ⟨h.base.mono (Nat.le_succ _), .inl rfl⟩
    have hcl : CalmS S → CalmS (dropPk S [] name).1 := fun hc => by
      unfold dropPk
      split
      · exact calm_lay hc _ _ _
      · exact hc
    have hb2 : BaseI (n + 1) (dropS S [] name).1 dn := by
      rw [e]
      exact and_step (P := fun T => BaseI (n + 1) T dn) hb.1 (fun S1 h1 => h1.rm name) fun _ h1 => h1
    have hf : Fine S (dropS S [] name) := by
      rw [e]
      exact hb.2.and hcl fun _ => Fine.code (rm_code _ _)
    have hdl : (delP now name).length ≤ n + 1 := Nat.le_trans (length_del_leP _ _) (Nat.le_succ_of_le h.len)
    rcases hf.split h.base.calm with h0 | ⟨h8, hd⟩
    · refine .inl ⟨h0, hb2, ?_, hh.trans h.hd, h.hr, hdl⟩
      rw [← hz h0]; exact ha
    · refine .inr ⟨h8, rfl, hd, L', head, hL, .inl rfl, hb2, ha, hh.trans h.hd, h.hr, ?_⟩
      rcases hL with rfl | rfl
      · exact Nat.le_succ_of_le h.len
      · exact hdl
/-! Pack -/
theorem rmAll_cons (f : Bytes) (r : RefP) (l : List RefP) (S : StP) : rmAll f (r :: l) S = andS (removeS S (f ++ r.name)) (rmAll f l) := rfl
theorem rmAll_keep {L : Refs} : ∀ (l : List RefP) {m : Nat} {S : StP}, BaseI m S dn → allK S [] = some L → packK S.files [] = some L → (∀ r ∈ l, rightN r.name = true) →
    (l.Pairwise fun p q => p.name ≠ q.name) → (∀ r ∈ l, (getF S.files r.name).isSome = true) → BaseI m (rmAll [] l S).1 dn ∧ Fine S (rmAll [] l S) ∧ allK (rmAll [] l S).1 [] = some L ∧ headK (rmAll [] l S).1.files [] = headK S.files []
  | [], m, S, hb, ha, _, _, _, _ => ⟨hb, .inl rfl, ha, rfl⟩
  | r :: l, m, S, hb, ha, hp, hr, hd, hi => by
    rw [rmAll_cons, List.nil_append]
    obtain ⟨hd1, hd2⟩ := List.pairwise_cons.1 hd
    have hcode := remove_code (hi r (by simp))
    have hb1 := hb.remove r.name
    have hfine : Fine S (removeS S r.name) := Fine.code hcode
    have hrr := hr r (by simp)
    rcases remove_cases S r.name with ⟨e0, -, g⟩ | ⟨e0, g, -⟩
    · obtain ⟨q1, L1, q2, q3⟩ := allK_rm hb.ok.sorted hb1.ok.sorted ha hp hrr g
      have hL1 : L1 = L := by
        obtain ⟨sL, ⟨a, ha2, hget⟩, -⟩ := allK_get hb.ok.sorted ha
        obtain ⟨sL1, -, -⟩ := allK_get hb1.ok.sorted q2
        rw [hp] at ha2
        injection ha2 with ha2
        subst ha2
        refine files_extP sL1 sL fun x => ?_
        rw [q3]
        by_cases hx : x = r.name
        · rw [if_pos hx]; rfl
        · rw [if_neg hx]; exact (hget x).symm
      rw [hL1] at q2
      have ih := rmAll_keep l hb1 q2 q1 (fun q hq => hr q (by simp [hq])) hd2 fun q hq => by
        rw [g, if_neg (fun e => hd1 q hq e.symm)]; exact hi q (by simp [hq])
      rw [andS_z e0]
      refine ⟨ih.1, ih.2.1.from fun hc => calm_remove hc _, ih.2.2.1, ih.2.2.2.trans ?_⟩
      unfold headK
      rw [List.nil_append, g, if_neg fun e => right_ne hrr (by decide) e.symm]
    · rw [andS_nz e0]
      exact ⟨hb1, hfine, by rw [g]; exact ha, by rw [g]⟩
theorem text_small (h : PlayI n S now head dn) (hn : n ≤ 40) : (textP now).length ≤ 10000 := by
  have h1 := textP_len 200 now fun p hp => ((h.short (by omega)).2 p hp).2
  have h2 := h.len
  have h3 : (200 + 42) * now.length ≤ (200 + 42) * 40 := Nat.mul_le_mul_left _ (by omega)
  omega
theorem step_pack (h : PlayI n S now head dn) (hn : n ≤ 40) : StepO n now head (packS S []) now 0 head dn := by
  unfold packS
  rw [h.all]
  dsimp only
  by_cases h0 : now = []
  · rw [if_pos h0]
    exact .inl ⟨rfl, h.mono (Nat.le_succ _)⟩
  rw [if_neg h0]
  obtain ⟨hb, hf⟩ := h.base.lay (by omega) (name := packedT) (b := textP now) (by decide) (by decide) (.inr (.inl rfl)) (text_small h hn) (h.freeH (.inr rfl))
  obtain ⟨sN, hN⟩ := h.short (by omega)
  have hord : OrdP now := sorted_ord sN fun r hr => (hN r hr).1
  rcases lay_cases S packedT (textP now) with ⟨e0, g⟩ | ⟨e0, g⟩
  · rw [andS_z e0]
    obtain ⟨q1, L1, q2, q3⟩ := allK_packed h.base.ok.sorted hb.ok.sorted h.all hord g
    have hL1 : L1 = now := by
      obtain ⟨-, ⟨a, -, hget⟩, -⟩ := allK_get h.base.ok.sorted h.all
      obtain ⟨sL1, -, -⟩ := allK_get hb.ok.sorted q2
      refine files_extP sL1 sN fun x => ?_
      rw [q3]
      cases hl : looseG S.files x with
      | none => rfl
      | some i => rw [hget, hl]; rfl
    rw [hL1] at q2
    have hlo : ∃ b, looseK (layS S [] packedT (textP now)).1 [] = some b := by
      cases hl : looseK (layS S [] packedT (textP now)).1 [] with
      | some b => exact ⟨b, rfl⟩
      | none => unfold allK at q2; rw [q1, hl] at q2; cases q2
    obtain ⟨b, hbl⟩ := hlo
    rw [hbl, Option.getD_some]
    have hbs : SortedP b := by
      refine sorted_of_keys ?_
      unfold looseK at hbl
      rw [loose_names hbl]
      exact List.Pairwise.filter _ (sortedK hb.ok.sorted)
    have hin : ∀ r ∈ b, rightN r.name = true ∧ (getF (layS S [] packedT (textP now)).1.files r.name).isSome = true := fun r hr => by
      have hr1 := loose_right hbl r hr
      refine ⟨hr1, ?_⟩
      unfold looseK at hbl
      have : r.name ∈ keysP b := List.mem_map_of_mem hr
      rw [loose_names hbl] at this
      exact (mem_listR.1 this).2
    obtain ⟨k1, k2, k3, k4⟩ := rmAll_keep b hb q2 q1 (fun r hr => (hin r hr).1) (hbs.imp fun {p q} hpq e => by rw [e] at hpq; exact lt_irr _ hpq) fun r hr => (hin r hr).2
    have hhd : headK (layS S [] packedT (textP now)).1.files [] = headK S.files [] := by
      unfold headK
      rw [List.nil_append, g _ (by decide), if_neg (by decide)]
    rcases (k2.from fun hc => calm_lay hc _ _ _ : Fine S _).split h.base.calm with h0 | ⟨h8, hd⟩
    · exact .inl ⟨h0, k1, k3, (k4.trans hhd).trans h.hd, h.hr, Nat.le_succ_of_le h.len⟩
    · exact .inr ⟨h8, rfl, hd, now, head, .inl rfl, .inl rfl, k1, k3, (k4.trans hhd).trans h.hd, h.hr, Nat.le_succ_of_le h.len⟩
  · rw [andS_nz e0]
    rcases hf.split h.base.calm with h0 | ⟨h8, hd⟩
    · exact absurd h0 e0
    · exact .inr ⟨h8, rfl, hd, now, head, .inl rfl, .inl rfl, hb, by rw [allK_same h.base.ok.sorted hb.ok.sorted g, h.all], (headK_same g).trans h.hd, h.hr, Nat.le_succ_of_le h.len⟩
def headN (head name : Bytes) : Bytes := if rightN name then name else head
def headW (name : Bytes) : Int := if rightN name then 0 else 1
theorem head_text {name : Bytes} (hr : rightN name = true) : headB (refcT ++ name ++ [10]) = (name, id0, 0) := by
  have hl : (refcT ++ name ++ [10]).length = name.length + 6 := by
    rw [List.length_append, List.length_append]
    show 5 + name.length + 1 = _
    omega
  have h5 : (refcT ++ name ++ [10]).take 5 = refcT := by rw [List.append_assoc]; exact List.take_left' rfl
  have hd : ((refcT ++ name ++ [10]).drop 5).take ((refcT ++ name ++ [10]).length - 6) = name := by
    rw [hl, Nat.add_sub_cancel, List.append_assoc]
    show (List.drop refcT.length (refcT ++ (name ++ [10]))).take _ = _
    rw [List.drop_left]
    exact List.take_left' rfl
  have := headB_ref (b := refcT ++ name ++ [10]) (by omega) h5 (by
    rw [hl, show name.length + 6 - 1 = (refcT ++ name).length by
      rw [List.length_append]
      show _ = 5 + name.length
      omega, List.getElem?_append_right (Nat.le_refl _), Nat.sub_self]
    rfl) (by rw [hd]; exact hr)
  rw [this, hd]
theorem step_head (h : PlayI n S now head dn) (hn : n ≤ 40) (name : Bytes) : StepO n now head (setHeadS S [] name) now (headW name) (headN head name) dn := by
  unfold setHeadS headN headW
  by_cases hr : rightN name = true
  case neg =>
    rw [if_neg hr, if_neg hr, if_neg hr]
    exact .inl ⟨rfl, h.mono (Nat.le_succ _)⟩
  rw [if_pos hr, if_pos hr, if_pos hr]
  have hl := (right_ten hr).2
  obtain ⟨hb, hf⟩ := h.base.lay (by omega) (name := headT) (b := refcT ++ name ++ [10]) (by decide) (by decide) (.inl rfl) (by simp [refcT]; omega) (h.freeH (.inl rfl))
  have hne : name ≠ [] := fun e => by rw [e] at hr; exact absurd hr (by decide)
  rcases lay_cases S headT (refcT ++ name ++ [10]) with ⟨e0, g⟩ | ⟨e0, g⟩
  · refine .inl ⟨e0, hb, ?_, ?_, .inr hr, Nat.le_succ_of_le h.len⟩
    · have hx : ∀ x, refsT.isPrefixOf x = true → getF (layS S [] headT (refcT ++ name ++ [10])).1.files x = getF S.files x := fun x hx => by
        rw [g x (refs_ne hx (by decide)), if_neg (refs_ne hx (by decide))]
      obtain ⟨sL, ⟨a, ha, hget⟩, hok⟩ := allK_get h.base.ok.sorted h.all
      have hpk : packK (layS S [] headT (refcT ++ name ++ [10])).1.files [] = some a := by
        rw [packK_same, ha]
        rw [g _ (by decide), if_neg (by decide)]
      obtain ⟨L', hL'⟩ := allK_is hpk fun x hp f hf => by rw [hx x hp] at hf; exact hok x hp f hf
      obtain ⟨sL', ⟨a', ha', hget'⟩, -⟩ := allK_get hb.ok.sorted hL'
      rw [hpk] at ha'
      injection ha' with ha'
      subst ha'
      rw [hL']
      congr 1
      refine files_extP sL' sL fun x => ?_
      rw [hget', hget]
      have : looseG (layS S [] headT (refcT ++ name ++ [10])).1.files x = looseG S.files x := by
        unfold looseG
        split
        · rename_i hp; rw [hx x hp]
        · rfl
      rw [this]
    · unfold headK
      rw [List.nil_append, g _ (by decide), if_pos rfl, if_neg hne]
      exact head_text hr
  · rcases hf.split h.base.calm with h0 | ⟨h8, hd⟩
    · exact absurd h0 e0
    · exact .inr ⟨h8, rfl, hd, now, head, .inl rfl, .inl rfl, hb, by rw [allK_same h.base.ok.sorted hb.ok.sorted g, h.all], (headK_same g).trans h.hd, h.hr, Nat.le_succ_of_le h.len⟩
theorem arm_files (S : StP) (k : Int) : (armS S k).files = S.files ∧ (armS S k).quota = S.quota := by
  unfold armS; split <;> exact ⟨rfl, rfl⟩
theorem step_arm (h : PlayI n S now head dn) (k : Int) (hk : k ≤ 9223372036854775807) : PlayI (n + 1) (armS S k) now head true := by
  obtain ⟨e1, e2⟩ := arm_files S k
  have ok := (h.base.mono (Nat.le_succ n)).ok.arm k hk
  refine ⟨⟨ok, by rw [e1]; exact h.base.clean, by rw [e1]; exact h.base.paths, by rw [e1]; exact Nat.le_succ_of_le h.base.cnt, fun h => (by cases h), e2.trans h.base.quota⟩, ?_, by rw [e1]; exact h.hd, h.hr, Nat.le_succ_of_le h.len⟩
  rw [allK_same h.base.ok.sorted ok.sorted fun x _ => by rw [e1], h.all]
theorem crash_get (keep : List Int) : ∀ (l : Files) (i : Nat) (x : Bytes), (∀ f, getF l x = some f → f.since = [] ∧ f.kept = f.now) → getF (crashL keep i l) x = getF l x
  | [], _, _, _ => rfl
  | p :: r, i, x, h => by
    show getF ((p.1, crashF p.2 (keepK keep i p.2)) :: crashL keep (i + 1) r) x = _
    unfold getF at h ⊢
    by_cases hp : p.1 = x
    · rw [if_pos hp] at h ⊢
      rw [if_pos hp]
      obtain ⟨h1, h2⟩ := h p.2 rfl
      obtain ⟨q, f⟩ := p
      obtain ⟨a, b, c⟩ := f
      simp only at h1 h2
      subst h1 h2
      simp [crashF, runs]
    · rw [if_neg hp] at h ⊢
      rw [if_neg hp]
      exact crash_get keep r (i + 1) x h
theorem step_crash (h : PlayI n S now head dn) (keep : List Int) : PlayI (n + 1) (crashS S keep) now head false := by
  have ok := (h.base.mono (Nat.le_succ n)).ok.crash keep (fun hq => by rw [h.base.quota] at hq; cases hq)
  have hg : ∀ x, x ≠ tmpT → getF (crashS S keep).files x = getF S.files x := fun x hx => crash_get keep S.files 0 x fun f hf => ⟨(h.base.clean x f hx hf).1, (h.base.clean x f hx hf).2.1⟩
  refine ⟨⟨ok, fun x f hx hf => ?_, fun x hx hs => ?_, ?_, fun _ => ⟨rfl, rfl⟩, h.base.quota⟩, ?_, (headK_same hg).trans h.hd, h.hr, Nat.le_succ_of_le h.len⟩
  · rw [hg x hx] at hf; exact h.base.clean x f hx hf
  · rw [hg x hx] at hs; exact h.base.paths x hx hs
  · have e : delF (crashS S keep).files tmpT = delF S.files tmpT := files_ext (sorted_del ok.sorted _) (sorted_del h.base.ok.sorted _) fun x => by
      rw [getF_del, getF_del]
      split
      · rfl
      · rename_i hx; exact hg x hx
    rw [e]
    exact Nat.le_succ_of_le h.base.cnt
  · rw [allK_same h.base.ok.sorted ok.sorted hg, h.all]
end
end Go.Proofs.YtponfkfeflnilaaGreatDoor
