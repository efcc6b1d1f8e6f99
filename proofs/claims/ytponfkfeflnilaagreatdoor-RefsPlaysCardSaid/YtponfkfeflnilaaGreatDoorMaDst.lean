/-
  What refs' calls leave of a store's refs: plain.
  What Set, Drop and Pack leave of a store's refs: plain.
-/
import Derived.Test.YtponfkfeflnilaaGreatDoorMaDoc
import Derived.Test.YtponfkfeflnilaaGreatDoorMaKnown
namespace Go.Proofs.YtponfkfeflnilaaGreatDoor
open Go.RowKit Go.Mix

/-! ### One step of a store -/
theorem doneS_files (S : StP) : (doneS S).files = S.files := by unfold doneS; split <;> rfl
theorem andS_z {r : StP × Int} (h : r.2 = 0) (f : StP → StP × Int) : andS r f = f r.1 := if_pos h
theorem andS_nz {r : StP × Int} (h : r.2 ≠ 0) (f : StP → StP × Int) : andS r f = r := if_neg h
theorem write_cases (S : StP) (p : Bytes) (at_ : Int) (b : Bytes) :
    ((writeS S p at_ b).2 = 0 ∧ ∀ x, getF (writeS S p at_ b).1.files x = if x = p then some (doF ((getF S.files p).getD file0) ⟨at_.toNat, -1, b⟩) else getF S.files x) ∨ ((writeS S p at_ b).2 ≠ 0 ∧ (writeS S p at_ b).1 = S) := by
  unfold writeS
  split
  · exact .inr ⟨by simp, rfl⟩
  · split
    · exact .inr ⟨by simp, rfl⟩
    · split
      · exact .inr ⟨by simp, rfl⟩
      · split
        · exact .inr ⟨by simp, rfl⟩
        · split
          · exact .inr ⟨by simp, rfl⟩
          · refine .inl ⟨rfl, fun x => ?_⟩
            rw [doneS_files]
            exact getF_put _ _ _ _
theorem cut_cases (S : StP) (p : Bytes) (n : Int) :
    ((cutS S p n).2 = 0 ∧ (∃ f, getF S.files p = some f ∧ 0 ≤ n ∧ n ≤ f.now.length ∧ ∀ x, getF (cutS S p n).1.files x = if x = p then some (doF f ⟨0, n, []⟩) else getF S.files x)) ∨ ((cutS S p n).2 ≠ 0 ∧ (cutS S p n).1 = S) := by
  unfold cutS
  split
  · exact .inr ⟨by simp, rfl⟩
  · cases hg : getF S.files p with
    | none => exact .inr ⟨by simp, rfl⟩
    | some f =>
      dsimp only
      split
      · exact .inr ⟨by simp, rfl⟩
      · rename_i hn
        refine .inl ⟨rfl, f, rfl, by omega, by omega, fun x => ?_⟩
        rw [doneS_files]
        exact getF_put _ _ _ _
theorem sync_cases (S : StP) (p : Bytes) :
    ((syncS S p).2 = 0 ∧ (∃ f, getF S.files p = some f ∧ ∀ x, getF (syncS S p).1.files x = if x = p then some (syncF f) else getF S.files x)) ∨ ((syncS S p).2 ≠ 0 ∧ (syncS S p).1 = S) := by
  unfold syncS
  split
  · exact .inr ⟨by simp, rfl⟩
  · cases hg : getF S.files p with
    | none => exact .inr ⟨by simp, rfl⟩
    | some f =>
      refine .inl ⟨rfl, f, rfl, fun x => ?_⟩
      dsimp only
      rw [doneS_files]
      exact getF_put _ _ _ _
theorem rename_cases (S : StP) (p q : Bytes) :
    ((renameS S p q).2 = 0 ∧ (∃ f, getF S.files p = some f ∧ ∀ x, getF (renameS S p q).1.files x = if x = q then some f else if x = p then none else getF S.files x)) ∨ ((renameS S p q).2 ≠ 0 ∧ (renameS S p q).1 = S) := by
  unfold renameS
  split
  · exact .inr ⟨by simp, rfl⟩
  · cases hg : getF S.files p with
    | none => exact .inr ⟨by simp, rfl⟩
    | some f =>
      dsimp only
      split
      · exact .inr ⟨by simp, rfl⟩
      · split
        · exact .inr ⟨by simp, rfl⟩
        · refine .inl ⟨rfl, f, rfl, fun x => ?_⟩
          rw [doneS_files]
          show getF (putF (delF S.files p) q f) x = _
          rw [getF_put, getF_del]
theorem remove_cases (S : StP) (p : Bytes) :
    ((removeS S p).2 = 0 ∧ (getF S.files p).isSome = true ∧ ∀ x, getF (removeS S p).1.files x = if x = p then none else getF S.files x) ∨ ((removeS S p).2 ≠ 0 ∧ (removeS S p).1 = S ∧ ((removeS S p).2 = 6 → getF S.files p = none)) := by
  unfold removeS
  split
  · exact .inr ⟨by simp, rfl, by simp⟩
  · cases hg : getF S.files p with
    | none => exact .inr ⟨by simp, rfl, fun _ => rfl⟩
    | some f =>
      refine .inl ⟨rfl, rfl, fun x => ?_⟩
      dsimp only
      rw [doneS_files]
      exact getF_del _ _ _
/-- A file is laid down, or all but tmp is as it was. -/
theorem lay_cases (S : StP) (name b : Bytes) :
    ((layS S [] name b).2 = 0 ∧ ∀ x, x ≠ tmpT → getF (layS S [] name b).1.files x = if x = name then some ⟨b, b, []⟩ else getF S.files x) ∨ ((layS S [] name b).2 ≠ 0 ∧ ∀ x, x ≠ tmpT → getF (layS S [] name b).1.files x = getF S.files x) := by
  unfold layS
  simp only [List.nil_append]
  obtain ⟨r1, h1⟩ : ∃ r, r = writeS S tmpT 0 b := ⟨_, rfl⟩
  have c1 := write_cases S tmpT 0 b
  rw [← h1] at c1 ⊢
  rcases c1 with ⟨e1, g1⟩ | ⟨e1, g1⟩
  case inr => rw [andS_nz e1]; exact .inr ⟨e1, fun x _ => by rw [g1]⟩
  rw [andS_z e1]
  obtain ⟨r2, h2⟩ : ∃ r, r = cutS r1.1 tmpT (b.length : Int) := ⟨_, rfl⟩
  have c2 := cut_cases r1.1 tmpT (b.length : Int)
  rw [← h2] at c2 ⊢
  have k1 : ∀ x, x ≠ tmpT → getF r1.1.files x = getF S.files x := fun x hx => by rw [g1, if_neg hx]
  rcases c2 with ⟨e2, f2, hf2, -, -, g2⟩ | ⟨e2, g2⟩
  case inr => rw [andS_nz e2]; exact .inr ⟨e2, fun x hx => by rw [g2, k1 x hx]⟩
  rw [andS_z e2]
  obtain ⟨r3, h3⟩ : ∃ r, r = syncS r2.1 tmpT := ⟨_, rfl⟩
  have c3 := sync_cases r2.1 tmpT
  rw [← h3] at c3 ⊢
  have k2 : ∀ x, x ≠ tmpT → getF r2.1.files x = getF S.files x := fun x hx => by rw [g2, if_neg hx, k1 x hx]
  rcases c3 with ⟨e3, f3, hf3, g3⟩ | ⟨e3, g3⟩
  case inr => rw [andS_nz e3]; exact .inr ⟨e3, fun x hx => by rw [g3, k2 x hx]⟩
  rw [andS_z e3]
  have k3 : ∀ x, x ≠ tmpT → getF r3.1.files x = getF S.files x := fun x hx => by rw [g3, if_neg hx, k2 x hx]
  rcases rename_cases r3.1 tmpT name with ⟨e4, f4, hf4, g4⟩ | ⟨e4, g4⟩
  case inr => exact .inr ⟨e4, fun x hx => by rw [g4, k3 x hx]⟩
  refine .inl ⟨e4, fun x hx => ?_⟩
  rw [g4]
  by_cases hxn : x = name
  · rw [if_pos hxn, if_pos hxn]
    rw [g1, if_pos rfl] at hf2
    rw [g2, if_pos rfl] at hf3
    rw [g3, if_pos rfl] at hf4
    injection hf2 with hf2
    injection hf3 with hf3
    injection hf4 with hf4
    rw [← hf4, ← hf3, ← hf2]
    have e : (doF (doF ((getF S.files tmpT).getD file0) ⟨(0 : Int).toNat, -1, b⟩) ⟨0, (b.length : Int), []⟩).now = b := by
      simp [doF, Chg.on]
    unfold syncF
    rw [e]
  · rw [if_neg hxn, if_neg hxn, if_neg hx, k3 x hx]

/-! ### A store's refs -/
theorem allSome_all {α β : Type} {f : α → Option β} : ∀ {l : List α}, (∀ x ∈ l, (f x).isSome = true) → ∃ ys, allSome f l = some ys
  | [], _ => ⟨[], rfl⟩
  | x :: l, h => by
    obtain ⟨ys, hys⟩ := allSome_all (l := l) fun z hz => h z (by simp [hz])
    obtain ⟨y, hy⟩ := Option.isSome_iff_exists.1 (h x (by simp))
    exact ⟨y :: ys, by simp only [allSome, hy, hys]⟩
theorem allSome_is {α β : Type} {f : α → Option β} {l : List α} {ys : List β} (h : allSome f l = some ys) : ∀ x ∈ l, (f x).isSome = true := fun x hx => by
  cases hf : f x with
  | some y => rfl
  | none => rw [allSome_none hx hf] at h; cases h
theorem allSome_congr {α β : Type} {f g : α → Option β} : ∀ {l : List α}, (∀ x ∈ l, f x = g x) → allSome f l = allSome g l
  | [], _ => rfl
  | x :: l, h => by
    simp only [allSome]
    rw [h x (by simp), allSome_congr fun z hz => h z (by simp [hz])]
/-- The id of a ref that has a file. -/
noncomputable def looseG (files : Files) (x : Bytes) : Option Id20 := if refsT.isPrefixOf x then (match getF files x with | some f => fileK f.now | none => none) else none
theorem looseOne_some {files : Files} {p : Bytes} {r : RefP} (h : looseOne files [] p = some r) : r.name = p ∧ fileK (nowO files p) = some r.id ∧ rightN p = true := by
  unfold looseOne at h
  simp only [List.length_nil, List.drop_zero] at h
  split at h
  · rename_i x hx
    split at h
    · rename_i hr
      injection h with h
      subst h
      exact ⟨rfl, hx, hr⟩
    · cases h
  · cases h
theorem loose_names {files : Files} : ∀ {ks : List Bytes} {b : List RefP}, allSome (looseOne files []) ks = some b → keysP b = ks
  | [], b, h => by simp only [allSome, Option.some.injEq] at h; subst h; rfl
  | k :: ks, b, h => by
    simp only [allSome] at h
    cases hk : looseOne files [] k with
    | none => rw [hk] at h; cases h
    | some y =>
      cases hl : allSome (looseOne files []) ks with
      | none => rw [hk, hl] at h; cases h
      | some ys =>
        rw [hk, hl] at h
        simp only [Option.some.injEq] at h
        subst h
        unfold keysP
        rw [List.map_cons, (looseOne_some hk).1]
        congr 1
        exact loose_names hl
theorem loose_get {files : Files} : ∀ {ks : List Bytes} {b : List RefP}, allSome (looseOne files []) ks = some b → ∀ x, getP b x = if x ∈ ks then fileK (nowO files x) else none
  | [], b, h, x => by simp only [allSome, Option.some.injEq] at h; subst h; simp [getP]
  | k :: ks, b, h, x => by
    simp only [allSome] at h
    cases hk : looseOne files [] k with
    | none => rw [hk] at h; cases h
    | some y =>
      cases hl : allSome (looseOne files []) ks with
      | none => rw [hk, hl] at h; cases h
      | some ys =>
        rw [hk, hl] at h
        simp only [Option.some.injEq] at h
        subst h
        obtain ⟨q1, q2, -⟩ := looseOne_some hk
        unfold getP
        by_cases hx : k = x
        · rw [q1, if_pos hx, if_pos (by simp [hx]), ← hx, q2]
        · rw [q1, if_neg hx, loose_get hl x]
          by_cases hm : x ∈ ks
          · rw [if_pos hm, if_pos (by simp [hm])]
          · rw [if_neg hm, if_neg (by simp [hm]; exact fun e => hx e.symm)]
theorem mem_keysF {l : Files} {x : Bytes} : x ∈ keysF l ↔ (getF l x).isSome = true := by
  cases hg : getF l x with
  | none =>
    refine ⟨fun h => ?_, fun h => (by cases h)⟩
    obtain ⟨q, hq, he⟩ := List.mem_map.1 h
    exact absurd he (getF_none.1 hg q hq)
  | some f => exact ⟨fun _ => rfl, fun _ => List.mem_map.2 ⟨_, getF_mem hg, rfl⟩⟩
theorem mem_listR {S : StP} {x : Bytes} : x ∈ listS S ([] ++ refsT) ↔ refsT.isPrefixOf x = true ∧ (getF S.files x).isSome = true := by
  unfold listS
  rw [List.mem_filter, mem_keysF]
  exact And.comm
theorem listR_get {S : StP} (x : Bytes) : (if x ∈ listS S ([] ++ refsT) then fileK (nowO S.files x) else none) = looseG S.files x := by
  unfold looseG
  by_cases hp : refsT.isPrefixOf x = true
  · rw [if_pos hp]
    cases hg : getF S.files x with
    | none => rw [if_neg fun h => by have := (mem_listR.1 h).2; rw [hg] at this; cases this]
    | some f => rw [if_pos (mem_listR.2 ⟨hp, by rw [hg]; rfl⟩)]; unfold nowO; rw [hg]; rfl
  · rw [if_neg hp, if_neg fun h => hp (mem_listR.1 h).1]
/-- One over another. -/
def ov (o p : Option Id20) : Option Id20 := match o with
  | some i => some i
  | none => p
theorem ov_none (p : Option Id20) : ov none p = p := rfl
theorem getP_puts : ∀ (m l : Refs), SortedP m → ∀ x, getP (putsP l m) x = ov (getP m x) (getP l x)
  | [], l, _, x => rfl
  | r :: m, l, hs, x => by
    obtain ⟨h1, h2⟩ := List.pairwise_cons.1 hs
    show getP (putsP (putP l r.name r.id) m) x = _
    rw [getP_puts m _ h2 x, getP_put, show getP (r :: m) x = if r.name = x then some r.id else getP m x from rfl]
    by_cases hx : r.name = x
    · have hn : getP m x = none := getP_none.2 fun q hq e => by have := h1 q hq; rw [e, ← hx] at this; exact lt_irr _ this
      rw [if_pos hx, hn, if_pos hx.symm]; rfl
    · rw [if_neg hx, if_neg fun e => hx e.symm]
theorem sortedK {l : Files} (h : Sorted l) : (keysF l).Pairwise (· < ·) := List.pairwise_map.2 h
theorem sorted_of_keys {b : List RefP} (h : (keysP b).Pairwise (· < ·)) : SortedP b := List.pairwise_map.1 h
/-- What a store's refs are, told by names. -/
theorem allK_get {S : StP} (hs : Sorted S.files) {L : Refs} (h : allK S [] = some L) :
    SortedP L ∧ (∃ a, packK S.files [] = some a ∧ ∀ x, getP L x = ov (looseG S.files x) (getP a x)) ∧ ∀ x, refsT.isPrefixOf x = true → ∀ f, getF S.files x = some f → (fileK f.now).isSome = true ∧ rightN x = true := by
  unfold allK at h
  cases ha : packK S.files [] with
  | none => rw [ha] at h; cases h
  | some a =>
    cases hb : looseK S [] with
    | none => rw [ha, hb] at h; cases h
    | some b =>
      rw [ha, hb] at h
      simp only [Option.some.injEq] at h
      subst h
      unfold looseK at hb
      have hbs : SortedP b := sorted_of_keys (by rw [loose_names hb]; exact List.Pairwise.filter _ (sortedK hs))
      have has : SortedP a := ord_sorted (parsePk_some ha).1
      refine ⟨sorted_putsP _ List.Pairwise.nil, ⟨a, rfl, fun x => ?_⟩, fun x hx f hf => ?_⟩
      · have e : putsP [] (a ++ b) = putsP a b := by
          have e1 : putsP [] (a ++ b) = putsP (putsP [] a) b := by unfold putsP; rw [List.foldl_append]
          rw [e1, putsP_sorted a [] has, List.nil_append]
        rw [e, getP_puts b a hbs, loose_get hb, listR_get]
      · have h1 := allSome_is hb x (mem_listR.2 ⟨hx, by rw [hf]; rfl⟩)
        obtain ⟨r, hr⟩ := Option.isSome_iff_exists.1 h1
        obtain ⟨-, q2, q3⟩ := looseOne_some hr
        unfold nowO at q2
        rw [hf] at q2
        exact ⟨by rw [show f.now = ((Option.some f).map FileP.now).getD [] from rfl, q2]; rfl, q3⟩
theorem allK_is {S : StP} {a : Refs} (ha : packK S.files [] = some a) (h : ∀ x, refsT.isPrefixOf x = true → ∀ f, getF S.files x = some f → (fileK f.now).isSome = true ∧ rightN x = true) : ∃ L, allK S [] = some L := by
  have : ∃ b, looseK S [] = some b := allSome_all fun x hx => by
    obtain ⟨h1, h2⟩ := mem_listR.1 hx
    obtain ⟨f, hf⟩ := Option.isSome_iff_exists.1 h2
    obtain ⟨q1, q2⟩ := h x h1 f hf
    obtain ⟨i, hi⟩ := Option.isSome_iff_exists.1 q1
    unfold looseOne nowO
    rw [hf]
    simp only [Option.map_some, Option.getD_some, hi, List.length_nil, List.drop_zero, q2, if_true, Option.isSome_some]
  obtain ⟨b, hb⟩ := this
  exact ⟨_, allK_of ha hb⟩
theorem refs_ne {x y : Bytes} (h : refsT.isPrefixOf x = true) (hy : refsT.isPrefixOf y = false) : x ≠ y := fun e => by rw [e, hy] at h; cases h
/-- Nothing but tmp is changed: the refs stay. -/
theorem allK_same {S S' : StP} (hs : Sorted S.files) (hs' : Sorted S'.files) (h : ∀ x, x ≠ tmpT → getF S'.files x = getF S.files x) : allK S' [] = allK S [] := by
  have hd : delF S'.files tmpT = delF S.files tmpT := files_ext (sorted_del hs' _) (sorted_del hs _) fun x => by
    rw [getF_del, getF_del]
    split
    · rfl
    · rename_i hx; exact h x hx
  have hl : ∀ T : StP, listS T ([] ++ refsT) = (keysF (delF T.files tmpT)).filter fun p => refsT.isPrefixOf p := fun T => by
    unfold listS keysF delF
    rw [List.filter_map, List.filter_map, List.filter_filter]
    congr 1
    refine List.filter_congr fun q _ => ?_
    simp only [Function.comp_apply]
    by_cases hp : refsT.isPrefixOf q.1 = true
    · rw [show (([] : Bytes) ++ refsT) = refsT from rfl, hp, Bool.true_and]
      simp only [ne_eq, Bool.true_eq, decide_eq_true_eq]
      exact refs_ne hp (by decide)
    · rw [show (([] : Bytes) ++ refsT) = refsT from rfl, Bool.eq_false_iff.2 hp, Bool.false_and]
  have hn : ∀ x, x ≠ tmpT → nowO S'.files x = nowO S.files x := fun x hx => by unfold nowO; rw [h x hx]
  unfold allK
  have h1 : packK S'.files [] = packK S.files [] := by unfold packK; rw [hn _ (by decide)]
  have h2 : looseK S' [] = looseK S [] := by
    unfold looseK
    rw [hl S', hl S, hd]
    refine allSome_congr fun x hx => ?_
    have hp := (List.mem_filter.1 hx).2
    unfold looseOne
    rw [hn x (refs_ne hp (by decide))]
  rw [h1, h2]
theorem headK_same {S S' : StP} (h : ∀ x, x ≠ tmpT → getF S'.files x = getF S.files x) : headK S'.files [] = headK S.files [] := by
  unfold headK
  rw [h _ (by decide)]
end Go.Proofs.YtponfkfeflnilaaGreatDoor
namespace Go.Proofs.YtponfkfeflnilaaGreatDoor
open Go.RowKit Go.Mix

theorem right_refs {n : Bytes} (h : rightN n = true) : refsT.isPrefixOf n = true := by
  unfold rightN at h
  simp only [Bool.and_eq_true] at h
  first | exact h.1.1.1.1.1.1 | exact h.1.1.1.1.1 | exact h.1.1.1.1 | exact h.1.1.1 | exact h.1.1 | exact h.1 | skip
theorem right_ne {n y : Bytes} (h : rightN n = true) (hy : refsT.isPrefixOf y = false) : n ≠ y := refs_ne (right_refs h) hy
theorem looseG_same {l l' : Files} {x : Bytes} (h : x ≠ tmpT → getF l' x = getF l x) : looseG l' x = looseG l x := by
  unfold looseG
  by_cases hp : refsT.isPrefixOf x = true
  · rw [if_pos hp, if_pos hp, h (refs_ne hp (by decide))]
  · rw [if_neg hp, if_neg hp]
theorem packK_same {l l' : Files} (h : getF l' packedT = getF l packedT) : packK l' [] = packK l [] := by
  unfold packK nowO
  rw [List.nil_append, h]
/-- A ref's file was laid down. -/
theorem allK_set {S S' : StP} {L : Refs} {name : Bytes} {id : Id20} (hs : Sorted S.files) (hs' : Sorted S'.files) (h : allK S [] = some L) (hn : rightN name = true)
    (hg : ∀ x, x ≠ tmpT → getF S'.files x = if x = name then some ⟨hexL id.1 ++ [10], hexL id.1 ++ [10], []⟩ else getF S.files x) : allK S' [] = some (putP L name id) := by
  obtain ⟨sL, ⟨a, ha, hget⟩, hok⟩ := allK_get hs h
  have hpk : packK S'.files [] = some a := by
    rw [packK_same, ha]
    rw [hg _ (by decide), if_neg fun e => right_ne hn (by decide) e.symm]
  obtain ⟨L', hL'⟩ := allK_is hpk fun x hx f hf => by
    rw [hg x (refs_ne hx (by decide))] at hf
    split at hf
    · rename_i hxn
      injection hf with hf
      subst hf
      exact ⟨by rw [fileK_hex]; rfl, by rw [hxn]; exact hn⟩
    · exact hok x hx f hf
  obtain ⟨sL', ⟨a', ha', hget'⟩, -⟩ := allK_get hs' hL'
  rw [hpk] at ha'
  injection ha' with ha'
  subst ha'
  rw [hL']
  congr 1
  refine files_extP sL' (sorted_putP sL _ _) fun x => ?_
  rw [hget', getP_put, hget]
  by_cases hx : x = name
  · subst hx
    have : looseG S'.files x = some id := by
      unfold looseG
      rw [if_pos (right_refs hn), hg x (right_ne hn (by decide)), if_pos rfl]
      exact fileK_hex id
    rw [this, if_pos rfl]; rfl
  · rw [if_neg hx, looseG_same (l := S.files) (l' := S'.files) (x := x) fun ht => by rw [hg x ht, if_neg hx]]
/-- Packed refs were laid down. -/
theorem allK_packed {S S' : StP} {L m : Refs} (hs : Sorted S.files) (hs' : Sorted S'.files) (h : allK S [] = some L) (hm : OrdP m)
    (hg : ∀ x, x ≠ tmpT → getF S'.files x = if x = packedT then some ⟨textP m, textP m, []⟩ else getF S.files x) :
    packK S'.files [] = some m ∧ ∃ L', allK S' [] = some L' ∧ ∀ x, getP L' x = ov (looseG S.files x) (getP m x) := by
  obtain ⟨sL, ⟨a, ha, hget⟩, hok⟩ := allK_get hs h
  have hpk : packK S'.files [] = some m := by
    unfold packK nowO
    rw [List.nil_append, hg _ (by decide), if_pos rfl]
    exact parsePk_text hm
  have hno : ∀ x, refsT.isPrefixOf x = true → getF S'.files x = getF S.files x := fun x hx => by
    rw [hg x (refs_ne hx (by decide)), if_neg (refs_ne hx (by decide))]
  obtain ⟨L', hL'⟩ := allK_is hpk fun x hx f hf => by
    rw [hno x hx] at hf
    exact hok x hx f hf
  obtain ⟨sL', ⟨a', ha', hget'⟩, -⟩ := allK_get hs' hL'
  rw [hpk] at ha'
  injection ha' with ha'
  subst ha'
  refine ⟨hpk, L', hL', fun x => ?_⟩
  rw [hget']
  have : looseG S'.files x = looseG S.files x := by
    unfold looseG
    split
    · rename_i hp; rw [hno x hp]
    · rfl
  rw [this]
/-- A ref's file was taken away. -/
theorem allK_rm {S S' : StP} {L a : Refs} {name : Bytes} (hs : Sorted S.files) (hs' : Sorted S'.files) (h : allK S [] = some L) (ha : packK S.files [] = some a) (hn : rightN name = true)
    (hg : ∀ x, getF S'.files x = if x = name then none else getF S.files x) :
    packK S'.files [] = some a ∧ ∃ L', allK S' [] = some L' ∧ ∀ x, getP L' x = ov ((if x = name then none else looseG S.files x)) (getP a x) := by
  obtain ⟨sL, -, hok⟩ := allK_get hs h
  have hpk : packK S'.files [] = some a := by
    rw [packK_same, ha]
    rw [hg, if_neg fun e => right_ne hn (by decide) e.symm]
  obtain ⟨L', hL'⟩ := allK_is hpk fun x hx f hf => by
    rw [hg x] at hf
    split at hf
    · cases hf
    · exact hok x hx f hf
  obtain ⟨sL', ⟨a', ha', hget'⟩, -⟩ := allK_get hs' hL'
  rw [hpk] at ha'
  injection ha' with ha'
  subst ha'
  refine ⟨hpk, L', hL', fun x => ?_⟩
  rw [hget']
  have : looseG S'.files x = if x = name then none else looseG S.files x := by
    unfold looseG
    rw [hg]
    by_cases hx : x = name
    · rw [if_pos hx, if_pos hx]; split <;> rfl
    · rw [if_neg hx, if_neg hx]
  rw [this]

/-! ### Calls -/
theorem set_spec {Z : Nat} {S : StP} (ok : OkS Z S) {L : Refs} (h : allK S [] = some L) (name : Bytes) (id : Id20) :
    headK (setK S [] name id).1.files [] = headK S.files [] ∧ (((setK S [] name id).2 = 0 ∧ allK (setK S [] name id).1 [] = some (putP L name id)) ∨ ((setK S [] name id).2 ≠ 0 ∧ allK (setK S [] name id).1 [] = some L)) := by
  unfold setK
  by_cases hr : rightN name = true
  · rw [if_pos hr, h]
    dsimp only
    by_cases hc : clashP L name = true
    · rw [if_pos hc]
      exact ⟨rfl, .inr ⟨by simp, h⟩⟩
    · rw [if_neg hc]
      have ok2 := ok.lay [] name (hexL id.1 ++ [10])
      rcases lay_cases S name (hexL id.1 ++ [10]) with ⟨e, g⟩ | ⟨e, g⟩
      · refine ⟨?_, .inl ⟨e, allK_set ok.sorted ok2.sorted h hr g⟩⟩
        unfold headK
        rw [List.nil_append, g _ (by decide), if_neg fun e => right_ne hr (by decide) e.symm]
      · exact ⟨headK_same g, .inr ⟨e, by rw [allK_same ok.sorted ok2.sorted g, h]⟩⟩
  · rw [if_neg hr]
    exact ⟨rfl, .inr ⟨by simp, h⟩⟩
theorem filter_del (L : Refs) (name : Bytes) : L.filter (fun r => !hasN name r) = delP L name := by
  unfold delP hasN
  refine List.filter_congr fun r _ => ?_
  by_cases h : r.name = name
  · simp [h]
  · simp [h]
theorem any_get {L : Refs} {name : Bytes} : L.any (hasN name) = (getP L name).isSome := by
  cases h : getP L name with
  | none =>
    rw [Option.isSome_none, List.any_eq_false]
    intro r hr
    have := getP_none.1 h r hr
    simp [hasN, this]
  | some f =>
    rw [Option.isSome_some, List.any_eq_true]
    exact ⟨_, getP_mem h, by simp [hasN]⟩
/-- The first part of Drop. -/
theorem dropPk_cases {Z : Nat} {S : StP} (ok : OkS Z S) {L : Refs} (h : allK S [] = some L) (name : Bytes) :
    (∃ Z1, OkS Z1 (dropPk S [] name).1) ∧ headK (dropPk S [] name).1.files [] = headK S.files [] ∧ (((dropPk S [] name).2 = 0 ∧ (∃ L1, allK (dropPk S [] name).1 [] = some L1 ∧ ∀ x, getP L1 x = ov (looseG S.files x) (getP (delP (pkL S []) name) x)) ∧ packK (dropPk S [] name).1.files [] = some (delP (pkL S []) name) ∧ ∀ x, looseG (dropPk S [] name).1.files x = looseG S.files x) ∨
      ((dropPk S [] name).2 ≠ 0 ∧ allK (dropPk S [] name).1 [] = some L)) := by
  obtain ⟨sL, ⟨a, ha, hget⟩, hok⟩ := allK_get ok.sorted h
  have hp : pkL S [] = a := by unfold pkL; rw [ha]; rfl
  unfold dropPk
  rw [hp]
  by_cases hc : a.any (hasN name) = true
  · rw [if_pos hc, filter_del]
    have ok2 := ok.lay [] packedT (textP (delP a name))
    refine ⟨⟨_, ok2⟩, ?_⟩
    rcases lay_cases S packedT (textP (delP a name)) with ⟨e, g⟩ | ⟨e, g⟩
    · have hm : OrdP (delP a name) := by rw [← filter_del]; exact ordP_filter (parsePk_some ha).1 _
      obtain ⟨q1, L1, q2, q3⟩ := allK_packed ok.sorted ok2.sorted h hm g
      refine ⟨?_, .inl ⟨e, ⟨L1, q2, q3⟩, q1, fun x => ?_⟩⟩
      · unfold headK
        rw [List.nil_append, g _ (by decide), if_neg (by decide)]
      · unfold looseG
        split
        · rename_i hx; rw [g x (refs_ne hx (by decide)), if_neg (refs_ne hx (by decide))]
        · rfl
    · exact ⟨headK_same g, .inr ⟨e, by rw [allK_same ok.sorted ok2.sorted g, h]⟩⟩
  · rw [if_neg hc]
    have hno : getP a name = none := by
      cases hg : getP a name with
      | none => rfl
      | some f => rw [any_get, hg] at hc; exact absurd rfl hc
    rw [delP_none hno]
    exact ⟨⟨Z, ok⟩, rfl, .inl ⟨rfl, ⟨L, h, hget⟩, ha, fun _ => rfl⟩⟩
theorem rm_cases (S : StP) (p : Bytes) : ((rmS S p).2 = 0 ∧ ∀ x, getF (rmS S p).1.files x = if x = p then none else getF S.files x) ∨ ((rmS S p).2 ≠ 0 ∧ (rmS S p).1 = S) := by
  unfold rmS
  rcases remove_cases S p with ⟨e, -, g⟩ | ⟨e, g, hno⟩
  · rw [if_neg (by rw [e]; decide)]
    exact .inl ⟨e, g⟩
  · by_cases h6 : (removeS S p).2 = 6
    · rw [if_pos h6]
      refine .inl ⟨rfl, fun x => ?_⟩
      dsimp only
      rw [g]
      split
      · rename_i hx; rw [hx]; exact hno h6
      · rfl
    · rw [if_neg h6]
      exact .inr ⟨e, g⟩
theorem OkS.rm {Z : Nat} {S : StP} (h : OkS Z S) (p : Bytes) : OkS Z (rmS S p).1 := by
  unfold rmS
  split
  · exact h.remove p
  · exact h.remove p
theorem drop_spec {Z : Nat} {S : StP} (ok : OkS Z S) {L : Refs} (h : allK S [] = some L) (name : Bytes) :
    headK (dropS S [] name).1.files [] = headK S.files [] ∧ ∃ L', allK (dropS S [] name).1 [] = some L' ∧ (L' = L ∨ L' = delP L name) ∧ ((dropS S [] name).2 = 0 → L' = delP L name) := by
  unfold dropS
  by_cases hr : rightN name = true
  case neg => rw [if_neg hr]; exact ⟨rfl, L, h, .inl rfl, fun e => by simp at e⟩
  rw [if_pos hr, h]
  dsimp only
  cases hg : getP L name with
  | none => exact ⟨rfl, L, h, .inl rfl, fun e => by simp at e⟩
  | some i =>
    dsimp only
    rw [List.nil_append]
    obtain ⟨sL, ⟨a, ha, hget⟩, hok⟩ := allK_get ok.sorted h
    have hp : pkL S [] = a := by unfold pkL; rw [ha]; rfl
    obtain ⟨⟨Z1, ok1⟩, hh, hd⟩ := dropPk_cases ok h name
    rw [hp] at hd
    rcases hd with ⟨e1, ⟨L1, q1, q2⟩, q3, q4⟩ | ⟨e1, q1⟩
    case inr =>
      rw [andS_nz e1]
      exact ⟨hh, L, q1, .inl rfl, fun e => absurd e e1⟩
    rw [andS_z e1]
    obtain ⟨sL1, -, -⟩ := allK_get ok1.sorted q1
    have hdel : ∀ x, x ≠ name → getP (delP a name) x = getP a x := fun x hx => by rw [getP_del, if_neg hx]
    have ok2 := ok1.rm name
    rcases rm_cases (dropPk S [] name).1 name with ⟨e2, g2⟩ | ⟨e2, g2⟩
    · obtain ⟨-, L2, r1, r2⟩ := allK_rm ok1.sorted ok2.sorted q1 q3 hr g2
      have hL2 : L2 = delP L name := by
        obtain ⟨sL2, -, -⟩ := allK_get ok2.sorted r1
        refine files_extP sL2 (sorted_delP sL _) fun x => ?_
        rw [r2, getP_del, getP_del]
        by_cases hx : x = name
        · rw [if_pos hx, if_pos hx, if_pos hx]; rfl
        · rw [if_neg hx, if_neg hx, if_neg hx, q4, hget]
      refine ⟨?_, L2, r1, .inr hL2, fun _ => hL2⟩
      rw [← hh]
      unfold headK
      rw [List.nil_append, g2, if_neg fun e => right_ne hr (by decide) e.symm]
    · refine ⟨by rw [g2]; exact hh, L1, by rw [g2]; exact q1, ?_, fun e => absurd e e2⟩
      cases hl : looseG S.files name with
      | some j =>
        refine .inl (files_extP sL1 sL fun x => ?_)
        rw [q2, hget]
        by_cases hx : x = name
        · rw [hx, hl]; rfl
        · rw [hdel x hx]
      | none =>
        refine .inr (files_extP sL1 (sorted_delP sL _) fun x => ?_)
        rw [q2, getP_del, getP_del]
        by_cases hx : x = name
        · rw [if_pos hx, if_pos hx, hx, hl]; rfl
        · rw [if_neg hx, if_neg hx, hget]
theorem del_put {L : Refs} (h : SortedP L) (name : Bytes) (id : Id20) : delP (putP L name id) name = delP L name :=
  files_extP (sorted_delP (sorted_putP h _ _) _) (sorted_delP h _) fun x => by
    rw [getP_del, getP_del, getP_put]
    split
    · rfl
    · rfl
theorem del_del (L : Refs) (name : Bytes) : delP (delP L name) name = delP L name := by unfold delP; rw [List.filter_filter]; simp
end Go.Proofs.YtponfkfeflnilaaGreatDoor
