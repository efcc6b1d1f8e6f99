/-
  How great a store is behind Set and Drop; a front of which there is nothing: plain.
-/
import Derived.Test.YtponfkfeflnilaaGreatDoorMaDst
import Derived.Test.YtponfkfeflnilaaGreatDoorMaDoc
namespace Go.Proofs.YtponfkfeflnilaaGreatDoor
open Go.RowKit Go.Mix Go.WideMaps

theorem cut_len1 (S : StP) (p : Bytes) (n : Int) : (cutS S p n).1.files.length ≤ S.files.length + 1 := by
  unfold cutS
  repeat' split
  all_goals first | omega | (rw [doneF]; exact length_putF _ _ _) | simp
theorem sync_len1 (S : StP) (p : Bytes) : (syncS S p).1.files.length ≤ S.files.length + 1 := by
  unfold syncS
  repeat' split
  all_goals first | omega | (rw [doneF]; exact length_putF _ _ _) | simp
theorem del_len1 (l : Files) (x : Bytes) : (delF l x).length ≤ l.length := List.length_filter_le _ _
theorem rename_len1 (S : StP) (p q : Bytes) : (renameS S p q).1.files.length ≤ S.files.length + 1 := by
  unfold renameS
  repeat' split
  all_goals first | omega | (rw [doneF]; exact Nat.le_trans (length_putF _ _ _) (Nat.succ_le_succ (del_len1 _ _))) | simp
theorem remove_len1 (S : StP) (p : Bytes) : (removeS S p).1.files.length ≤ S.files.length := by
  unfold removeS
  repeat' split
  all_goals first | omega | (rw [doneF]; exact del_len1 _ _) | simp
theorem and_len {r : StP × Int} {f : StP → StP × Int} {a b : Nat} (h : r.1.files.length ≤ a) (hab : a ≤ b) (hf : ∀ S, S.files.length ≤ a → (f S).1.files.length ≤ b) : (andS r f).1.files.length ≤ b := by
  unfold andS
  split
  · exact hf _ h
  · exact Nat.le_trans h hab
theorem lay_len1 (S : StP) (f name b : Bytes) : (layS S f name b).1.files.length ≤ S.files.length + 4 := by
  unfold layS
  refine and_len (write_len1 S _ _ _) (by omega) fun S1 h1 => ?_
  refine and_len (a := S.files.length + 2) (Nat.le_trans (cut_len1 S1 _ _) (by omega)) (by omega) fun S2 h2 => ?_
  refine and_len (a := S.files.length + 3) (Nat.le_trans (sync_len1 S2 _) (by omega)) (by omega) fun S3 h3 => ?_
  exact Nat.le_trans (rename_len1 S3 _ _) (by omega)
theorem rm_len1 (S : StP) (p : Bytes) : (rmS S p).1.files.length ≤ S.files.length := by
  unfold rmS
  split
  · exact remove_len1 S p
  · exact remove_len1 S p
theorem set_len1 (S : StP) (f name : Bytes) (id : Id20) : (setK S f name id).1.files.length ≤ S.files.length + 4 := by
  unfold setK
  split
  · cases allK S f with
    | none => simp
    | some L =>
      dsimp only
      split
      · simp
      · exact lay_len1 _ _ _ _
  · simp
theorem drop_len1 (S : StP) (f name : Bytes) : (dropS S f name).1.files.length ≤ S.files.length + 4 := by
  unfold dropS
  split
  · cases allK S f with
    | none => simp
    | some L =>
      dsimp only
      cases getP L name with
      | none => simp
      | some i =>
        dsimp only
        refine and_len (a := S.files.length + 4) ?_ (Nat.le_refl _) fun S1 h1 => Nat.le_trans (rm_len1 S1 _) h1
        unfold dropPk
        split
        · exact lay_len1 _ _ _ _
        · simp
  · simp
theorem set_ok1 {Z : Nat} {S : StP} (h : OkS Z S) (f name : Bytes) (id : Id20) : OkS (Z + 43) (setK S f name id).1 := by
  unfold setK
  split
  · cases allK S f with
    | none => exact h.mono (by omega)
    | some L =>
      dsimp only
      split
      · exact h.mono (by omega)
      · have := h.lay f name (hexL id.1 ++ [10])
        rw [List.length_append, hexL_len, id.2] at this
        exact this
  · exact h.mono (by omega)
theorem text_filter (l : List RefP) (p : RefP → Bool) : (textP (l.filter p)).length ≤ (textP l).length := by
  induction l with
  | nil => exact Nat.le_refl _
  | cons r l ih =>
    rw [textP_cons, List.length_append]
    by_cases h : p r = true
    · rw [List.filter_cons_of_pos h, textP_cons, List.length_append]; omega
    · rw [List.filter_cons_of_neg h]; omega
theorem drop_ok1 {Z : Nat} {S : StP} (h : OkS Z S) (f name : Bytes) : OkS (2 * Z + 2) (dropS S f name).1 := by
  have h0 : OkS (2 * Z + 2) S := h.mono (by omega)
  unfold dropS
  split
  · cases hA : allK S f with
    | none => exact h0
    | some L =>
      dsimp only
      cases getP L name with
      | none => exact h0
      | some i =>
        dsimp only
        refine and_step (P := OkS (2 * Z + 2)) ?_ (fun S1 h1 => h1.rm _) (fun S1 h1 => h1)
        unfold dropPk
        split
        · have h1 := h.lay f packedT (textP ((pkL S f).filter fun r => !hasN name r))
          refine h1.mono ?_
          have h2 := text_filter (pkL S f) fun r => !hasN name r
          have h3 := (parsePk_some (packK_of_all hA)).2
          have h4 := h.now_len (f ++ packedT)
          rw [← h3] at h4
          omega
        · exact h0
  · exact h0
theorem refsIn_of {Z : Nat} {S : StP} (ok : OkS Z S) (hZ : Z ≤ 30000) (hf : S.files.length ≤ 200) (f : Bytes) (hfl : f.length ≤ 1000) : RefsIn Z S f := by
  refine ⟨ok, by omega, hfl, Nat.le_trans (ok.now_len _) hZ, ?_⟩
  have h1 : (listS S (f ++ refsT)).length ≤ (keysF S.files).length := List.length_filter_le _ _
  have h2 : (keysF S.files).length = S.files.length := by unfold keysF; rw [List.length_map]
  omega
def otherT : Bytes := [111, 116, 104, 101, 114]
def refsxT : Bytes := [114, 101, 102, 115, 47, 120]
theorem other_none {S : StP} (h : listS S otherT = []) : getK S (frontL otherT) refsxT = (id0, 6) := by
  have hno : ∀ x, otherT.isPrefixOf x = true → x ∉ keysF S.files := fun x hx hm => by
    have : x ∈ listS S otherT := List.mem_filter.2 ⟨hm, hx⟩
    rw [h] at this; cases this
  have hpk : packK S.files (frontL otherT) = some [] := by
    unfold packK
    rw [nowO_none (hno _ (by decide)), parsePk_nil]
  have hls : listS S (frontL otherT ++ refsT) = [] := List.filter_eq_nil_iff.2 fun x hx hp => hno x (by
    obtain ⟨t, ht⟩ := List.isPrefixOf_iff_prefix.1 hp
    rw [List.isPrefixOf_iff_prefix]
    exact ⟨[47] ++ refsT ++ t, by rw [← ht]; rfl⟩) hx
  have hlo : looseK S (frontL otherT) = some [] := by unfold looseK; rw [hls]; rfl
  have hall := allK_of hpk hlo
  unfold getK
  rw [if_pos (by kernel_rfl), hall]
  rfl
end Go.Proofs.YtponfkfeflnilaaGreatDoor
