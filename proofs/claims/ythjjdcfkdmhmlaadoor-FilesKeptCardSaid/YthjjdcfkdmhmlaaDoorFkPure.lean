/-
  Plain: a store of one file that grows.
-/
import Derived.Test.YthjjdcfkdmhmlaaDoorFlPure
namespace Go.Proofs.YthjjdcfkdmhmlaaDoor

/-- One file alone; what stood after each change. -/
structure KeptP (path : Bytes) (S : StP) (st : List Bytes) (f : FileP) : Prop where
  eq : S = ⟨1048576, (f.now.length : Int), [(path, f)], false, false, 0⟩
  len : st.length = f.since.length + 1
  at_ : ∀ j, j < st.length → runs f.kept (f.since.take j) = st[j]!
  last : f.now = st[f.since.length]!
def stillS (path x : Bytes) : StP := ⟨1048576, (x.length : Int), [(path, ⟨x, x, []⟩)], false, false, 0⟩

theorem free_one (path : Bytes) (f : FileP) : freeF [(path, f)] path path = true := by unfold freeF; simp
theorem put_one (path : Bytes) (f g : FileP) : putF [(path, f)] path g = [(path, g)] := by unfold putF delF; simp [insF]
theorem get_one (path : Bytes) (f : FileP) : getF [(path, f)] path = some f := by unfold getF; rw [if_pos rfl]
theorem done_up {S : StP} (h : S.armed = false) : doneS S = S := by unfold doneS; rw [if_neg (by rw [h]; simp)]

def kept1 (path b : Bytes) : StP := ⟨1048576, (b.length : Int), [(path, ⟨b, [], [⟨0, -1, b⟩]⟩)], false, false, 0⟩
theorem kept1_eq (path b : Bytes) (h : b.length ≤ 300) (hr : rightF path = true) : writeS (newS 1048576) path 0 b = (kept1 path b, 0) := by
  unfold writeS
  rw [if_neg (by show ¬ false = true; simp), if_neg (by rw [hr]; decide), if_neg (by unfold freeF newS; simp)]
  have e0 : (getF (newS 1048576).files path).getD file0 = file0 := rfl
  rw [e0, if_neg (by show ¬ ((0 : Nat) : Int) < 0; decide)]
  have e1 : max 0 ((0 : Int) + (b.length : Int) - ((file0.now.length : Nat) : Int)) = (b.length : Int) := by show max 0 (0 + (b.length : Int) - ((0 : Nat) : Int)) = _; omega
  rw [e1, if_neg (by
    show ¬ ((decide ((b.length : Int) > 1048576 - 0) && decide ((b.length : Int) > 0)) || (true && decide (10000 ≤ 0))) = true
    rw [decide_eq_false (by omega : ¬ (b.length : Int) > 1048576 - 0)]
    simp)]
  have e2 : doF file0 ⟨(0 : Int).toNat, -1, b⟩ = ⟨b, [], [⟨0, -1, b⟩]⟩ := by
    unfold doF Chg.on file0
    simp
  rw [e2, done_up rfl]
  simp [newS, kept1, putF, delF, insF]
theorem kept1_bad (path b : Bytes) (hr : rightF path = false) : writeS (newS 1048576) path 0 b = (newS 1048576, 1) := by
  unfold writeS
  rw [if_neg (by show ¬ false = true; simp), if_pos (by rw [hr]; rfl)]
theorem kept2_eq (path b : Bytes) : syncS (kept1 path b) path = (stillS path b, 0) := by
  unfold syncS
  rw [if_neg (by show ¬ false = true; simp)]
  show (match getF [(path, _)] path with | none => _ | some f => _) = _
  rw [get_one]
  show (doneS _, (0 : Int)) = _
  rw [done_up rfl]
  show ((⟨_, _, putF [(path, _)] path _, _, _, _⟩ : StP), (0 : Int)) = _
  rw [put_one]
  rfl
theorem KeptP.start (path b : Bytes) : KeptP path (stillS path b) [b] ⟨b, b, []⟩ :=
  ⟨rfl, rfl, fun j hj => by
    obtain rfl : j = 0 := by simpa using hj
    rfl, rfl⟩
theorem KeptP.write {path : Bytes} {S : StP} {st : List Bytes} {f : FileP} (h : KeptP path S st f) (hr : rightF path = true) (b : Bytes) (hb : f.now.length + b.length ≤ 100000) :
    ∃ S' f', writeS S path (f.now.length : Int) b = (S', 0) ∧ KeptP path S' (st ++ [f.now ++ b]) f' ∧ f'.now = f.now ++ b := by
  obtain ⟨rfl, hlen, hat, hlast⟩ := h
  have e0 : Chg.on ⟨f.now.length, -1, b⟩ f.now = f.now ++ b := by
    unfold Chg.on
    rw [if_neg (by show ¬ (0 : Int) ≤ -1; decide)]
    simp
  have e1 : (doF f ⟨f.now.length, -1, b⟩).now = f.now ++ b := e0
  refine ⟨⟨1048576, ((f.now ++ b).length : Int), [(path, doF f ⟨f.now.length, -1, b⟩)], false, false, 0⟩, doF f ⟨f.now.length, -1, b⟩, ?_, ⟨by rw [e1], ?_, ?_, ?_⟩, e1⟩
  · unfold writeS
    rw [if_neg (by show ¬ false = true; simp), if_neg (by rw [hr, decide_eq_false (by omega)]; simp), if_neg (by rw [free_one]; simp)]
    rw [get_one]
    have e2 : (some f).getD file0 = f := rfl
    rw [e2, if_neg (by omega)]
    have e3 : max 0 ((f.now.length : Int) + (b.length : Int) - (f.now.length : Int)) = (b.length : Int) := by omega
    rw [e3, if_neg (by
      show ¬ ((decide ((b.length : Int) > 1048576 - (f.now.length : Int)) && decide ((b.length : Int) > 0)) || (false && decide (10000 ≤ 1))) = true
      rw [decide_eq_false (by omega : ¬ (b.length : Int) > 1048576 - (f.now.length : Int))]
      simp)]
    rw [done_up rfl]
    show ((⟨1048576, (f.now.length : Int) + (b.length : Int), putF [(path, f)] path _, false, false, 0⟩ : StP), (0 : Int)) = _
    rw [put_one, List.length_append, Int.natCast_add, Int.toNat_natCast]
  · rw [List.length_append, hlen]; unfold doF; simp
  · intro j hj
    rw [List.length_append, hlen, List.length_singleton] at hj
    show runs f.kept ((f.since ++ [_]).take j) = _
    by_cases hj2 : j ≤ f.since.length
    · rw [List.take_append_of_le_length hj2, hat j (by omega), getElem!_pos st j (by omega), getElem!_pos (st ++ [f.now ++ b]) j (by rw [List.length_append, hlen]; simp; omega), List.getElem_append_left]
    · obtain rfl : j = f.since.length + 1 := by omega
      rw [List.take_of_length_le (by simp), runs_snoc]
      have h2 := hat f.since.length (by omega)
      rw [List.take_length, ← hlast] at h2
      rw [h2, e0, getElem!_pos (st ++ [f.now ++ b]) (f.since.length + 1) (by rw [List.length_append, hlen]; simp)]
      rw [List.getElem_append_right (by omega)]
      simp
  · show (doF f ⟨f.now.length, -1, b⟩).now = (st ++ [f.now ++ b])[(f.since ++ [_]).length]!
    rw [e1, List.length_append, List.length_singleton, getElem!_pos (st ++ [f.now ++ b]) (f.since.length + 1) (by rw [List.length_append, hlen]; simp), List.getElem_append_right (by omega)]
    simp [hlen]
theorem KeptP.crash {path : Bytes} {S : StP} {st : List Bytes} {f : FileP} (h : KeptP path S st f) (keep : Int) : crashS S [keep] = stillS path st[(min (max keep 0) ((st.length : Int) - 1)).toNat]! := by
  obtain ⟨rfl, hlen, hat, hlast⟩ := h
  have ek : keepK [keep] 0 f = (min (max keep 0) ((st.length : Int) - 1)).toNat := by
    unfold keepK
    rw [if_pos (by simp)]
    show min (max keep 0).toNat f.since.length = _
    omega
  have h1 := hat (keepK [keep] 0 f) (by rw [ek]; omega)
  unfold crashS
  show (⟨1048576, ((sumF [(path, crashF f (keepK [keep] 0 f))] : Nat) : Int), [(path, crashF f (keepK [keep] 0 f))], false, false, 0⟩ : StP) = _
  have e1 : crashF f (keepK [keep] 0 f) = ⟨st[(min (max keep 0) ((st.length : Int) - 1)).toNat]!, st[(min (max keep 0) ((st.length : Int) - 1)).toNat]!, []⟩ := by
    unfold crashF
    rw [h1, ek]
  rw [e1]
  rfl
theorem still_crash (path x : Bytes) : crashS (stillS path x) [5] = stillS path x := by
  have := (KeptP.start path x).crash 5
  exact this
theorem still_get (path x : Bytes) : getF (stillS path x).files path = some ⟨x, x, []⟩ := get_one _ _
theorem still_list (path x : Bytes) : listS (stillS path x) [] = [path] := by rw [listS_all]; rfl
end Go.Proofs.YthjjdcfkdmhmlaaDoor
