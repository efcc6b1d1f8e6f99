/-
  A store of files, plain: what each call answers and leaves.
-/
namespace Go.Proofs.YtponfkfeflnilaaGreatDoor

abbrev Bytes := List UInt8

/-- A write (cut below 0) or a cut of a file. -/
structure Chg where
  at_ : Nat
  cut : Int
  b : Bytes
def Chg.on (c : Chg) (x : Bytes) : Bytes := if 0 ≤ c.cut then x.take c.cut.toNat else x.take c.at_ ++ c.b ++ x.drop (c.at_ + c.b.length)
/-- It may be done to these bytes. -/
def Chg.fits (c : Chg) (x : Bytes) : Prop := (0 ≤ c.cut → c.cut.toNat ≤ x.length) ∧ (c.cut < 0 → c.at_ ≤ x.length)
def runs (x : Bytes) (s : List Chg) : Bytes := s.foldl (fun x c => c.on x) x
def fitsAll : Bytes → List Chg → Prop
  | _, [] => True
  | x, c :: s => c.fits x ∧ fitsAll (c.on x) s

theorem runs_nil (x : Bytes) : runs x [] = x := rfl
theorem runs_snoc (x : Bytes) (s : List Chg) (c : Chg) : runs x (s ++ [c]) = c.on (runs x s) := by unfold runs; rw [List.foldl_append]; rfl
theorem fitsAll_snoc : ∀ (s : List Chg) (x : Bytes) (c : Chg), fitsAll x (s ++ [c]) ↔ fitsAll x s ∧ c.fits (runs x s)
  | [], x, c => by simp [fitsAll, runs]
  | d :: s, x, c => by
    have := fitsAll_snoc s (d.on x) c
    simp only [List.cons_append, fitsAll, this, runs, List.foldl_cons, and_assoc]
theorem fitsAll_take {x : Bytes} {s : List Chg} (h : fitsAll x s) (k : Nat) : fitsAll x (s.take k) := by
  induction s generalizing x k with
  | nil => simpa using h
  | cons c s ih =>
    cases k with
    | zero => trivial
    | succ k => exact ⟨h.1, ih h.2 k⟩
theorem fitsAll_at {x : Bytes} {s : List Chg} (h : fitsAll x s) {i : Nat} (hi : i < s.length) : s[i].fits (runs x (s.take i)) := by
  have h1 := fitsAll_take h (i + 1)
  rw [List.take_succ_eq_append_getElem hi] at h1
  exact ((fitsAll_snoc _ _ _).1 h1).2
theorem runs_at (x : Bytes) {s : List Chg} {i : Nat} (hi : i < s.length) : runs x (s.take (i + 1)) = s[i].on (runs x (s.take i)) := by
  rw [List.take_succ_eq_append_getElem hi, runs_snoc]

/-- A file: what stands, what is kept, and changes since. -/
structure FileP where
  now : Bytes
  kept : Bytes
  since : List Chg
def file0 : FileP := ⟨[], [], []⟩
instance : Inhabited FileP := ⟨file0⟩
structure FileP.ok (f : FileP) : Prop where
  fits : fitsAll f.kept f.since
  now : runs f.kept f.since = f.now
  plain : ∀ c ∈ f.since, 0 ≤ c.cut → c.b = []
theorem file0_ok : file0.ok := ⟨trivial, rfl, fun c hc => by simp [file0] at hc⟩
def doF (f : FileP) (c : Chg) : FileP := { f with now := c.on f.now, since := f.since ++ [c] }
theorem FileP.ok.do_ {f : FileP} (h : f.ok) {c : Chg} (hc : c.fits f.now) (hp : 0 ≤ c.cut → c.b = []) : (doF f c).ok :=
  ⟨(fitsAll_snoc _ _ _).2 ⟨h.fits, by show c.fits (runs f.kept f.since); rw [h.now]; exact hc⟩, by unfold doF; rw [runs_snoc, h.now], fun d hd => by
    rcases List.mem_append.1 hd with h1 | h1
    · exact h.plain d h1
    · rw [List.mem_singleton.1 h1]; exact hp⟩
/-- A crash keeps k changes. -/
def crashF (f : FileP) (k : Nat) : FileP := ⟨runs f.kept (f.since.take k), runs f.kept (f.since.take k), []⟩
theorem crashF_ok (f : FileP) (k : Nat) : (crashF f k).ok := ⟨trivial, rfl, fun c hc => by simp [crashF] at hc⟩
def syncF (f : FileP) : FileP := ⟨f.now, f.now, []⟩
theorem syncF_ok (f : FileP) : (syncF f).ok := ⟨trivial, rfl, fun c hc => by simp [syncF] at hc⟩

theorem chg_len {c : Chg} {x : Bytes} (hp : 0 ≤ c.cut → c.b = []) : c.b.length ≤ (c.on x).length := by
  by_cases h : 0 ≤ c.cut
  · rw [hp h]; simp
  · unfold Chg.on
    rw [if_neg h]
    simp only [List.length_append]
    omega

/-! ### Files by their paths, in order -/
abbrev Files := List (Bytes × FileP)
def getF : Files → Bytes → Option FileP
  | [], _ => none
  | p :: r, x => if p.1 = x then some p.2 else getF r x
def delF (l : Files) (x : Bytes) : Files := l.filter fun p => decide (p.1 ≠ x)
def insF (x : Bytes) (f : FileP) : Files → Files
  | [] => [(x, f)]
  | p :: r => if p.1 < x then p :: insF x f r else (x, f) :: p :: r
def putF (l : Files) (x : Bytes) (f : FileP) : Files := insF x f (delF l x)
def Sorted (l : Files) : Prop := l.Pairwise fun p q => p.1 < q.1
def keysF (l : Files) : List Bytes := l.map Prod.fst

theorem lt_irr (x : Bytes) : ¬ x < x := List.lt_irrefl x
theorem lt_tr {x y z : Bytes} (h : x < y) (k : y < z) : x < z := List.lt_trans h k
theorem lt_of_not {x y : Bytes} (h : ¬ x < y) (hne : x ≠ y) : y < x := by
  have h1 : y ≤ x := List.not_lt.1 h
  rcases List.le_iff_lt_or_eq.1 h1 with h | h
  · exact h
  · exact absurd h.symm hne

theorem getF_none {l : Files} {x : Bytes} : getF l x = none ↔ ∀ p ∈ l, p.1 ≠ x := by
  induction l with
  | nil => simp [getF]
  | cons p r ih =>
    unfold getF
    by_cases h : p.1 = x
    · simp [h]
    · rw [if_neg h, ih]; simp [h]
theorem getF_mem {l : Files} {x : Bytes} {f : FileP} (h : getF l x = some f) : (x, f) ∈ l := by
  induction l with
  | nil => simp [getF] at h
  | cons p r ih =>
    unfold getF at h
    by_cases hp : p.1 = x
    · rw [if_pos hp] at h
      injection h with h
      subst h hp
      simp
    · rw [if_neg hp] at h
      exact List.mem_cons_of_mem _ (ih h)
theorem getF_of_mem {l : Files} (hs : Sorted l) {p : Bytes × FileP} (h : p ∈ l) : getF l p.1 = some p.2 := by
  induction l with
  | nil => simp at h
  | cons q r ih =>
    obtain ⟨h1, h2⟩ := List.pairwise_cons.1 hs
    unfold getF
    rcases List.mem_cons.1 h with rfl | hm
    · rw [if_pos rfl]
    · have : q.1 ≠ p.1 := fun e => by
        have := h1 p hm
        rw [e] at this
        exact lt_irr _ this
      rw [if_neg this]
      exact ih h2 hm
theorem getF_del (l : Files) (x y : Bytes) : getF (delF l x) y = if y = x then none else getF l y := by
  induction l with
  | nil => simp [delF, getF]
  | cons p r ih =>
    unfold delF at ih ⊢
    by_cases hp : p.1 = x
    · rw [List.filter_cons_of_neg (by simp [hp]), ih]
      by_cases hy : y = x
      · rw [if_pos hy, if_pos hy]
      · rw [if_neg hy, if_neg hy]
        rw [getF, if_neg (fun e => hy (e.symm.trans hp))]
    · rw [List.filter_cons_of_pos (by simp [hp]), getF, ih]
      by_cases hy : y = x
      · rw [if_pos hy, if_pos hy, if_neg (fun e => hp (e.trans hy))]
      · rw [if_neg hy, if_neg hy, getF]
theorem getF_ins {l : Files} {x : Bytes} (f : FileP) (hx : getF l x = none) (y : Bytes) : getF (insF x f l) y = if y = x then some f else getF l y := by
  induction l with
  | nil => simp only [insF, getF, eq_comm (a := x)]
  | cons p r ih =>
    have hp : p.1 ≠ x := getF_none.1 hx p (by simp)
    have hr : getF r x = none := getF_none.2 fun q hq => getF_none.1 hx q (by simp [hq])
    unfold insF
    by_cases h : p.1 < x
    · rw [if_pos h, getF, ih hr]
      by_cases hy : y = x
      · rw [if_pos hy, if_neg (fun e => hp (e.trans hy)), if_pos hy]
      · rw [if_neg hy, if_neg hy, getF]
    · rw [if_neg h]
      simp only [getF, eq_comm (a := x)]
theorem getF_put (l : Files) (x : Bytes) (f : FileP) (y : Bytes) : getF (putF l x f) y = if y = x then some f else getF l y := by
  unfold putF
  rw [getF_ins f (by rw [getF_del, if_pos rfl]), getF_del]
  split <;> rfl
theorem sorted_del {l : Files} (h : Sorted l) (x : Bytes) : Sorted (delF l x) := List.Pairwise.filter _ h
theorem mem_ins {x : Bytes} {f : FileP} {l : Files} {q : Bytes × FileP} : q ∈ insF x f l ↔ q = (x, f) ∨ q ∈ l := by
  induction l with
  | nil => simp [insF]
  | cons p r ih =>
    unfold insF
    split
    · simp only [List.mem_cons, ih]
      constructor
      · rintro (h | h | h) <;> simp [h]
      · rintro (h | h | h) <;> simp [h]
    · simp
theorem sorted_ins {l : Files} (h : Sorted l) {x : Bytes} (f : FileP) (hx : getF l x = none) : Sorted (insF x f l) := by
  induction l with
  | nil => simp [insF, Sorted]
  | cons p r ih =>
    obtain ⟨h1, h2⟩ := List.pairwise_cons.1 h
    have hp : p.1 ≠ x := getF_none.1 hx p (by simp)
    have hr : getF r x = none := getF_none.2 fun q hq => getF_none.1 hx q (by simp [hq])
    unfold insF
    by_cases hlt : p.1 < x
    · rw [if_pos hlt]
      refine List.pairwise_cons.2 ⟨fun q hq => ?_, ih h2 hr⟩
      rcases mem_ins.1 hq with rfl | hq
      · exact hlt
      · exact h1 q hq
    · rw [if_neg hlt]
      have hx' : x < p.1 := lt_of_not hlt hp
      refine List.pairwise_cons.2 ⟨fun q hq => ?_, h⟩
      rcases List.mem_cons.1 hq with rfl | hq
      · exact hx'
      · exact lt_tr hx' (h1 q hq)
theorem sorted_put {l : Files} (h : Sorted l) (x : Bytes) (f : FileP) : Sorted (putF l x f) := sorted_ins (sorted_del h x) f (by rw [getF_del, if_pos rfl])
/-- Two lists in order that tell the same are one. -/
theorem files_ext : ∀ {a b : Files}, Sorted a → Sorted b → (∀ x, getF a x = getF b x) → a = b
  | [], [], _, _, _ => rfl
  | [], q :: b, _, _, h => by have := h q.1; simp [getF] at this
  | p :: a, [], _, _, h => by have := h p.1; simp [getF] at this
  | p :: a, q :: b, ha, hb, h => by
    obtain ⟨a1, a2⟩ := List.pairwise_cons.1 ha
    obtain ⟨b1, b2⟩ := List.pairwise_cons.1 hb
    have e1 : p.1 = q.1 := by
      by_cases e : p.1 = q.1
      · exact e
      · exfalso
        have hp := h p.1
        rw [getF_of_mem ha (by simp : p ∈ p :: a)] at hp
        have hp2 := getF_mem hp.symm
        have hq := h q.1
        rw [getF_of_mem hb (by simp : q ∈ q :: b)] at hq
        have hq2 := getF_mem hq
        rcases List.mem_cons.1 hp2 with h1 | h1
        · exact e (by rw [← h1])
        · rcases List.mem_cons.1 hq2 with h2 | h2
          · exact e (by rw [← h2])
          · exact lt_irr _ (lt_tr (b1 _ h1) (a1 _ h2))
    have e2 : p.2 = q.2 := by
      have := h p.1
      rw [getF_of_mem ha (by simp : p ∈ p :: a), e1, getF_of_mem hb (by simp : q ∈ q :: b)] at this
      injection this
    have e3 : a = b := files_ext a2 b2 fun x => by
      by_cases hx : p.1 = x
      · have n1 : getF a x = none := getF_none.2 fun r hr e => by have := a1 r hr; rw [e, hx] at this; exact lt_irr _ this
        have n2 : getF b x = none := getF_none.2 fun r hr e => by have := b1 r hr; rw [e, ← hx, e1] at this; exact lt_irr _ this
        rw [n1, n2]
      · have := h x
        rw [getF, getF, if_neg hx, if_neg (fun e => hx (e1.trans e))] at this
        exact this
    rw [show p = q from Prod.ext e1 e2, e3]
theorem putF_same {l : Files} (h : Sorted l) {x : Bytes} {f : FileP} (hf : getF l x = some f) : putF l x f = l :=
  files_ext (sorted_put h x f) h fun y => by
    rw [getF_put]
    split
    · rename_i e; rw [e, hf]
    · rfl
theorem putF_put {l : Files} (h : Sorted l) (x : Bytes) (f g : FileP) : putF (putF l x f) x g = putF l x g :=
  files_ext (sorted_put (sorted_put h x f) x g) (sorted_put h x g) fun y => by
    rw [getF_put, getF_put, getF_put]
    split <;> rfl
theorem length_ins (x : Bytes) (f : FileP) (l : Files) : (insF x f l).length = l.length + 1 := by
  induction l with
  | nil => rfl
  | cons p r ih => unfold insF; split <;> simp [ih]
theorem delF_none {l : Files} {x : Bytes} (h : getF l x = none) : delF l x = l := by
  unfold delF
  exact List.filter_eq_self.2 fun p hp => by simpa using getF_none.1 h p hp
theorem length_del {l : Files} (h : Sorted l) {x : Bytes} (hx : getF l x ≠ none) : (delF l x).length + 1 = l.length := by
  induction l with
  | nil => simp [getF] at hx
  | cons p r ih =>
    obtain ⟨h1, h2⟩ := List.pairwise_cons.1 h
    by_cases hp : p.1 = x
    · have hr : getF r x = none := getF_none.2 fun q hq e => by have := h1 q hq; rw [hp, e] at this; exact lt_irr _ this
      have hd := delF_none hr
      unfold delF at hd ⊢
      rw [List.filter_cons_of_neg (by simp [hp]), hd]; rfl
    · rw [getF, if_neg hp] at hx
      have := ih h2 hx
      unfold delF at this ⊢
      rw [List.filter_cons_of_pos (by simp [hp])]
      simp only [List.length_cons]
      omega
theorem length_put {l : Files} (h : Sorted l) (x : Bytes) (f : FileP) : (putF l x f).length = if getF l x = none then l.length + 1 else l.length := by
  unfold putF
  rw [length_ins]
  split
  · rename_i hx; rw [delF_none hx]
  · rename_i hx; exact length_del h hx
theorem length_del_le (l : Files) (x : Bytes) : (delF l x).length ≤ l.length := List.length_filter_le _ _

/-- How many bytes stand. -/
def sumF : Files → Nat
  | [] => 0
  | p :: r => p.2.now.length + sumF r
theorem sumF_ins (x : Bytes) (f : FileP) (l : Files) : sumF (insF x f l) = f.now.length + sumF l := by
  induction l with
  | nil => rfl
  | cons p r ih =>
    unfold insF
    split
    · simp only [sumF, ih]; omega
    · simp only [sumF]
theorem sumF_del {l : Files} (h : Sorted l) {x : Bytes} {f : FileP} (hx : getF l x = some f) : sumF (delF l x) + f.now.length = sumF l := by
  induction l with
  | nil => simp [getF] at hx
  | cons p r ih =>
    obtain ⟨h1, h2⟩ := List.pairwise_cons.1 h
    by_cases hp : p.1 = x
    · have hr : getF r x = none := getF_none.2 fun q hq e => by have := h1 q hq; rw [hp, e] at this; exact lt_irr _ this
      have hd := delF_none hr
      rw [getF, if_pos hp] at hx
      injection hx with hx
      subst hx
      unfold delF at hd ⊢
      rw [List.filter_cons_of_neg (by simp [hp]), hd]
      simp only [sumF]; omega
    · rw [getF, if_neg hp] at hx
      have := ih h2 hx
      unfold delF at this ⊢
      rw [List.filter_cons_of_pos (by simp [hp])]
      simp only [sumF]
      omega
theorem sumF_put {l : Files} (h : Sorted l) (x : Bytes) (f : FileP) : sumF (putF l x f) + ((getF l x).getD file0).now.length = sumF l + f.now.length := by
  unfold putF
  rw [sumF_ins]
  cases hx : getF l x with
  | none => rw [delF_none hx]; simp [file0]; omega
  | some g => have := sumF_del h hx; simp only [Option.getD_some]; omega
theorem sumF_le (K : Nat) : ∀ l : Files, (∀ p ∈ l, p.2.now.length ≤ K) → sumF l ≤ K * l.length
  | [], _ => by simp [sumF]
  | p :: l, h => by
    have h1 := sumF_le K l (fun q hq => h q (by simp [hq]))
    have h2 := h p (by simp)
    simp only [sumF, List.length_cons, Nat.mul_succ]; omega
theorem sumF_mem {l : Files} {p : Bytes × FileP} (h : p ∈ l) : p.2.now.length ≤ sumF l := by
  induction l with
  | nil => simp at h
  | cons q r ih =>
    simp only [sumF]
    rcases List.mem_cons.1 h with rfl | h
    · omega
    · have := ih h; omega

/-! ### The store -/
structure StP where
  quota : Int
  used : Int
  files : Files
  armed : Bool
  down : Bool
  left : Int
def newS (q : Int) : StP := ⟨q, 0, [], false, false, 0⟩

/-- A part that no path may have. -/
def badF (p : Bytes) : Bool := decide (p = []) || decide (p = [46]) || decide (p = [46, 46])
/-- What stands between slashes. -/
def partsF : Bytes → List Bytes
  | [] => [[]]
  | a :: l => if a = 47 then [] :: partsF l else
    match partsF l with
    | [] => [[a]]
    | p :: r => (a :: p) :: r
def rightF (p : Bytes) : Bool := decide (p.length ≤ 255) && !p.contains 0 && !(partsF p).any badF
/-- Does q begin with p and a slash? -/
def underF (p q : Bytes) : Bool := (p ++ [47]).isPrefixOf q
def freeF (l : Files) (path but : Bytes) : Bool := !l.any fun p => decide (p.1 ≠ but) && (underF path p.1 || underF p.1 path)

def doneS (S : StP) : StP := if S.armed then { S with left := S.left - 1, down := decide (S.left - 1 ≤ 0) } else S
def writeS (S : StP) (path : Bytes) (at_ : Int) (b : Bytes) : StP × Int :=
  if S.down then (S, 8) else
  if !rightF path || decide (at_ < 0) then (S, 1) else
  if !freeF S.files path path then (S, 9) else
  if ((((getF S.files path).getD file0).now.length : Nat) : Int) < at_ then (S, 1) else
  if (decide (max 0 (at_ + (b.length : Int) - (((getF S.files path).getD file0).now.length : Nat)) > S.quota - S.used) && decide (max 0 (at_ + (b.length : Int) - (((getF S.files path).getD file0).now.length : Nat)) > 0)) || ((getF S.files path).isNone && decide (10000 ≤ S.files.length)) then (S, 7) else
  (doneS { S with used := S.used + max 0 (at_ + (b.length : Int) - (((getF S.files path).getD file0).now.length : Nat)), files := putF S.files path (doF ((getF S.files path).getD file0) ⟨at_.toNat, -1, b⟩) }, 0)
def cutS (S : StP) (path : Bytes) (n : Int) : StP × Int :=
  if S.down then (S, 8) else
  match getF S.files path with
  | none => (S, 6)
  | some f =>
    if n < 0 ∨ (f.now.length : Int) < n then (S, 1) else
    (doneS { S with used := S.used - ((f.now.length : Int) - n), files := putF S.files path (doF f ⟨0, n, []⟩) }, 0)
def syncS (S : StP) (path : Bytes) : StP × Int :=
  if S.down then (S, 8) else
  match getF S.files path with
  | none => (S, 6)
  | some f => (doneS { S with files := putF S.files path (syncF f) }, 0)
def renameS (S : StP) (src to : Bytes) : StP × Int :=
  if S.down then (S, 8) else
  match getF S.files src with
  | none => (S, 6)
  | some f =>
    if !rightF to then (S, 1) else
    if !freeF S.files to src then (S, 9) else
    (doneS { S with used := S.used - (if to = src then 0 else ((((getF S.files to).getD file0).now.length : Nat) : Int)), files := putF (delF S.files src) to f }, 0)
def removeS (S : StP) (path : Bytes) : StP × Int :=
  if S.down then (S, 8) else
  match getF S.files path with
  | none => (S, 6)
  | some f => (doneS { S with used := S.used - (f.now.length : Int), files := delF S.files path }, 0)
def armS (S : StP) (n : Int) : StP := if S.down then S else { S with armed := true, left := max n 0, down := decide (n ≤ 0) }
/-- How many changes of the file at place i a crash keeps. -/
def keepK (keep : List Int) (i : Nat) (f : FileP) : Nat := if i < keep.length then min (max keep[i]! 0).toNat f.since.length else 0
def crashL (keep : List Int) : Nat → Files → Files
  | _, [] => []
  | i, p :: r => (p.1, crashF p.2 (keepK keep i p.2)) :: crashL keep (i + 1) r
def crashS (S : StP) (keep : List Int) : StP := { S with used := (sumF (crashL keep 0 S.files) : Nat), files := crashL keep 0 S.files, armed := false, down := false }
def listS (S : StP) (under : Bytes) : List Bytes := (keysF S.files).filter fun p => under.isPrefixOf p

/-- What holds of a store that calls have made: Z bounds all sizes. -/
structure OkS (Z : Nat) (S : StP) : Prop where
  sorted : Sorted S.files
  used : S.used = (sumF S.files : Nat)
  quota : -9223372036854775808 ≤ S.quota ∧ S.quota ≤ 9223372036854775807
  neg : S.quota < 0 → S.used = 0
  few : S.files.length ≤ 10000
  left : 0 ≤ S.left ∧ S.left ≤ 9223372036854775807 ∧ (S.armed = true → S.down = false → 1 ≤ S.left)
  ok : ∀ p ∈ S.files, p.2.ok ∧ p.1.length ≤ 255 ∧ p.2.now.length ≤ Z ∧ p.2.kept.length ≤ Z ∧ p.2.since.length ≤ Z
  big : ∀ p ∈ S.files, ∀ k, (runs p.2.kept (p.2.since.take k)).length ≤ Z
end Go.Proofs.YtponfkfeflnilaaGreatDoor
