/-
  Plain: what is saved into a store by way of a second file; where the power goes.
  (*Store) with marks: Load and Save.
  MarksFiles: saved and loaded, through a crash: the walk.
-/
import Derived.Test.YtnlkanhakmkejaaDoorStOk
import Derived.Test.YtnlkanhakmkejaaDoorStKnown
import Derived.Test.YtnlkanhakmkejaaDoorStWrite2
import Derived.Test.YtnlkanhakmkejaaDoorStCrash2
import Derived.Test.YtnlkanhakmkejaaDoorPar24
import Derived.Test.YtnlkanhakmkejaaDoorPr24
import Derived.Test.YtnlkanhakmkejaaDoorStrOps
import Derived.Tactics
import Derived.Tactics2
import Derived.Test.YtnlkanhakmkejaaDoorAdd24
namespace Go.Proofs.YtnlkanhakmkejaaDoor

def tmpF (path : Bytes) : Bytes := path ++ [46, 116, 109, 112]
/-- What is done where that was. -/
def andS (r : StP × Int) (f : StP → StP × Int) : StP × Int := if r.2 = 0 then f r.1 else r
theorem andS_ok (S : StP) (f : StP → StP × Int) : andS (S, 0) f = f S := if_pos rfl
theorem andS_no (S : StP) {n : Int} (h : n ≠ 0) (f : StP → StP × Int) : andS (S, n) f = (S, n) := if_neg h
/-- Save: write aside, cut, sync, rename. -/
def saveS (S : StP) (path : Bytes) (b : Bytes) : StP × Int :=
  andS (writeS S (tmpF path) 0 b) fun S1 => andS (cutS S1 (tmpF path) b.length) fun S2 => andS (syncS S2 (tmpF path)) fun S3 => renameS S3 (tmpF path) path
def pM : Bytes := [120, 47, 109]
def pT : Bytes := [120, 47, 109, 46, 116, 109, 112]
theorem tmp_pM : tmpF pM = pT := rfl
/-- Nothing, or the file alone. -/
def oneF (o : Option Bytes) : Files := match o with | none => [] | some a => [(pM, ⟨a, a, []⟩)]
def lenO (o : Option Bytes) : Int := match o with | none => 0 | some a => (a.length : Int)
theorem right_pT : rightF pT = true := by decide
theorem right_pM : rightF pM = true := by decide
theorem free_pT (o : Option Bytes) : freeF (oneF o) pT pT = true := by cases o <;> rfl
theorem get_pT (o : Option Bytes) : getF (oneF o) pT = none := by
  cases o with
  | none => rfl
  | some a => unfold oneF; rw [getF, if_neg (show ¬ pM = pT by decide)]; rfl
theorem put_pT (o : Option Bytes) (f : FileP) : putF (oneF o) pT f = oneF o ++ [(pT, f)] := by
  unfold putF
  rw [delF_none (get_pT o)]
  cases o with
  | none => rfl
  | some a => show insF pT f [(pM, _)] = _; rw [insF, if_pos (show pM < pT by decide)]; rfl
theorem two_sorted (o : Option Bytes) (f : FileP) : Sorted (oneF o ++ [(pT, f)]) := by
  cases o with
  | none => exact List.pairwise_singleton _ _
  | some a =>
    show Sorted [(pM, _), (pT, f)]
    refine List.pairwise_cons.2 ⟨fun q hq => ?_, List.pairwise_singleton _ _⟩
    rw [List.mem_singleton] at hq
    subst hq
    show pM < pT
    decide
theorem get_two (o : Option Bytes) (f : FileP) : getF (oneF o ++ [(pT, f)]) pT = some f := getF_of_mem (two_sorted o f) (p := (pT, f)) (by simp)
theorem put_two (o : Option Bytes) (f f' : FileP) : putF (oneF o ++ [(pT, f)]) pT f' = oneF o ++ [(pT, f')] :=
  files_ext (sorted_put (two_sorted o f) pT f') (two_sorted o f') fun x => by
    rw [getF_put]
    by_cases hx : x = pT
    · rw [if_pos hx, hx, get_two]
    · rw [if_neg hx]
      have h : ∀ g : FileP, getF (oneF o ++ [(pT, g)]) x = getF (oneF o) x := fun g => by
        cases o with
        | none => show getF [(pT, g)] x = _; rw [getF, if_neg (fun e => hx e.symm)]; rfl
        | some a =>
          show getF [(pM, _), (pT, g)] x = getF [(pM, _)] x
          rw [getF, getF, getF, getF]
          split
          · rfl
          · rw [if_neg (fun e => hx e.symm)]; rfl
      rw [h, h]
theorem move_two (o : Option Bytes) (f : FileP) : putF (delF (oneF o ++ [(pT, f)]) pT) pM f = [(pM, f)] := by
  cases o with
  | none => rfl
  | some a => rfl
theorem free_two (o : Option Bytes) (f : FileP) : freeF (oneF o ++ [(pT, f)]) pM pT = true := by cases o <;> rfl

/-! ### A change each -/
/-- The store with these files, armed so. -/
def stM (u : Int) (l : Files) (ar : Bool) (lf : Int) : StP := ⟨1048576, u, l, ar, false, lf⟩
theorem write_M (o : Option Bytes) (u : Int) (hu : 0 ≤ u ∧ u ≤ 5000) (ar : Bool) (lf : Int) (b : Bytes) (hb : b.length ≤ 5000) :
    writeS (stM u (oneF o) ar lf) pT 0 b = (doneS (stM (u + b.length) (oneF o ++ [(pT, doF file0 ⟨0, -1, b⟩)]) ar lf), 0) := by
  unfold writeS stM
  simp only [Bool.false_eq_true, if_false, right_pT, free_pT, get_pT, Option.getD_none, Bool.not_true, Option.isNone_none, Bool.true_and]
  have hl : (oneF o).length ≤ 1 := by cases o <;> simp [oneF]
  have e0 : (file0.now.length : Int) = 0 := rfl
  rw [put_pT, e0]
  have e1 : max 0 ((0 : Int) + (b.length : Int) - 0) = (b.length : Int) := by omega
  rw [e1, decide_eq_false (by omega : ¬ (b.length : Int) > 1048576 - u), decide_eq_false (by omega : ¬ 10000 ≤ (oneF o).length)]
  rfl
theorem cut_M (o : Option Bytes) (u : Int) (ar : Bool) (lf : Int) (f : FileP) :
    cutS (stM u (oneF o ++ [(pT, f)]) ar lf) pT (f.now.length : Int) = (doneS (stM (u - ((f.now.length : Int) - f.now.length)) (oneF o ++ [(pT, doF f ⟨0, f.now.length, []⟩)]) ar lf), 0) := by
  unfold cutS stM
  simp only [Bool.false_eq_true, if_false, get_two]
  rw [if_neg (by omega), put_two]
theorem sync_M (o : Option Bytes) (u : Int) (ar : Bool) (lf : Int) (f : FileP) :
    syncS (stM u (oneF o ++ [(pT, f)]) ar lf) pT = (doneS (stM u (oneF o ++ [(pT, syncF f)]) ar lf), 0) := by
  unfold syncS stM
  simp only [Bool.false_eq_true, if_false, get_two]
  rw [put_two]
theorem rename_M (o : Option Bytes) (u : Int) (ar : Bool) (lf : Int) (f : FileP) :
    ∃ u', renameS (stM u (oneF o ++ [(pT, f)]) ar lf) pT pM = (doneS (stM u' [(pM, f)] ar lf), 0) := by
  unfold renameS stM
  simp only [Bool.false_eq_true, if_false, get_two, right_pM, free_two, Bool.not_true]
  rw [move_two]
  exact ⟨_, rfl⟩
/-- No power: nothing is changed. -/
theorem down_cut (S : StP) (h : S.down = true) (path : Bytes) (n : Int) : cutS S path n = (S, 8) := by unfold cutS; rw [if_pos h]
theorem down_sync (S : StP) (h : S.down = true) (path : Bytes) : syncS S path = (S, 8) := by unfold syncS; rw [if_pos h]
theorem down_rename (S : StP) (h : S.down = true) (a b : Bytes) : renameS S a b = (S, 8) := by unfold renameS; rw [if_pos h]
theorem done_plain (u : Int) (l : Files) (lf : Int) : doneS (stM u l false lf) = stM u l false lf := rfl
theorem done_more (u : Int) (l : Files) (lf : Int) (h : 1 < lf) : doneS (stM u l true lf) = stM u l true (lf - 1) := by
  unfold doneS stM
  rw [if_pos rfl]
  simp only [StP.mk.injEq, true_and]
  exact ⟨decide_eq_false (by omega), trivial⟩
theorem done_last (u : Int) (l : Files) : doneS (stM u l true 1) = ⟨1048576, u, l, true, true, 0⟩ := rfl

/-! ### Save -/
def f1M (b : Bytes) : FileP := doF file0 ⟨0, -1, b⟩
def f2M (b : Bytes) : FileP := doF (f1M b) ⟨0, (f1M b).now.length, []⟩
theorem f1_now (b : Bytes) : (f1M b).now = b := by unfold f1M doF Chg.on file0; simp
theorem f2_now (b : Bytes) : (f2M b).now = b := by
  show Chg.on ⟨0, (f1M b).now.length, []⟩ (f1M b).now = b
  rw [f1_now]
  unfold Chg.on
  rw [if_pos (show (0 : Int) ≤ (b.length : Int) by omega)]
  show b.take (b.length : Int).toNat = b
  rw [Int.toNat_natCast, List.take_length]
theorem f3_eq (b : Bytes) : syncF (f2M b) = ⟨b, b, []⟩ := by unfold syncF; rw [f2_now]
theorem cut_N (o : Option Bytes) (u : Int) (ar : Bool) (lf : Int) (b : Bytes) : cutS (stM u (oneF o ++ [(pT, f1M b)]) ar lf) pT (b.length : Int) = (doneS (stM u (oneF o ++ [(pT, f2M b)]) ar lf), 0) := by
  have h := cut_M o u ar lf (f1M b)
  rw [f1_now] at h
  rw [h, Int.sub_self, Int.sub_zero]
  unfold f2M
  rw [f1_now]
theorem save_plain (o : Option Bytes) (u : Int) (hu : 0 ≤ u ∧ u ≤ 5000) (lf : Int) (b : Bytes) (hb : b.length ≤ 5000) :
    ∃ u', saveS (stM u (oneF o) false lf) pM b = (stM u' [(pM, ⟨b, b, []⟩)] false lf, 0) := by
  obtain ⟨u', h⟩ := rename_M o (u + b.length) false lf (syncF (f2M b))
  refine ⟨u', ?_⟩
  have hw : writeS (stM u (oneF o) false lf) pT 0 b = (stM (u + b.length) (oneF o ++ [(pT, f1M b)]) false lf, 0) := write_M o u hu false lf b hb
  unfold saveS
  rw [tmp_pM, hw, andS_ok, cut_N, done_plain, andS_ok, sync_M, done_plain, andS_ok, h, done_plain, f3_eq]
/-- Where the power goes: those of before, or these. -/
theorem save_armed (o : Option Bytes) (u : Int) (hu : 0 ≤ u ∧ u ≤ 5000) (c : Int) (hc : 1 ≤ c ∧ c ≤ 6) (b : Bytes) (hb : b.length ≤ 5000) :
    ((saveS (stM u (oneF o) true c) pM b).2 = 8 ∧ ∃ f, (saveS (stM u (oneF o) true c) pM b).1.files = oneF o ++ [(pT, f)]) ∨ ((saveS (stM u (oneF o) true c) pM b).2 = 0 ∧ (saveS (stM u (oneF o) true c) pM b).1.files = [(pM, ⟨b, b, []⟩)]) := by
  have hw : writeS (stM u (oneF o) true c) pT 0 b = (doneS (stM (u + b.length) (oneF o ++ [(pT, f1M b)]) true c), 0) := write_M o u hu true c b hb
  unfold saveS
  rw [tmp_pM, hw, andS_ok]
  by_cases c1 : c = 1
  · subst c1
    rw [done_last, down_cut _ rfl, andS_no _ (by decide)]
    exact .inl ⟨rfl, _, rfl⟩
  rw [done_more _ _ _ (by omega), cut_N, andS_ok]
  by_cases c2 : c = 2
  · subst c2
    rw [show (2 : Int) - 1 = 1 from rfl, done_last, down_sync _ rfl, andS_no _ (by decide)]
    exact .inl ⟨rfl, _, rfl⟩
  rw [done_more _ _ _ (by omega), sync_M, andS_ok]
  by_cases c3 : c = 3
  · subst c3
    rw [show (3 : Int) - 1 - 1 = 1 from rfl, done_last, down_rename _ rfl]
    exact .inl ⟨rfl, _, rfl⟩
  rw [done_more _ _ _ (by omega)]
  obtain ⟨u', h⟩ := rename_M o (u + b.length) true (c - 1 - 1 - 1) (syncF (f2M b))
  rw [h, f3_eq]
  refine .inr ⟨rfl, ?_⟩
  show (doneS _).files = _
  unfold doneS
  split <;> rfl
theorem crash_keep (o : Option Bytes) (K : List Int) (f : FileP) : getF (crashL K 0 (oneF o ++ [(pT, f)])) pM = o.map fun a => ⟨a, a, []⟩ := by
  cases o with
  | none => rfl
  | some a =>
    show getF ((pM, crashF ⟨a, a, []⟩ _) :: _) pM = _
    rw [getF, if_pos rfl]
    unfold crashF
    simp [runs]
theorem crash_new (K : List Int) (b : Bytes) : getF (crashL K 0 [(pM, ⟨b, b, []⟩)]) pM = some ⟨b, b, []⟩ := crash_keep (some b) K ⟨[], [], []⟩ |> fun h => by
  show getF ((pM, crashF ⟨b, b, []⟩ _) :: _) pM = _
  rw [getF, if_pos rfl]
  unfold crashF
  simp [runs]
end Go.Proofs.YtnlkanhakmkejaaDoor
namespace Go.Proofs.YtnlkanhakmkejaaDoor
open Go.RowKit Go.Mix Go.WideMaps Go.Maps

/-- What a file holds; of none: nothing. -/
def nowO (l : Files) (x : Bytes) : Bytes := ((getF l x).map FileP.now).getD []
theorem ReadIs.now {l : Files} {path : Bytes} {w w' : World} {e : Ending} (h : ReadIs l path w e w') : ∃ a c x, e = .returned (.tuple #[.slice a (nowO l path).length c, .int .i64 x]) ∧ Sl w' a c (nowO l path) ∧ Below w.heap.size w w' := by
  obtain ⟨h1, h2, hb⟩ := h
  unfold nowO
  cases hx : getF l path with
  | none => exact ⟨none, 0, 6, h2 hx, ⟨.inl rfl, Nat.le_refl _, by decide, fun _ => rfl⟩, hb⟩
  | some f =>
    obtain ⟨v, e1, b⟩ := h1 f hx
    obtain ⟨a, c, rfl, hs⟩ := b.1.sl
    exact ⟨a, c, 0, e1, hs, hb⟩
theorem OkS.now_len {Z : Nat} {S : StP} (h : OkS Z S) (x : Bytes) : (nowO S.files x).length ≤ Z := by
  unfold nowO
  cases hx : getF S.files x with
  | none => exact Nat.zero_le _
  | some f => exact (h.ok _ (getF_mem hx)).2.2.1

set_option maxRecDepth 100000 in
set_option maxHeartbeats 1000000 in
theorem load_at {own : Owns} {w : World} {p Z : Nat} {S : StP} (h : StoreAt own w p S) (ok : OkS Z S) (hZ : Z ≤ 1000000) (path : Bytes) (hp : path.length ≤ 100000) :
    Calls Tryd.prog 10 #[ptr p, .string (strOf path)] w fun e w' => ∃ a c, e = .returned (.tuple #[.slice a (parseO (nowO S.files path)).1.length c, .int .i64 (parseO (nowO S.files path)).2]) ∧ PsAt w' a c (parseO (nowO S.files path)).1 ∧ (∀ x, a = some x → w.heap.size ≤ x.block) ∧ Below w.heap.size w w' := by
  have C1 := read_at h ok (by omega) path hp
  have HL := Lib.hid (Nat.le_trans (ok.now_len path) hZ)
  clear h ok hZ
  go_enter Tryd.func10, Tryd.ntmps10
  go_wp2_with fail
  refine C1.mono ?_
  clear C1
  rintro e w1 hr
  obtain ⟨a, c, x, rfl, hs, hb⟩ := hr.now
  have C2 := parse_any hs HL.out
  have HB := Lib.hid hb
  obtain ⟨nb, hnb⟩ : ∃ n, n = (nowO S.files path).length := ⟨_, rfl⟩
  rw [← hnb] at C2 ⊢
  obtain ⟨R, hR⟩ : ∃ R, R = parseO (nowO S.files path) := ⟨_, rfl⟩
  rw [← hR] at C2
  have HR := Lib.hid hR
  clear hr hs hb hnb hR HL
  go_wp2_with fail
  refine C2.mono ?_
  clear C2
  rintro e w2 ⟨v, rfl, ho⟩
  obtain ⟨a2, c2, rfl, hp2⟩ := ho.ps
  have H2 := Lib.hid (And.intro hp2 (And.intro (fun (x : Addr) (hx : a2 = some x) => Nat.le_trans HB.out.size (ho.block x.block (by rw [hx]; rfl)).1) (HB.out.trans (ho.frame.mono HB.out.size))))
  clear ho hp2
  go_wp2_with fail
  go_ret2
  rw [← HR.out]
  exact ⟨a2, c2, rfl, H2.out⟩

set_option maxRecDepth 100000 in
set_option maxHeartbeats 4000000 in
theorem save_at {own : Owns} {w : World} {p Z : Nat} {S : StP} (h : StoreAt own w p S) (ok : OkS Z S) (hZ : Z ≤ 1000000) (path : Bytes) (hp : path.length ≤ 10000) {l : List Pr} {a : Option Addr} {c : Nat} (hg : PsAt w a c l) (hl : l.length ≤ 1000) :
    Calls Tryd.prog 6 #[ptr p, .string (strOf path), .slice a l.length c] w fun e w' => (Rt l → Left own w p (saveS S path (textL l)) e w') ∧ (¬ Rt l → e = .returned (.int .i64 9) ∧ Below w.heap.size w w') := by
  have C1 := print_any hg (by omega)
  obtain ⟨n, hn⟩ : ∃ n, n = l.length := ⟨_, rfl⟩
  have HN := Lib.hid hn
  rw [← hn] at C1 ⊢
  have HH := Lib.hid (And.intro h (And.intro ok hZ))
  clear h ok hZ hg hn
  go_enter Tryd.func6, Tryd.ntmps6
  go_wp2_with fail
  refine C1.mono ?_
  clear C1
  rintro e w1 ⟨hyes, hno, hb1⟩
  by_cases hR : Rt l
  case neg =>
    obtain rfl := hno hR
    have HB := Lib.hid hb1
    clear hyes hno hb1
    go_wp2_with fail
    go_ret
    exact ⟨fun h => absurd h hR, fun _ => ⟨rfl, HB.out⟩⟩
  obtain ⟨b, c1, rfl, hs1, hnew⟩ := hyes hR
  obtain ⟨L, hL⟩ : ∃ L, L = textL l := ⟨_, rfl⟩
  have hlen : 82 * n = L.length := by rw [hL, textL_len, HN.out]
  obtain ⟨T, hT⟩ : ∃ T, T = tmpF path := ⟨_, rfl⟩
  have hTl : T.length ≤ 100000 := by rw [hT]; unfold tmpF; simp; omega
  obtain ⟨nb, hnb⟩ : ∃ nb, nb = 82 * n := ⟨_, rfl⟩
  rw [← hnb] at hlen ⊢
  have hnbl : nb ≤ 82000 := by rw [hnb, HN.out]; omega
  rw [← hL] at hs1
  have h1 := HH.out.1.below hb1
  have CW := write_at2 h1 HH.out.2.1 (by have := HH.out.2.2; omega) T hTl 0 ⟨by decide, by decide⟩ (nb := nb) hs1 hlen (by omega) (fun _ x hx => by
    cases ho : own x.block with
    | none => rfl
    | some t => exact absurd (HH.out.1.lt x.block (by rw [ho]; simp)) (by have := hnew x hx; omega))
  have okW := HH.out.2.1.write T 0 L
  obtain ⟨S1, n1, e1⟩ : ∃ S1 n1, writeS S T 0 L = (S1, n1) := ⟨_, _, rfl⟩
  rw [e1] at CW okW
  have A1 : ∀ W, (Op.stringOp .add (strOf path) ⟨#[46, 116, 109, 112]⟩).run Tryd.prog W = .ok (.string (strOf T)) W := fun W => by
    rw [hT]
    exact Go.run_string_add_lists (P := Tryd.prog) W path [46, 116, 109, 112] (by omega) (by decide)
  have HT1 := Lib.hid (Turn.below (T := Any) hb1 HH.out.1.lt)
  have HE := Lib.hid (And.intro hL (And.intro hT (And.intro e1 (And.intro okW (And.intro hlen hnbl)))))
  clear hyes hno hb1 hs1 hnew hL hlen hT h1 okW e1 hnb
  go_wp2_with fail
  refine CW.mono ?_
  clear CW
  rintro e w2 ⟨rfl, own2, h2, t2⟩
  have H2 := Lib.hid (And.intro h2 (HT1.out.trans t2))
  clear h2 t2
  by_cases hn1 : n1 = 0
  case neg =>
    have t1 : (n1 != 0) = true := by simpa using hn1
    go_wp2_with fail
    go_ret
    refine ⟨fun _ => ?_, fun h => absurd hR h⟩
    have hq : saveS S path (textL l) = (S1, n1) := by unfold saveS; rw [← HE.out.2.1, ← HE.out.1, HE.out.2.2.1, andS_no _ hn1]
    rw [hq]
    exact ⟨rfl, own2, H2.out⟩
  subst hn1
  have CC := cut_at H2.out.1 HE.out.2.2.2.1 (by have h1 := HE.out.2.2.2.2; have h2 := HH.out.2.2; omega) T hTl (nb : Int) ⟨by omega, by omega⟩
  have okC := HE.out.2.2.2.1.cut T (nb : Int)
  obtain ⟨S2, n2, e2⟩ : ∃ S2 n2, cutS S1 T (nb : Int) = (S2, n2) := ⟨_, _, rfl⟩
  rw [e2] at CC okC
  have HE2 := Lib.hid (And.intro e2 okC)
  clear e2 okC A1
  go_wp2_with fail
  refine CC.mono ?_
  clear CC
  rintro e w3 ⟨rfl, own3, h3, t3⟩
  have H3 := Lib.hid (And.intro h3 (H2.out.2.trans t3))
  clear h3 t3
  have hs1 : saveS S path (textL l) = andS (S2, n2) fun S2 => andS (syncS S2 T) fun S3 => renameS S3 T path := by
    unfold saveS
    rw [← HE.out.2.1, ← HE.out.1, HE.out.2.2.1, andS_ok, ← HE.out.2.2.2.2.1, HE2.out.1]
  have HS1 := Lib.hid hs1
  clear hs1
  by_cases hn2 : n2 = 0
  case neg =>
    have t1 : (n2 != 0) = true := by simpa using hn2
    go_wp2_with fail
    go_ret
    refine ⟨fun _ => ?_, fun h => absurd hR h⟩
    rw [HS1.out, andS_no _ hn2]
    exact ⟨rfl, own3, H3.out⟩
  subst hn2
  have CS := sync_at H3.out.1 HE2.out.2 T hTl
  have okY := HE2.out.2.sync T
  obtain ⟨S3, n3, e3⟩ : ∃ S3 n3, syncS S2 T = (S3, n3) := ⟨_, _, rfl⟩
  rw [e3] at CS okY
  have HE3 := Lib.hid (And.intro e3 okY)
  clear e3 okY
  go_wp2_with fail
  refine CS.mono ?_
  clear CS
  rintro e w4 ⟨rfl, own4, h4, t4⟩
  have H4 := Lib.hid (And.intro h4 (H3.out.2.trans t4))
  clear h4 t4
  by_cases hn3 : n3 = 0
  case neg =>
    have t1 : (n3 != 0) = true := by simpa using hn3
    go_wp2_with fail
    go_ret
    refine ⟨fun _ => ?_, fun h => absurd hR h⟩
    rw [HS1.out, andS_ok, HE3.out.1, andS_no _ hn3]
    exact ⟨rfl, own4, H4.out⟩
  subst hn3
  have CR := rename_at H4.out.1 HE3.out.2 (by have h1 := HE.out.2.2.2.2; have h2 := HH.out.2.2; omega) T path hTl (by omega)
  go_wp2_with fail
  refine CR.mono ?_
  clear CR
  rintro e w5 ⟨rfl, own5, h5, t5⟩
  have H5 := Lib.hid (And.intro h5 (H4.out.2.trans t5))
  clear h5 t5
  go_wp2_with fail
  go_ret
  refine ⟨fun _ => ?_, fun h => absurd hR h⟩
  rw [HS1.out, andS_ok, HE3.out.1, andS_ok]
  exact ⟨rfl, own5, H5.out⟩
end Go.Proofs.YtnlkanhakmkejaaDoor
namespace Go.Proofs.YtnlkanhakmkejaaDoor
open Go.RowKit Go.Mix Go.WideMaps Go.Maps

/-! ### Plain -/
theorem quota_done (S : StP) : (doneS S).quota = S.quota := by unfold doneS; split <;> rfl
theorem quota_write (S : StP) (p : Bytes) (a : Int) (b : Bytes) : (writeS S p a b).1.quota = S.quota := by
  unfold writeS
  repeat' split
  all_goals first | rfl | rw [quota_done]
theorem quota_cut (S : StP) (p : Bytes) (n : Int) : (cutS S p n).1.quota = S.quota := by
  unfold cutS
  repeat' split
  all_goals first | rfl | rw [quota_done]
theorem quota_sync (S : StP) (p : Bytes) : (syncS S p).1.quota = S.quota := by
  unfold syncS
  repeat' split
  all_goals first | rfl | rw [quota_done]
theorem quota_rename (S : StP) (p q : Bytes) : (renameS S p q).1.quota = S.quota := by
  unfold renameS
  repeat' split
  all_goals first | rfl | rw [quota_done]
theorem and_step {P Q : StP → Prop} {r : StP × Int} {f : StP → StP × Int} (h : P r.1) (hf : ∀ S, P S → Q (f S).1) (hpq : ∀ S, P S → Q S) : Q (andS r f).1 := by
  unfold andS
  split
  · exact hf _ h
  · exact hpq _ h
theorem OkS.save {Z : Nat} {S : StP} (h : OkS Z S) (path b : Bytes) : OkS (Z + b.length + 2) (saveS S path b).1 := by
  unfold saveS
  refine and_step (P := OkS (Z + b.length + 1)) (h.write (tmpF path) 0 b) (fun S1 h1 => ?_) (fun S1 h1 => h1.mono (by omega))
  refine and_step (P := OkS (Z + b.length + 2)) (h1.cut _ _) (fun S2 h2 => ?_) (fun S2 h2 => h2)
  exact and_step (P := OkS (Z + b.length + 2)) (h2.sync _) (fun S3 h3 => h3.rename _ _) (fun S3 h3 => h3)
theorem quota_save (S : StP) (path b : Bytes) : (saveS S path b).1.quota = S.quota := by
  unfold saveS
  refine and_step (P := fun T => T.quota = S.quota) (quota_write _ _ _ _) (fun S1 h1 => ?_) (fun _ h => h)
  refine and_step (P := fun T => T.quota = S.quota) ((quota_cut _ _ _).trans h1) (fun S2 h2 => ?_) (fun _ h => h)
  exact and_step (P := fun T => T.quota = S.quota) ((quota_sync _ _).trans h2) (fun S3 h3 => (quota_rename _ _ _).trans h3) (fun _ h => h)
theorem now_one (o : Option Bytes) : nowO (oneF o) pM = o.getD [] := by
  cases o with
  | none => rfl
  | some a => unfold nowO oneF; rw [getF, if_pos rfl]; rfl
theorem now_crash (o : Option Bytes) (K : List Int) (S : StP) (h : S.files = oneF o) : nowO (crashS S K).files pM = o.getD [] := by
  show nowO (crashL K 0 S.files) pM = _
  rw [h]
  cases o with
  | none => rfl
  | some a => unfold nowO; rw [show oneF (some a) = [(pM, ⟨a, a, []⟩)] from rfl, crash_new]; rfl
theorem now_crash2 (o : Option Bytes) (K : List Int) (S : StP) (f : FileP) (h : S.files = oneF o ++ [(pT, f)]) : nowO (crashS S K).files pM = o.getD [] := by
  show nowO (crashL K 0 S.files) pM = _
  rw [h]
  unfold nowO
  rw [crash_keep]
  cases o <;> rfl
theorem arm_M (u : Int) (l : Files) (lf c : Int) (hc : 1 ≤ c) : armS (stM u l false lf) c = stM u l true c := by
  unfold armS stM
  simp only [Bool.false_eq_true, if_false]
  rw [decide_eq_false (by omega), show max c 0 = c by omega]
theorem parse_nil : parseO [] = ([], 0) := (parseO_text (s := []) (l := []) rfl).1 (fun _ _ _ h => absurd h (Nat.not_lt_zero _))

/-! ### Pairs that no store has -/
theorem PsAt.rs {w : World} {a : Option Addr} {c : Nat} {l : List Pr} (h : PsAt w a c l) : RsAt enc 40 w a c l := ⟨h.le, h.big, h.non, h.cells⟩
theorem RsAt.ps {w : World} {a : Option Addr} {c : Nat} {l : List Pr} (h : RsAt enc 40 w a c l) : PsAt w a c l := ⟨h.le, h.big, h.non, h.cells⟩
structure PsO (own : Owns) (w : World) (a : Option Addr) (c : Nat) (l : List Pr) : Prop where
  ps : PsAt w a c l
  no : l ≠ [] → ∀ x, a = some x → own x.block = none ∧ x.block < w.heap.size
theorem PsAt.blk {w : World} {a : Option Addr} {c : Nat} {l : List Pr} (h : PsAt w a c l) (hl : l ≠ []) : ∀ x, a = some x → x.block < w.heap.size := fun x hx => by
  rcases h.cells with h | ⟨b, o, e, hc⟩
  · exact absurd h hl
  · rw [e] at hx
    injection hx with hx
    subst hx
    exact lt_of_cell (hc 0 (List.length_pos_iff.2 hl) 0 _ (List.getElem?_eq_getElem (by rw [enc_len]; omega)))
section
variable {own own' : Owns} {w w' : World} {a : Option Addr} {c p : Nat} {l : List Pr} {S : StP}
theorem PsO.turn (h : PsO own w a c l) (g : Turn Any own own' w w') : PsO own' w' a c l :=
  ⟨(rs_foreign2 h.ps.rs g (fun h => h rfl) (fun hl x hx => (h.no hl x hx).1)).ps, fun hl x hx => by
    obtain ⟨h1, h2⟩ := h.no hl x hx
    exact ⟨by rw [g.ow.old _ h2]; exact h1, Nat.lt_of_lt_of_le h2 g.frame.size⟩⟩
theorem PsO.below (h : PsO own w a c l) (g : Below w.heap.size w w') : PsO own w' a c l :=
  ⟨h.ps.below g, fun hl x hx => ⟨(h.no hl x hx).1, Nat.lt_of_lt_of_le (h.no hl x hx).2 g.size⟩⟩
theorem PsO.made (hs : StoreAt own w p S) (h : PsAt w' a c l) (hn : ∀ x, a = some x → w.heap.size ≤ x.block) : PsO own w' a c l :=
  ⟨h, fun hl x hx => ⟨hs.none_new (hn x hx), h.blk hl x hx⟩⟩
end

theorem u64_mod (n : Int) (K : Nat) (h0 : 0 < K) (h1 : K ≤ 9223372036854775807) : ∃ m : Nat, m < K ∧ wrap64 ((IntKind.u64.wrap n).tmod K) = (m : Int) := by
  have hw : IntKind.u64.wrap n = n % 18446744073709551616 := IntKind.wrap_u64 n
  have h2 : 0 ≤ IntKind.u64.wrap n := by rw [hw]; omega
  refine ⟨((IntKind.u64.wrap n).tmod K).toNat, ?_, ?_⟩
  · have := Int.tmod_lt_of_pos (IntKind.u64.wrap n) (b := (K : Int)) (by omega)
    have h3 := Int.tmod_nonneg (K : Int) h2
    omega
  · have := Int.tmod_lt_of_pos (IntKind.u64.wrap n) (b := (K : Int)) (by omega)
    have h3 := Int.tmod_nonneg (K : Int) h2
    unfold wrap64
    omega
theorem addr_plain {w : World} {y : Addr} {v : Value} (h : w.cell? y = some v) : ∃ b o, y = ⟨b, o, none⟩ := by
  obtain ⟨yb, yo, ys⟩ := y
  simp only [World.cell?] at h
  cases ys with
  | none => exact ⟨yb, yo, rfl⟩
  | some z => split at h <;> simp at h
/-- A slice of ints as it was opened. -/
theorem ints_in {w : World} {a : Option Addr} {len cap : Nat} {zs : List Int} (h : (a = none ∧ len = 0 ∧ cap = 0 ∧ zs = []) ∨ ∃ x, a = some x ∧ len ≤ cap ∧ cap ≤ maxLen ∧ zs.length = cap ∧ (∀ i, i < zs.length → w.cell? (x.add i) = some (.int .i64 (zs.getD i 0))) ∧ ∀ n ∈ zs, (Lit.int .i64 n).wf = true) :
    ∃ K : List Int, K.length = len ∧ RsAt encI 1 w a cap K := by
  rcases h with ⟨rfl, rfl, rfl, -⟩ | ⟨x, rfl, hl, hm, hz, hc, -⟩
  · exact ⟨[], rfl, RsAt.nil w⟩
  · have hm' : cap ≤ 9223372036854775807 := Nat.le_trans hm (by decide)
    have gl : ((List.range len).map fun i => zs.getD i 0).length = len := by rw [List.length_map, List.length_range]
    refine ⟨(List.range len).map fun i => zs.getD i 0, gl, ⟨by rw [gl]; exact hl, hm', (fun h => nomatch h), ?_⟩⟩
    by_cases h0 : len = 0
    · subst h0; exact .inl rfl
    · have h1 := hc 0 (by omega)
      have e0 : x.add 0 = x := by simp [Addr.add]
      rw [e0] at h1
      obtain ⟨b, o, rfl⟩ := addr_plain h1
      refine .inr ⟨b, o, rfl, fun j hj i v hv => ?_⟩
      rw [gl] at hj
      have e1 : ((List.range len).map fun i => zs.getD i 0)[j]! = zs.getD j 0 := by rw [getElem!_pos _ j (by rw [gl]; exact hj)]; simp
      rw [e1] at hv
      unfold encI one1 at hv
      cases i with
      | zero =>
        simp only [List.getElem?_cons_zero, Option.some.injEq] at hv
        have := hc j (by omega)
        rw [Addr.add_mid] at this
        rw [Nat.mul_one, Nat.add_zero, this, ← hv]
        rfl
      | succ i => simp at hv

set_option maxRecDepth 100000 in
set_option maxHeartbeats 16000000 in
theorem marksFiles_at {w : World} {l m : List Pr} {al am ak : Option Addr} {cl cm ck : Nat} (hl : PsAt w al cl l) (hm : PsAt w am cm m) (n : Int) {K : List Int} (hK : RsAt encI 1 w ak ck K) :
    Calls Tryd.prog 3 #[.slice al l.length cl, .slice am m.length cm, .int .i64 n, .slice ak K.length ck] w fun e w' => e = .returned (.bool true) ∧ Below w.heap.size w w' := by
  obtain ⟨c0, hc0, ec0⟩ := u64_mod n 6 (by decide) (by decide)
  change wrap64 ((IntKind.u64.wrap n).tmod 6) = _ at ec0
  obtain ⟨q, hq⟩ : ∃ q, q = min K.length 9 := ⟨_, rfl⟩
  have MQ := min_run (K.length : Int) 9 q (by split <;> omega)
  have SQ : ∀ W : World, (Instr.slice 23 (.slice ak K.length ck) none (some (.int .i64 (q : Int))) none).run Tryd.prog W = .ok (.slice ak q ck) W := fun W => hK.to1 tyI (j := q) (by omega) (q : Int) rfl W
  have hKq := hK.take q
  have hKl : (K.take q).length = q := by rw [List.length_take]; omega
  have hKb : q ≠ 0 → ∀ x, ak = some x → x.block < w.heap.size := fun h0 => by
    have h1 : K.take q ≠ [] := fun h => by rw [h] at hKl; simp at hKl; omega
    intro x hx
    rcases hKq.cells with h2 | ⟨b, o, e, hc⟩
    · exact absurd h2 h1
    · rw [e] at hx
      injection hx with hx
      subst hx
      exact lt_of_cell (hc 0 (List.length_pos_iff.2 h1) 0 _ rfl)
  have HK := Lib.hid (And.intro hKq (And.intro hKl (And.intro hKb hq)))
  have hq9 : q ≤ 9 := by omega
  clear hKq hKl hKb hq
  generalize hkn : K.length = kn at *
  clear hkn hK
  have HLM := Lib.hid (And.intro hl hm)
  obtain ⟨nl, hnl⟩ : ∃ x, x = l.length := ⟨_, rfl⟩
  obtain ⟨nm, hnm⟩ : ∃ x, x = m.length := ⟨_, rfl⟩
  have HN := Lib.hid (And.intro hnl hnm)
  rw [← hnl, ← hnm]
  clear hl hm hnl hnm
  have CK := fun W => known_anyK W
  go_enter Tryd.func3, Tryd.ntmps3
  go_wp2_with fail
  refine (new_live 1048576 w).mono ?_
  rintro e w1 ⟨p, own1, rfl, l1⟩
  have CF1 := few_anyK (HLM.out.1.below l1.frame)
  rw [← HN.out.1] at CF1
  have H1 := Lib.hid l1
  clear l1
  go_wp2_with fail
  refine CF1.mono ?_
  clear CF1
  rintro e w2 ⟨v2, rfl, ho2⟩
  obtain ⟨aA, cA, rfl, hpA⟩ := ho2.ps
  have hA0 := PsO.made H1.out.at_ hpA (fun x hx => (ho2.block x.block (by rw [hx]; rfl)).1)
  have l2 := H1.out.below ho2.frame
  obtain ⟨A, hA⟩ : ∃ A, A = l.take 40 := ⟨_, rfl⟩
  have hA40 : A.length ≤ 40 := by rw [hA, List.length_take]; omega
  rw [← hA] at hA0 ⊢
  have CF2 := few_anyK (HLM.out.2.below l2.frame)
  rw [← HN.out.2] at CF2
  have H2 := Lib.hid (And.intro l2 hA0)
  clear l2 hA0 ho2 hpA hA H1
  obtain ⟨nA, hnA⟩ : ∃ x, x = A.length := ⟨_, rfl⟩
  have HNA := Lib.hid hnA
  rw [← hnA] at hA40 ⊢
  clear hnA
  go_wp2_with fail
  refine CF2.mono ?_
  clear CF2
  rintro e w3 ⟨v3, rfl, ho3⟩
  obtain ⟨aB, cB, rfl, hpB⟩ := ho3.ps
  have hB0 := PsO.made H2.out.1.at_ hpB (fun x hx => (ho3.block x.block (by rw [hx]; rfl)).1)
  have l3 := H2.out.1.below ho3.frame
  have hA3 := H2.out.2.below ho3.frame
  obtain ⟨B, hB⟩ : ∃ B, B = m.take 40 := ⟨_, rfl⟩
  have hB40 : B.length ≤ 40 := by rw [hB, List.length_take]; omega
  rw [← hB] at hB0 ⊢
  have ok3 : OkS 0 (newS 1048576) := OkS.new _ ⟨by decide, by decide⟩
  have C3 := save_at l3.at_ ok3 (by decide) pM (by decide) hA3.ps (by rw [← HNA.out]; omega)
  rw [← HNA.out] at C3
  have H3 := Lib.hid (And.intro l3 (And.intro ok3 (And.intro hA3 hB0)))
  clear l3 hA3 hB0 ho3 hpB hB H2 ok3 HLM HN
  obtain ⟨nB, hnB⟩ : ∃ x, x = B.length := ⟨_, rfl⟩
  have HNB := Lib.hid hnB
  rw [← hnB] at hB40 ⊢
  clear hnB
  go_wp2_with fail
  refine C3.mono ?_
  clear C3
  rintro e w4 ⟨hyes, hno⟩
  -- what was saved first
  obtain ⟨E, own4, o, X, u, lf, rA, rfl, H4, HO, HX, HR⟩ : ∃ (E : Int) (own4 : Owns) (o : Option Bytes) (X : List Pr) (u lf : Int) (rA : Bool), e = .returned (.int .i64 E) ∧ Hid (Live w.heap.size w own4 w4 p (stM u (oneF o) false lf) ∧ OkS 4000 (stM u (oneF o) false lf) ∧ PsO own4 w4 aA cA A ∧ PsO own4 w4 aB cB B) ∧ Hid (0 ≤ u ∧ u ≤ 5000) ∧ Hid (parseO (o.getD []) = (X, 0) ∧ X.length ≤ 40) ∧ ((rA = true ∧ E = 0 ∧ Hid (Rt A ∧ X = A)) ∨ (rA = false ∧ E = 9 ∧ Hid (¬ Rt A ∧ X = [] ∧ o = none))) := by
    by_cases hR : Rt A
    · obtain ⟨h1, own4, h2, h3⟩ := hyes hR
      have hlen : (textL A).length ≤ 3280 := by rw [textL_len, ← HNA.out]; omega
      obtain ⟨u, hsv⟩ := save_plain none 0 (by decide) 0 (textL A) (by omega)
      change saveS (newS 1048576) pM (textL A) = _ at hsv
      have ok4 := H3.out.2.1.save pM (textL A)
      rw [hsv] at h1 h2 ok4
      refine ⟨0, own4, some (textL A), A, u, 0, true, h1, Lib.hid ⟨H3.out.1.turn h2 h3, ok4.mono (by omega), H3.out.2.2.1.turn h3, H3.out.2.2.2.turn h3⟩, Lib.hid ?_, Lib.hid ⟨(parseO_text (s := textL A) rfl).1 hR, by rw [← HNA.out]; exact hA40⟩, .inl ⟨rfl, rfl, Lib.hid ⟨hR, rfl⟩⟩⟩
      have hu := ok4.used
      change u = ((sumF [(pM, ⟨textL A, textL A, []⟩)] : Nat) : Int) at hu
      simp only [sumF] at hu
      omega
    · obtain ⟨h1, h2⟩ := hno hR
      exact ⟨9, _, none, [], 0, 0, false, h1, Lib.hid ⟨H3.out.1.below h2, H3.out.2.1.mono (by omega), H3.out.2.2.1.below h2, H3.out.2.2.2.below h2⟩, Lib.hid ⟨by decide, by decide⟩, Lib.hid ⟨parse_nil, by simp⟩, .inr ⟨rfl, rfl, Lib.hid ⟨hR, rfl, rfl⟩⟩⟩
  clear hyes hno H3
  obtain ⟨nX, hnX⟩ : ∃ x, x = X.length := ⟨_, rfl⟩
  have HNX := Lib.hid hnX
  have hX40 : nX ≤ 40 := by rw [hnX]; exact HX.out.2
  clear hnX
  have C5 := as_any H4.out.2.2.1.ps (by rw [← HNA.out]; omega)
  rw [← HNA.out] at C5
  rcases HR with ⟨rfl, rfl, HX2⟩ | ⟨rfl, rfl, HX2⟩
  case' inl =>
    go_wp2_with fail
    refine C5.mono ?_
    clear C5
    rintro e w5 ⟨v5, rfl, ho5⟩
    obtain ⟨a5, c5, rfl, hp5⟩ := ho5.ps
    have C6 := refRight_any hp5
    rw [← HNA.out] at C6 ⊢
    have H5 := Lib.hid (And.intro (H4.out.1.below ho5.frame) (And.intro H4.out.2.1 (And.intro (H4.out.2.2.1.below ho5.frame) (H4.out.2.2.2.below ho5.frame))))
    clear H4 ho5 hp5
    go_wp2_with fail
    refine C6.mono ?_
    clear C6
    rintro e w6 ⟨r, rfl, hr, hb6⟩
    obtain rfl : r = true := hr.2 HX2.out.1
    have H6 := Lib.hid (And.intro (H5.out.1.below hb6) (And.intro H5.out.2.1 (And.intro (H5.out.2.2.1.below hb6) (H5.out.2.2.2.below hb6))))
    have CL := load_at H6.out.1.at_ H6.out.2.1 (by decide) pM (by decide)
    rw [show (stM u (oneF o) false lf).files = oneF o from rfl, now_one, HX.out.1] at CL
    rw [← HNX.out] at CL
    clear H5 hr hb6
    go_wp2_with fail
    refine CL.mono ?_
    clear CL
    rintro e w7 ⟨aX, cX, rfl, hpX, hnwX, hb7⟩
    have H7 := Lib.hid (And.intro (H6.out.1.below hb7) (And.intro H6.out.2.1 (And.intro (H6.out.2.2.1.below hb7) (And.intro (H6.out.2.2.2.below hb7) (PsO.made H6.out.1.at_ hpX hnwX)))))
    clear H6 hpX hnwX hb7
    have CYA := as_any H7.out.2.2.2.2.ps (by rw [← HNX.out]; omega)
    rw [← HNX.out] at CYA
    go_wp2_with fail
    refine CYA.mono ?_
    clear CYA
    rintro e wyA ⟨vyA, rfl, hoyA⟩
    obtain ⟨ayA, cyA, rfl, hpyA⟩ := hoyA.ps
    have CXA := as_any (H7.out.2.2.1.ps.below hoyA.frame) (by rw [← HNA.out]; omega)
    rw [← HNA.out] at CXA
    have HYA := Lib.hid (And.intro hpyA ((Below.refl w7.heap.size w7).trans (hoyA.frame.mono (Below.refl w7.heap.size w7).size)))
    clear hoyA hpyA
    rw [← HNX.out]
    go_wp2_with fail
    refine CXA.mono ?_
    clear CXA
    rintro e wxA ⟨vxA, rfl, hoxA⟩
    obtain ⟨axA, cxA, rfl, hpxA⟩ := hoxA.ps
    have CSA := same_any (HYA.out.1.below hoxA.frame) hpxA
    rw [decide_eq_true HX2.out.2] at CSA
    rw [← HNX.out, ← HNA.out] at CSA
    have HXA := Lib.hid (HYA.out.2.trans (hoxA.frame.mono HYA.out.2.size))
    clear hoxA hpxA
    rw [← HNA.out]
    go_wp2_with fail
    refine CSA.mono ?_
    clear CSA
    rintro e wsA ⟨rfl, hbsA⟩
    have g9 := HXA.out.trans (hbsA.mono HXA.out.size)
    have H9 := Lib.hid (And.intro (H7.out.1.below g9) (And.intro H7.out.2.1 (And.intro (H7.out.2.2.1.below g9) (And.intro (H7.out.2.2.2.1.below g9) (H7.out.2.2.2.2.below g9)))))
    clear H7 HYA HXA hbsA g9 HX2
    go_upto_region 9 with (fail)
  case' inr =>
    go_wp2_with fail
    refine C5.mono ?_
    clear C5
    rintro e w5 ⟨v5, rfl, ho5⟩
    obtain ⟨a5, c5, rfl, hp5⟩ := ho5.ps
    have C6 := refRight_any hp5
    rw [← HNA.out] at C6 ⊢
    have H5 := Lib.hid (And.intro (H4.out.1.below ho5.frame) (And.intro H4.out.2.1 (And.intro (H4.out.2.2.1.below ho5.frame) (H4.out.2.2.2.below ho5.frame))))
    clear H4 ho5 hp5
    go_wp2_with fail
    refine C6.mono ?_
    clear C6
    rintro e w6 ⟨r, rfl, hr, hb6⟩
    obtain rfl : r = false := by cases r with | false => rfl | true => exact absurd (hr.1 rfl) HX2.out.1
    have H6 := Lib.hid (And.intro (H5.out.1.below hb6) (And.intro H5.out.2.1 (And.intro (H5.out.2.2.1.below hb6) (H5.out.2.2.2.below hb6))))
    have CQ := list_at H6.out.1.at_ H6.out.2.1 []
    have hls : (listS (stM u (oneF o) false lf) []).length = 0 := by rw [HX2.out.2.2]; rfl
    rw [hls] at CQ
    clear H5 hr hb6 hls
    go_wp2_with fail
    refine CQ.mono ?_
    clear CQ
    rintro e w6 ⟨aq, cq, rfl, -, hb6⟩
    have H6 := Lib.hid (And.intro (H6.out.1.below hb6) (And.intro H6.out.2.1 (And.intro (H6.out.2.2.1.below hb6) (H6.out.2.2.2.below hb6))))
    have CL := load_at H6.out.1.at_ H6.out.2.1 (by decide) pM (by decide)
    rw [show (stM u (oneF o) false lf).files = oneF o from rfl, now_one, HX.out.1] at CL
    rw [← HNX.out] at CL
    clear hb6
    obtain rfl : nX = 0 := by rw [HNX.out, HX2.out.2.1]; rfl
    go_wp2_with fail
    refine CL.mono ?_
    clear CL
    rintro e w7 ⟨aX, cX, rfl, hpX, hnwX, hb7⟩
    have H9 := Lib.hid (And.intro (H6.out.1.below hb7) (And.intro H6.out.2.1 (And.intro (H6.out.2.2.1.below hb7) (And.intro (H6.out.2.2.2.below hb7) (PsO.made H6.out.1.at_ hpX hnwX)))))
    clear H6 hpX hnwX hb7 HX2
    go_upto_region 9 with (fail)
  all_goals
    have CA := arm_at H9.out.1.at_ (1 + (c0 : Int))
    rw [arm_M _ _ _ _ (by omega)] at CA
    go_wp2_with fail
    refine CA.mono ?_
    clear CA
    rintro e w10 ⟨rfl, own10, h10, t10⟩
    have ok10 : OkS 4000 (stM u (oneF o) true (1 + (c0 : Int))) := by rw [← arm_M u (oneF o) lf _ (by omega)]; exact H9.out.2.1.arm _ (by omega)
    have H10 := Lib.hid (And.intro (H9.out.1.turn h10 t10) (And.intro ok10 (And.intro (H9.out.2.2.1.turn t10) (And.intro (H9.out.2.2.2.1.turn t10) (H9.out.2.2.2.2.turn t10)))))
    clear h10 t10 ok10 H9
    have C10 := save_at H10.out.1.at_ H10.out.2.1 (by decide) pM (by decide) H10.out.2.2.2.1.ps (by rw [← HNB.out]; omega)
    rw [← HNB.out] at C10
    go_wp2_with fail
    refine C10.mono ?_
    clear C10
    rintro e w11 ⟨hyes, hno⟩
    obtain ⟨G, own11, S2, Y, rB, rfl, H11, HY, HG⟩ : ∃ (G : Int) (own11 : Owns) (S2 : StP) (Y : List Pr) (rB : Bool), e = .returned (.int .i64 G) ∧ Hid (Live w.heap.size w own11 w11 p S2 ∧ OkS 10000 S2 ∧ PsO own11 w11 aB cB B ∧ PsO own11 w11 aX cX X) ∧ Hid ((∀ K, parseO (nowO (crashS S2 K).files pM) = (Y, 0)) ∧ S2.quota = 1048576 ∧ Y.length ≤ 40) ∧ ((G = 9 ∧ rB = false ∧ Hid (¬ Rt B ∧ Y = X)) ∨ (G = 8 ∧ rB = true ∧ Hid (Rt B ∧ Y = X)) ∨ (G = 0 ∧ rB = true ∧ Hid (Rt B ∧ Y = B))) := by
      have hX1 := HX.out
      by_cases hR : Rt B
      · obtain ⟨h1, own11, h2, h3⟩ := hyes hR
        have hlen : (textL B).length ≤ 3280 := by rw [textL_len, ← HNB.out]; omega
        have okS := H10.out.2.1.save pM (textL B)
        have hqu := quota_save (stM u (oneF o) true (1 + (c0 : Int))) pM (textL B)
        have hB1 := (parseO_text (s := textL B) rfl).1 hR
        rcases save_armed o u HO.out (1 + (c0 : Int)) ⟨by omega, by omega⟩ (textL B) (by omega) with ⟨g1, f, g2⟩ | ⟨g1, g2⟩
        · rw [g1] at h1
          exact ⟨8, own11, _, X, true, h1, Lib.hid ⟨H10.out.1.turn h2 h3, okS.mono (by omega), H10.out.2.2.2.1.turn h3, H10.out.2.2.2.2.turn h3⟩, Lib.hid ⟨fun K => by rw [now_crash2 o K _ f g2]; exact hX1.1, hqu, hX1.2⟩, .inr (.inl ⟨rfl, rfl, Lib.hid ⟨hR, rfl⟩⟩)⟩
        · rw [g1] at h1
          exact ⟨0, own11, _, B, true, h1, Lib.hid ⟨H10.out.1.turn h2 h3, okS.mono (by omega), H10.out.2.2.2.1.turn h3, H10.out.2.2.2.2.turn h3⟩, Lib.hid ⟨fun K => by rw [now_crash (some (textL B)) K _ g2]; exact hB1, hqu, by rw [← HNB.out]; exact hB40⟩, .inr (.inr ⟨rfl, rfl, Lib.hid ⟨hR, rfl⟩⟩)⟩
      · obtain ⟨h1, h2⟩ := hno hR
        exact ⟨9, own10, _, X, false, h1, Lib.hid ⟨H10.out.1.below h2, H10.out.2.1.mono (by omega), H10.out.2.2.2.1.below h2, H10.out.2.2.2.2.below h2⟩, Lib.hid ⟨fun K => by rw [now_crash o K _ rfl]; exact hX1.1, rfl, hX1.2⟩, .inl ⟨rfl, rfl, Lib.hid ⟨hR, rfl⟩⟩⟩
    clear hyes hno H10
    have CC := crash_at2 H11.out.1.at_ H11.out.2.1 (by decide) (HK.out.1.below H11.out.1.frame) HK.out.2.1.symm (by omega) (fun hne x hx => H11.out.1.not_old (HK.out.2.2.1 (fun h0 => hne (List.eq_nil_of_length_eq_zero (by rw [HK.out.2.1, h0]))) x hx))
    go_wp2_with fail
    refine CC.mono ?_
    clear CC
    rintro e w12 ⟨rfl, own12, h12, t12⟩
    have ok12 : OkS 10000 (crashS S2 (K.take q)) := H11.out.2.1.crash _ (fun h => absurd h (by rw [HY.out.2.1]; decide))
    have H12 := Lib.hid (And.intro (H11.out.1.turn h12 t12) (And.intro ok12 (And.intro (H11.out.2.2.1.turn t12) (H11.out.2.2.2.turn t12))))
    clear h12 t12 ok12 H11 SQ MQ
    have CL := load_at H12.out.1.at_ H12.out.2.1 (by decide) pM (by decide)
    rw [HY.out.1] at CL
    obtain ⟨nY, hnY⟩ : ∃ x, x = Y.length := ⟨_, rfl⟩
    have HNY := Lib.hid hnY
    have hY40 : nY ≤ 40 := by rw [hnY]; exact HY.out.2.2
    clear hnY
    rw [← HNY.out] at CL
    go_wp2_with fail
    refine CL.mono ?_
    clear CL
    rintro e w13 ⟨aY, cY, rfl, hpY, -, hb13⟩
    have H13 := Lib.hid (And.intro (H12.out.1.below hb13) (And.intro (H12.out.2.2.1.below hb13) (And.intro (H12.out.2.2.2.below hb13) hpY)))
    clear H12 hpY hb13
    have C5 := as_any H13.out.2.1.ps (by rw [← HNB.out]; omega)
    rw [← HNB.out] at C5
    go_wp2_with fail
    refine C5.mono ?_
    clear C5
    rintro e w14 ⟨v5, rfl, ho5⟩
    obtain ⟨a5, c5, rfl, hp5⟩ := ho5.ps
    have C6 := refRight_any hp5
    rw [← HNB.out] at C6 ⊢
    have H14 := Lib.hid (And.intro (H13.out.1.below ho5.frame) (And.intro (H13.out.2.1.below ho5.frame) (And.intro (H13.out.2.2.1.below ho5.frame) (H13.out.2.2.2.below ho5.frame))))
    clear H13 ho5 hp5
    go_wp2_with fail
    refine C6.mono ?_
    clear C6
    rintro e w15 ⟨r, rfl, hr, hb6⟩
    obtain rfl : r = rB := by
      rcases HG with ⟨-, rfl, h⟩ | ⟨-, rfl, h⟩ | ⟨-, rfl, h⟩
      · cases r with | false => rfl | true => exact absurd (hr.1 rfl) h.out.1
      · exact hr.2 h.out.1
      · exact hr.2 h.out.1
    have H15 := Lib.hid (And.intro (H14.out.1.below hb6) (And.intro (H14.out.2.1.below hb6) (And.intro (H14.out.2.2.1.below hb6) (H14.out.2.2.2.below hb6))))
    clear H14 hr hb6
    rcases HG with ⟨rfl, rfl, HE⟩ | ⟨rfl, rfl, HE⟩ | ⟨rfl, rfl, HE⟩
  all_goals
    go_wp2_with fail
    refine (CK _).mono ?_
    rintro e w16 ⟨rfl, hw16⟩
    have H16 := Lib.hid (And.intro (H15.out.1.below hw16) (And.intro (H15.out.2.1.below hw16) (And.intro (H15.out.2.2.1.below hw16) (H15.out.2.2.2.below hw16))))
    clear H15 hw16
  all_goals first
  | have hYB : Y = B := HE.out.2
    have CYE := as_any H16.out.2.2.2 (by rw [← HNY.out]; omega)
    rw [← HNY.out] at CYE
    go_wp2_with fail
    refine CYE.mono ?_
    clear CYE
    rintro e wyE ⟨vyE, rfl, hoyE⟩
    obtain ⟨ayE, cyE, rfl, hpyE⟩ := hoyE.ps
    have CXE := as_any (H16.out.2.1.ps.below hoyE.frame) (by rw [← HNB.out]; omega)
    rw [← HNB.out] at CXE
    have HYE := Lib.hid (And.intro hpyE ((Below.refl w16.heap.size w16).trans (hoyE.frame.mono (Below.refl w16.heap.size w16).size)))
    clear hoyE hpyE
    rw [← HNY.out]
    go_wp2_with fail
    refine CXE.mono ?_
    clear CXE
    rintro e wxE ⟨vxE, rfl, hoxE⟩
    obtain ⟨axE, cxE, rfl, hpxE⟩ := hoxE.ps
    have CSE := same_any (HYE.out.1.below hoxE.frame) hpxE
    rw [decide_eq_true HE.out.2] at CSE
    rw [← HNY.out, ← HNB.out] at CSE
    have HXE := Lib.hid (HYE.out.2.trans (hoxE.frame.mono HYE.out.2.size))
    clear hoxE hpxE
    rw [← HNB.out]
    go_wp2_with fail
    refine CSE.mono ?_
    clear CSE
    rintro e wsE ⟨rfl, hbsE⟩
    have gE := Lib.hid (H16.out.1.frame.trans ((HXE.out.trans (hbsE.mono HXE.out.size)).mono H16.out.1.frame.size))
    clear HYE HXE hbsE
    go_wp2_with fail
    go_ret
    exact ⟨rfl, gE.out⟩
  | have hYX : Y = X := HE.out.2
    have CYE := as_any H16.out.2.2.2 (by rw [← HNY.out]; omega)
    rw [← HNY.out] at CYE
    go_wp2_with fail
    refine CYE.mono ?_
    clear CYE
    rintro e wyE ⟨vyE, rfl, hoyE⟩
    obtain ⟨ayE, cyE, rfl, hpyE⟩ := hoyE.ps
    have CXE := as_any (H16.out.2.2.1.ps.below hoyE.frame) (by rw [← HNX.out]; omega)
    rw [← HNX.out] at CXE
    have HYE := Lib.hid (And.intro hpyE ((Below.refl w16.heap.size w16).trans (hoyE.frame.mono (Below.refl w16.heap.size w16).size)))
    clear hoyE hpyE
    rw [← HNY.out]
    go_wp2_with fail
    refine CXE.mono ?_
    clear CXE
    rintro e wxE ⟨vxE, rfl, hoxE⟩
    obtain ⟨axE, cxE, rfl, hpxE⟩ := hoxE.ps
    have CSE := same_any (HYE.out.1.below hoxE.frame) hpxE
    rw [decide_eq_true HE.out.2] at CSE
    rw [← HNY.out, ← HNX.out] at CSE
    have HXE := Lib.hid (HYE.out.2.trans (hoxE.frame.mono HYE.out.2.size))
    clear hoxE hpxE
    rw [← HNX.out]
    go_wp2_with fail
    refine CSE.mono ?_
    clear CSE
    rintro e wsE ⟨rfl, hbsE⟩
    have gE := Lib.hid (H16.out.1.frame.trans ((HXE.out.trans (hbsE.mono HXE.out.size)).mono H16.out.1.frame.size))
    clear HYE HXE hbsE
    go_wp2_with fail
    go_ret
    exact ⟨rfl, gE.out⟩
theorem marksFiles_walk (a0 : Option Addr) (n0 c0 : Nat) (g0 : List Pr) (a1 : Option Addr) (n1 c1 : Nat) (g1 : List Pr) (a2 : Int) (a3 : Option Addr) (n3 c3 : Nat) (z3 : List Int) (W : World) (h0 : g0.length = n0) (k0 : PsAt W a0 c0 g0) (h1 : g1.length = n1) (k1 : PsAt W a1 c1 g1) (_ : (Lit.int .i64 a2).wf = true)
    (k3 : (a3 = none ∧ n3 = 0 ∧ c3 = 0 ∧ z3 = []) ∨ ∃ x, a3 = some x ∧ n3 ≤ c3 ∧ c3 ≤ maxLen ∧ z3.length = c3 ∧ (∀ i, i < z3.length → W.cell? (x.add i) = some (.int .i64 (z3.getD i 0))) ∧ ∀ n ∈ z3, (Lit.int .i64 n).wf = true) :
    Calls Tryd.prog 3 #[.slice a0 n0 c0, .slice a1 n1 c1, .int .i64 a2, .slice a3 n3 c3] W fun e w' => e = .returned (.bool true) ∧ Below W.heap.size W w' := by
  obtain ⟨K, hK, hk⟩ := ints_in k3
  subst h0 h1
  rw [← hK]
  exact marksFiles_at k0 k1 a2 hk
end Go.Proofs.YtnlkanhakmkejaaDoor
