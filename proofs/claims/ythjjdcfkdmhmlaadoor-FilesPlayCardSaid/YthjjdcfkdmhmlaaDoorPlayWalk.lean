/-
  The document's Do.
  The law's same: what a store tells is what the document's holds: the walk.
  A region that draws its order, walked once in an order of our choice: operations that only read, or call what only makes new memory and hands back one known value ('calm'), may be taken first; any other operation ('loud') is taken where it alone may come up.
  The make follows the library's own two proofs on orders (Derived/Orders, Derived/Deep/Quiet), here over worlds that grow.
  The law FilesPlay, walked.
-/
import Derived.Test.YthjjdcfkdmhmlaaDoorRf3
import Derived.Test.YthjjdcfkdmhmlaaDoorRf2
import Derived.Test.YthjjdcfkdmhmlaaDoorRfCutF
import Derived.Test.YthjjdcfkdmhmlaaDoorRfWrite
import Derived.Test.YthjjdcfkdmhmlaaDoorRf1
import Derived.Test.YthjjdcfkdmhmlaaDoorRoomPure
import Derived.Test.YthjjdcfkdmhmlaaDoorFlPure
import Derived.Deep.Quiet
import Derived.Below
import Derived.WalkKit
namespace Go.Proofs.YthjjdcfkdmhmlaaDoor
open Go.RowKit Go.Mix Go.WideMaps

theorem rfDo_any {Q : Nat → Prop} {w : World} {t Z : Nat} {v : Value} {S : StP} (h : RefAt Q w t v S.quota S.files (leftS S) S.down) (hQ : ∀ k, w.heap.size ≤ k → Q k) (ok : OkS Z S) (hZ : Z ≤ 100000)
    {a : ActA} {x : ActP} (ha : ActOf w a x) (hkt : x.keep ≠ [] → ∀ y, a.ka = some y → y.block < w.heap.size ∧ ¬ Q y.block) :
    Calls Tryd.prog 21 #[ptr t, .agg (recA encA a)] w fun e w' => e = .returned (.int .i64 (actS S x).2) ∧ ∃ v', RefAt Q w' t v' S.quota (actS S x).1.files (leftS (actS S x).1) (actS S x).1.down ∧ FrQ Q w w' := by
  obtain ⟨kind, path, dst, num, ba, bn, bc, ka, kn, kc⟩ := a
  obtain ⟨kind', path', dst', num', b, K⟩ := x
  have hd := fun hk => done_act S ⟨kind', path', dst', num', b, K⟩ hk
  have ha0 := ha
  obtain ⟨e1, hfew, e2, e3, e4, hwf, hpl, hdl, hbl, hkl, hbn, hbs, hkn, hks⟩ := ha
  simp only at e1 e2 e3 e4 hfew hwf hpl hdl hbl hkl hbn hkn hbs hks hkt hd
  subst e1 e2 e3 e4
  have hq1 : ∀ w1, Below w.heap.size w w1 → ∀ k, w1.heap.size ≤ k → Q k := fun w1 hb k hk => hQ k (Nat.le_trans hb.size hk)
  obtain rfl | rfl | rfl | rfl | rfl | rfl | rfl : kind' = 0 ∨ kind' = 1 ∨ kind' = 2 ∨ kind' = 3 ∨ kind' = 4 ∨ kind' = 5 ∨ kind' = 6 := by have : kind' < 7 := hfew; omega
  · exact rfDoC_any h ok (hd (by decide)) (kd := 0) rfl (by decide) fun w1 hb => rfWrite_any (h.below hb) (hq1 w1 hb) ok hZ path dst num ba ka bn bc kn kc b hbn (hbs.below hb) hbl hpl hdl hwf
  · exact rfDoC_any h ok (hd (by decide)) (kd := 1) rfl (by decide) fun w1 hb => rfCut_any (h.below hb) (hq1 w1 hb) ok hZ path dst num ba ka bn bc kn kc hpl hdl hwf
  · exact rfDoC_any h ok (hd (by decide)) (kd := 2) rfl (by decide) fun w1 hb => rfSync_any (h.below hb) (hq1 w1 hb) ok hZ path dst num ba ka bn bc kn kc hpl hdl hwf
  · exact rfDoC_any h ok (hd (by decide)) (kd := 3) rfl (by decide) fun w1 hb => rfRename_any (h.below hb) (hq1 w1 hb) ok hZ path dst num ba ka bn bc kn kc hpl hdl hwf
  · exact rfDoC_any h ok (hd (by decide)) (kd := 4) rfl (by decide) fun w1 hb => rfRemove_any (h.below hb) (hq1 w1 hb) ok hZ path dst num ba ka bn bc kn kc hpl hdl hwf
  · exact rfArm_any (a := ⟨5, path, dst, num, ba, bn, bc, ka, kn, kc⟩) h ok rfl
  · exact rfCrash_any (a := ⟨6, path, dst, num, ba, bn, bc, ka, kn, kc⟩) h hQ ok hZ rfl hkn hkl hks hkt
theorem quota_act (S : StP) (x : ActP) : (actS S x).1.quota = S.quota := by
  have hd : ∀ T : StP, (doneS T).quota = T.quota := fun T => by unfold doneS; split <;> rfl
  have hw : ∀ p a b, (writeS S p a b).1.quota = S.quota := fun p a b => by
    unfold writeS
    split; · rfl
    split; · rfl
    split; · rfl
    split; · rfl
    split; · rfl
    rw [hd]
  have hc : ∀ p n, (cutS S p n).1.quota = S.quota := fun p n => by
    unfold cutS
    split; · rfl
    split; · rfl
    split; · rfl
    rw [hd]
  have hs : ∀ p, (syncS S p).1.quota = S.quota := fun p => by
    unfold syncS
    split; · rfl
    split; · rfl
    rw [hd]
  have hn : ∀ p q, (renameS S p q).1.quota = S.quota := fun p q => by
    unfold renameS
    split; · rfl
    split; · rfl
    split; · rfl
    split; · rfl
    rw [hd]
  have hr : ∀ p, (removeS S p).1.quota = S.quota := fun p => by
    unfold removeS
    split; · rfl
    split; · rfl
    rw [hd]
  unfold actS
  split; · exact hw _ _ _
  split; · exact hc _ _
  split; · exact hs _
  split; · exact hn _ _
  split; · exact hr _
  split; · show (armS S x.num).quota = _; unfold armS; split <;> rfl
  split; · rfl
  rfl
end Go.Proofs.YthjjdcfkdmhmlaaDoor
namespace Go.Proofs.YthjjdcfkdmhmlaaDoor
open Go.RowKit Go.Mix Go.WideMaps Go.Maps

theorem text_cell7 {w : World} {b q : Nat} {x : Bytes} (h : w.rangeAt b q (encS x)) : w.cell? ⟨b, q, none⟩ = some (.string (strOf x)) := h 0 _ rfl
set_option maxRecDepth 100000 in
set_option maxHeartbeats 4000000 in
theorem same7_any {own : Owns} {Q : Nat → Prop} {w : World} {p t Z : Nat} {v : Value} {S : StP} {left : Int} {down : Bool} (hs : StoreAt own w p S) (ok : OkS Z S) (hZ : Z ≤ 100000) (h : RefAt Q w t v S.quota S.files left down) :
    Calls Tryd.prog 22 #[ptr p, ptr t] w fun e w' => e = .returned (.bool true) ∧ Below w.heap.size w w' := by
  have C1 := list_at hs ok []
  rw [listS_all] at C1
  change Calls _ _ _ _ (fun e w' => ∃ a c, e = .returned (.slice a (keysF S.files).length c) ∧ RsAt encS 1 w' a c (keysF S.files) ∧ Below _ _ w') at C1
  obtain ⟨n, hn⟩ : ∃ n, n = S.files.length := ⟨_, rfl⟩
  have hkl : (keysF S.files).length = n := by rw [keys_len, hn]
  rw [hkl] at C1
  have hfew := ok.few
  have hn6 : n ≤ 10000 := by omega
  have hsf : sumF S.files ≤ 1000000000 := by
    have h1 := sumF_le Z S.files fun p hp => (ok.ok p hp).2.2.1
    have h2 : Z * S.files.length ≤ 100000 * 10000 := Nat.mul_le_mul hZ hfew
    omega
  have H0 := Lib.hid (And.intro hs (And.intro ok (And.intro h (And.intro hn (And.intro hkl (And.intro hsf hZ))))))
  clear hs ok h hn hkl hZ hfew
  go_enter Tryd.func22, Tryd.ntmps22
  go_wp2_with fail
  refine C1.mono ?_
  clear C1
  rintro e w1 ⟨a1, c1, rfl, hr1, hb1⟩
  have h1 := H0.out.2.2.1.below hb1
  have hs1 := H0.out.1.below hb1
  obtain ⟨-, k1, -, -⟩ := h1.cells
  obtain ⟨L, ra, rc, hv, hLl, hrs, hall⟩ := h1.rs
  rw [hv, ← H0.out.2.2.2.1] at k1
  have CU := used_at hs1
  rw [H0.out.2.1.used] at CU
  have CR := rfUsed_any h1 H0.out.2.1.few H0.out.2.2.2.2.2.1
  obtain ⟨su, hsu⟩ : ∃ su, su = sumF S.files := ⟨_, rfl⟩
  rw [← hsu] at CU CR
  have H1 := Lib.hid (And.intro hr1 (And.intro hb1 (And.intro hs1 (And.intro hLl (And.intro hrs hall)))))
  have tnn : ((n : Int) != (n : Int)) = false := by simp
  have tnn' : (n != n) = false := by simp
  clear hr1 hb1 h1 hs1 hv hLl hrs hall hsu hsf
  unfold ptr at *
  go_wp2_with (first | (refine Calls.mono CU ?_; clear CU; rintro e5 w5 ⟨rfl, rfl⟩) | (refine Calls.mono CR ?_; clear CR; rintro e6 w6 ⟨rfl, rfl⟩))
  go_loopw [6] (fun s6 wr => ∃ i : Nat, s6 = .int .i64 (i : Int) ∧ i ≤ n ∧ Below w1.heap.size w1 wr) (fun s6 _ => n - (intOf s6).toNat)
  case atStart => exact ⟨0, rfl, Nat.zero_le _, Below.refl _ _⟩
  case round =>
    obtain ⟨i, rfl, hi, hbr⟩ := hrel
    by_cases hin : i < n
    · have t1 : decide ((i : Int) < (n : Int)) = true := decide_eq_true (by omega)
      have t1' : decide (i < n) = true := decide_eq_true hin
      have hif : i < S.files.length := by rw [← H0.out.2.2.2.1]; exact hin
      have hik : i < (keysF S.files).length := by rw [H0.out.2.2.2.2.1]; exact hin
      have hiL : i < L.length := by rw [H1.out.2.2.2.1]; exact hif
      obtain ⟨o1, o2, IX, R, -⟩ := (H1.out.1.below hbr).at1 tyS (i : Int) i rfl hik
      rw [H0.out.2.2.2.2.1] at IX
      have cc := text_cell7 R
      obtain ⟨kf1, kf2⟩ := key_file H0.out.2.1.sorted hif
      have okf := H0.out.2.1.ok _ (List.getElem_mem hif)
      have C8 := read_at (H1.out.2.2.1.below hbr) H0.out.2.1 (by have := H0.out.2.2.2.2.2.2; omega) (keysF S.files)[i]! (by rw [kf1]; have := okf.2.1; omega)
      obtain ⟨b6, q6, IX6, R6, -⟩ := (H1.out.2.2.2.2.1.below hbr).at tyF (i : Int) i rfl hiL
      rw [H1.out.2.2.2.1, ← H0.out.2.2.2.1] at IX6
      have hf := H1.out.2.2.2.2.2.at hiL hif
      obtain ⟨f0, f1, -, -⟩ := rf_cells R6
      rw [getElem!_pos L i hiL, hf.path] at f0
      rw [getElem!_pos L i hiL] at f1
      have hnn := hf.now.n
      have hsl := (hf.now.sl.below hbr)
      unfold rowV at f1
      rw [kf1] at cc C8 kf2
      obtain ⟨nf, hnf⟩ : ∃ nf, nf = S.files[i].2.now.length := ⟨_, rfl⟩
      rw [hnn, ← hnf] at f1
      have k1r := (hbr.cell (lt_of_cell k1)).trans k1
      have H8 := Lib.hid (And.intro kf2 (And.intro hnf (And.intro hsl hbr)))
      generalize L[i].now.a = na at *
      generalize L[i].now.c = nc at *
      generalize strOf S.files[i].1 = T1 at *
      have TT : (T1.toList == T1.toList) = true := beq_self_eq_true _
      clear R R6 hf hnn hsl kf1 kf2 okf hnf hik
      go_wp2_with fail
      refine C8.mono ?_
      clear C8
      rintro e w8 ⟨hsome, -, hb8⟩
      obtain ⟨v8, rfl, hbuf8⟩ := hsome _ H8.out.1
      obtain ⟨a8, c8, rfl, hsl8⟩ := hbuf8.1.sl
      have S1 := fun y : Later w8 => (hsl8.below y.2).str
      have S2 := fun y : Later w8 => ((H8.out.2.2.1.below hb8).below y.2).str
      change ∀ y : Later w8, (convert 28 9 (.slice a8 S.files[i].2.now.length c8)).run Tryd.prog y.1 = .ok (.string (strOf S.files[i].2.now)) y.1 at S1
      change ∀ y : Later w8, (convert 28 9 (.slice na S.files[i].2.now.length nc)).run Tryd.prog y.1 = .ok (.string (strOf S.files[i].2.now)) y.1 at S2
      rw [← H8.out.2.1] at S1 S2 ⊢
      generalize strOf S.files[i].2.now = T2 at *
      have TT2 : (T2.toList == T2.toList) = true := beq_self_eq_true _
      have K1 : ∀ y : Later w8, y.1.cell? ⟨t, 1, none⟩ = some (.slice ra n rc) := fun y => load_later ((hb8.cell (lt_of_cell k1r)).trans k1r) y
      have K2 : ∀ y : Later w8, y.1.cell? ⟨o1, o2, none⟩ = some (.string T1) := fun y => load_later ((hb8.cell (lt_of_cell cc)).trans cc) y
      have K3 : ∀ y : Later w8, y.1.cell? ⟨b6, q6, none⟩ = some (.string T1) := fun y => load_later ((hb8.cell (lt_of_cell f0)).trans f0) y
      have K4 : ∀ y : Later w8, y.1.cell? ⟨b6, q6 + 1, none⟩ = some (.slice na nf nc) := fun y => load_later ((hb8.cell (lt_of_cell f1)).trans f1) y
      have H9 := Lib.hid (H8.out.2.2.2.trans (hb8.mono H8.out.2.2.2.size))
      clear hsome hbuf8 hsl8 cc f0 f1 k1r hb8 hbr
      go_upto_region 8 with (fail)
      refine wp_region_mg [(0, 0), (1, 0), (2, 0), (3, 0), (4, 0), (5, 0), (6, 0), (7, 0), (8, 0), (9, 0), (10, 0), (11, 0), (12, 0), (13, 0), (14, 0), (15, 0), (16, 0), (17, 0), (18, 0), (19, 0), (20, 0), (21, 0), (22, 0), (23, 0), (24, 0), (25, 0), (26, 0), (27, 0), (28, 0), (29, 0), (30, 0)] (by kernel_rfl) (by kernel_rfl) ?_
      iterate 31 (refine mg_calm rfl (fun K hK => ?_); go_simp; (refine hK _ ?_; clear hK K))
      refine mg_nil fun w10 hw10 => ?_
      have H10 := Lib.hid (H9.out.trans (hw10.mono H9.out.size))
      clear hw10 S1 S2 K1 K2 K3 K4 IX IX6
      go_wp2_with fail
      go_roundw
      case rel => exact ⟨i + 1, by go_num, by omega, H10.out⟩
      case measure => simp [intOf]; omega
    · obtain rfl : i = n := by omega
      have t1 : decide ((i : Int) < (i : Int)) = false := decide_eq_false (by omega)
      have t1' : decide (i < i) = false := decide_eq_false (by omega)
      have HB := Lib.hid (H1.out.2.1.trans (hbr.mono H1.out.2.1.size))
      clear hbr
      go_wp2_with fail
      go_ret
      exact ⟨rfl, HB.out⟩
end Go.Proofs.YthjjdcfkdmhmlaaDoor
namespace Go.MixT
open Go.RowKit

/-- w' is w with new memory; what was there has not changed. -/
def Sm (w w' : World) : Prop := Below w.heap.size w w'
theorem Sm.refl (w : World) : Sm w w := Below.refl _ _
theorem Sm.trans {a b c : World} (h : Sm a b) (k : Sm b c) : Sm a c := Below.trans h (Below.mono k (Below.size h))
theorem Sm.drew (w : World) : Sm w w.drew := (Below.refl _ _).drew

/-- Of w' the blocks that N names are as they were in w. -/
structure Grow (N : Nat → Prop) (w w' : World) : Prop where
  os : w'.os = w.os
  tape : w'.tape = w.tape
  output : w'.output = w.output
  size : w.heap.size ≤ w'.heap.size
  keep : ∀ k, N k → k < w.heap.size → w'.heap[k]? = w.heap[k]?
theorem Grow.refl {N : Nat → Prop} (w : World) : Grow N w w := ⟨rfl, rfl, rfl, Nat.le_refl _, fun _ _ _ => rfl⟩
theorem Grow.trans {N : Nat → Prop} {a b c : World} (h : Grow N a b) (k : Grow N b c) : Grow N a c :=
  ⟨k.os.trans h.os, k.tape.trans h.tape, k.output.trans h.output, Nat.le_trans h.size k.size, fun i hi hl => (k.keep i hi (Nat.lt_of_lt_of_le hl h.size)).trans (h.keep i hi hl)⟩
theorem Sm.grow {N : Nat → Prop} {a b : World} (h : Sm a b) : Grow N a b := ⟨h.os, h.tape, h.output, h.size, fun k _ hk => h.block k hk⟩

/-- A world behind w. -/
def Later (N : Nat → Prop) (w : World) := { w' : World // Grow N w w' }

instance (N : Nat → Prop) (w : World) : Nonempty (Later N w) := ⟨⟨w, Grow.refl w⟩⟩

/-- An end by panic, the deferred ones being D. -/
def PanQ (D : List Deferred) (E : List PanicEntry → World → Prop) : Exit → Act → World → Prop
  | .panic c, a, w => a.defers = D ∧ E c w
  | _, _, _ => False

section
variable {D : List Deferred} {E : List PanicEntry → World → Prop} {N : Nat → Prop} {P : Program} {ops : Array Oper} {md : Region.Mode} {Q : Act → World → Prop}

def calmUpon (_N : Nat → Prop) (P : Program) (w : World) (v : Value) : Result Next → Prop
  | .ok (.value u) w' => w' = w ∧ u = v
  | .ok .skip w' => w' = w ∧ v = undef
  | .ok (.enter f args) w' => w' = w ∧ Calls P f args w (fun e w'' => e = .returned v ∧ Sm w w'')
  | _ => False

def calmAt (N : Nat → Prop) (P : Program) (o : Oper) (a : Act) (w : World) (v : Value) : Prop := calmUpon N P w v ((execOp a.eval o).run P w)

def CalmIn (N : Nat → Prop) (P : Program) (ops : Array Oper) (w : World) (o : Oper) (v : Value) (a : Act) : Prop :=
  (Region.wanted o (yielded ops a.tmps) = true ∧ ∀ w', Grow N w w' → calmAt N P o a w' v) ∨ (Region.wanted o (yielded ops a.tmps) = false ∧ v = undef)

theorem CalmIn.of_same {w : World} {o : Oper} {v : Value} {a a' : Act} (hy : CalmIn N P ops w o v a) (he : execOp a'.eval o = execOp a.eval o)
    (hw : Region.wanted o (yielded ops a'.tmps) = Region.wanted o (yielded ops a.tmps)) : CalmIn N P ops w o v a' := by
  unfold CalmIn calmAt at *
  rw [he, hw]
  exact hy

theorem CalmIn.later {w w' : World} {o : Oper} {v : Value} {a : Act} (hy : CalmIn N P ops w o v a) (hg : Grow N w w') : CalmIn N P ops w' o v a :=
  hy.imp (fun h => ⟨h.1, fun x hx => h.2 x (hg.trans hx)⟩) id

def opG (D : List Deferred) (E : List PanicEntry → World → Prop) (P : Program) (ops : Array Oper) (i : Nat) (K : Act → World → Prop) (a : Act) (w : World) : Prop :=
  match ops[i]? with
  | none => K a w
  | some o => if Region.wanted o (yielded ops a.tmps) then o.wp P a w K (PanQ D E) else K (a.put o.dst undef) w

theorem opG_mono {i : Nat} {a : Act} {w : World} {K K' : Act → World → Prop} (h : ∀ a w, K a w → K' a w) (hh : opG D E P ops i K a w) : opG D E P ops i K' a w := by
  unfold opG at *
  split
  · exact h _ _ (by simpa [*] using hh)
  · rename_i o ho
    simp only [ho] at hh
    split
    · rename_i hw; simp only [hw, if_true] at hh; exact Oper.wp_mono h hh
    · rename_i hw; simp only [hw] at hh; exact h _ _ hh

theorem wp_of_panQ {o : Oper} {a : Act} {w : World} {K : Act → World → Prop} {Q' : Exit → Act → World → Prop} (hE : ∀ c a' w', a'.defers = D → E c w' → Q' (.panic c) a' w') (hh : o.wp P a w K (PanQ D E)) : o.wp P a w K Q' := by
  unfold Oper.wp at *
  generalize (execOp a.eval o).run P w = r at *
  cases r with
  | ok n w' =>
    cases n <;> simp only [Oper.upon] at hh ⊢
    case enter f args =>
      exact Calls.mono hh fun e w'' he => by
        cases e with
        | returned u => exact he
        | panicked c => exact hE _ _ _ he.1 he.2
        | outgrown => obtain ⟨_, _, h⟩ := he; exact h.elim
    all_goals exact hh
  | halt x w' =>
    cases x <;> simp only [Oper.upon] at hh ⊢
    case panic v => exact hE _ _ _ hh.1 hh.2

/-- S: the operations that need not leave old memory alone ('sync'): each comes behind all that was taken first. -/
def anyG (D : List Deferred) (E : List PanicEntry → World → Prop) (N : Nat → Prop) (P : Program) (md : Region.Mode) (ops : Array Oper) (S : Nat → Bool) (Q : Act → World → Prop) : Nat → Array Bool → Act → World → Prop
  | 0, listed, a, w => ∀ w', Sm w w' → Region.ready md ops listed = [] ∧ Q a w'
  | fuel + 1, listed, a, w => ∀ w', Sm w w' → (Region.ready md ops listed = [] → Q a w') ∧
      ∀ i ∈ Region.ready md ops listed, opG D E P ops i (fun a' w'' => (S i = false → Grow N w' w'') ∧ anyG D E N P md ops S Q fuel (listed.setIfInBounds i true) a' w'') a w'

variable {S : Nat → Bool}

theorem anyG_later : ∀ {fuel : Nat} {listed : Array Bool} {a : Act} {w w' : World}, anyG D E N P md ops S Q fuel listed a w → Sm w w' → anyG D E N P md ops S Q fuel listed a w'
  | 0, _, _, _, _, h, hg => fun x hx => h x (hg.trans hx)
  | _ + 1, _, _, _, _, h, hg => fun x hx => h x (hg.trans hx)

theorem wpAny_of_G {Q' : Exit → Act → World → Prop} (hE : ∀ c a' w', a'.defers = D → E c w' → Q' (.panic c) a' w') (hQ : ∀ a w, Q a w → Q' .normal a w) : ∀ (fuel : Nat) (listed : Array Bool) (a : Act) (w : World),
    anyG D E N P md ops S Q fuel listed a w → wpAny P md ops Q' fuel listed a w
  | 0, _, _, w, h => ⟨(h w (Sm.refl w)).1, hQ _ _ (h w (Sm.refl w)).2⟩
  | fuel + 1, listed, a, w, h => ⟨fun h0 => hQ _ _ ((h w (Sm.refl w)).1 h0), fun i hi => by
      have h1 := (h w (Sm.refl w)).2 i hi
      have h2 := opG_mono (K' := wpAny P md ops Q' fuel (listed.setIfInBounds i true)) (fun a' w' hh => wpAny_of_G hE hQ fuel _ a' w' hh.2) h1
      unfold opG at h2
      unfold wpOp
      split
      · rename_i ho; simp only [ho] at h2; exact h2
      · rename_i o ho
        simp only [ho] at h2
        split
        · rename_i hw; simp only [hw, if_true] at h2; exact .inl (wp_of_panQ hE h2)
        · rename_i hw; simp only [hw] at h2; exact h2⟩

/-- What has come up has come up behind what it waits for. -/
def Closed (md : Region.Mode) (ops : Array Oper) (listed : Array Bool) : Prop :=
  ∀ j oj, ops[j]? = some oj → listed.getD j false = true → ∀ e ∈ oj.after, Region.binds md e = true → listed.getD e.on false = true

theorem Closed.set {i : Nat} {listed : Array Bool} (inv : Closed md ops listed) (hi : i ∈ Region.ready md ops listed) : Closed md ops (listed.setIfInBounds i true) := by
  obtain ⟨_, oi, hoi, hall⟩ := mem_ready.1 hi
  intro j oj hj hl e he hb
  by_cases hij : i = j
  · subst hij
    have : oj = oi := Option.some.inj (hj.symm.trans hoi)
    subst this
    exact getD_set_true (hall e he hb)
  · rw [getD_set_ne false hij] at hl
    exact getD_set_true (inv j oj hj hl e he hb)

/-- Operation j comes up behind i. -/
def ancB (md : Region.Mode) (ops : Array Oper) : Nat → Nat → Nat → Bool
  | 0, _, _ => false
  | f + 1, i, j => match ops[j]? with
    | some oj => oj.after.any fun e => Region.binds md e && (e.on == i || ancB md ops f i e.on)
    | none => false

theorem ancB_listed {listed : Array Bool} (inv : Closed md ops listed) : ∀ (f i j : Nat), ancB md ops f i j = true → listed.getD j false = true → listed.getD i false = true
  | f + 1, i, j, h, hl => by
    unfold ancB at h
    split at h
    · rename_i oj hj
      obtain ⟨e, he, hb⟩ := Array.any_eq_true'.1 h
      simp only [Bool.and_eq_true, Bool.or_eq_true, beq_iff_eq] at hb
      have h1 := inv j oj hj hl e he hb.1
      rcases hb.2 with h2 | h2
      · rw [← h2]; exact h1
      · exact ancB_listed inv f i e.on h2 h1
    · cases h

theorem ancB_ready {listed : Array Bool} (inv : Closed md ops listed) (f i j : Nat) (h : ancB md ops f i j = true) (hr : j ∈ Region.ready md ops listed) : listed.getD i false = true := by
  cases f with
  | zero => cases h
  | succ f =>
    obtain ⟨_, oj, hoj, hall⟩ := mem_ready.1 hr
    unfold ancB at h
    rw [hoj] at h
    obtain ⟨e, he, hb⟩ := Array.any_eq_true'.1 h
    simp only [Bool.and_eq_true, Bool.or_eq_true, beq_iff_eq] at hb
    have h1 := hall e he hb.1
    rcases hb.2 with h2 | h2
    · rw [← h2]; exact h1
    · exact ancB_listed inv f i e.on h2 h1

theorem CalmIn.opG {i : Nat} {o : Oper} {v : Value} {a : Act} {w w' : World} (hi : ops[i]? = some o) (hy : CalmIn N P ops w o v a) (hg : Grow N w w') {K : Act → World → Prop}
    (h : ∀ w'', Sm w' w'' → K (a.put o.dst v) w'') : opG D E P ops i K a w' := by
  unfold MixT.opG
  simp only [hi]
  rcases hy with ⟨hw, hv⟩ | ⟨hw, rfl⟩
  · simp only [hw, if_true]
    have h3 := hv w' hg
    unfold calmAt at h3
    unfold Oper.wp
    generalize (execOp a.eval o).run P w' = r at *
    cases r with
    | ok n x =>
      cases n <;> simp only [calmUpon] at h3 <;> simp only [Oper.upon]
      case value u => obtain ⟨e1, e2⟩ := h3; rw [e1, e2]; exact h _ (Sm.refl _)
      case skip => obtain ⟨e1, e2⟩ := h3; rw [e1, ← e2]; exact h _ (Sm.refl _)
      case enter f args =>
        obtain ⟨e1, hc⟩ := h3
        rw [e1]
        exact hc.mono fun e w'' ⟨he, hw''⟩ => by subst he; exact h _ hw''
    | halt x y => simp only [calmUpon] at h3
  · simp only [hw, Bool.false_eq_true, if_false]; exact h _ (Sm.refl _)

theorem panQ_put {x : Exit} {a : Act} {d : Option Nat} {v : Value} {w : World} (h : PanQ D E x (a.put d v) w) : PanQ D E x a w := by
  cases x with
  | panic c => exact ⟨by have h1 := h.1; cases d <;> exact h1, h.2⟩
  | _ => exact h.elim

theorem opG_putY {j : Nat} {oi oj : Oper} {v : Value} (Y : Act → Prop) (hj : ops[j]? = some oj) (hap : oi.apart ops oj = true)
    (hsj : ∀ cs b, oj.op ≠ .select cs b) (keep : ∀ (a : Act), Y a → ∀ u, Y (a.put oj.dst u)) {K : Act → World → Prop} {a : Act} {w : World} (keepD : ∀ d, Y { a with defers := d :: a.defers })
    (hy : Y a) (h : opG D E P ops j K (a.put oi.dst v) w) :
    opG D E P ops j (fun a' w' => Y a' ∧ K (a'.put oi.dst v) w') a w := by
  obtain ⟨h1, h2, h3⟩ := Oper.apart_spec hap
  unfold opG at *
  simp only [hj] at *
  rw [wanted_put oj a oi.dst v h1] at h
  split
  · rename_i hw
    simp only [hw, if_true] at h
    unfold Oper.wp at *
    rw [execOp_put oj hsj a oi.dst v h1] at h
    generalize (execOp a.eval oj).run P w = r at *
    cases r with
    | ok n w' =>
      cases n <;> simp only [Oper.upon] at h ⊢
      case value u => exact ⟨keep a hy u, by rw [← Act.put_comm a v u h2]; exact h⟩
      case skip => exact ⟨keep a hy _, by rw [← Act.put_comm a v undef h2]; exact h⟩
      case defer d =>
        refine ⟨keep _ (keepD d) _, ?_⟩
        rw [← Act.put_comm _ v undef h2, ← Act.put_defers]
        exact h
      case enter f args =>
        refine Calls.mono h fun e w'' he => ?_
        cases e with
        | returned u => exact ⟨keep a hy u, by rw [← Act.put_comm a v u h2]; exact he⟩
        | panicked c => exact panQ_put he
        | outgrown => exact he
      case row row args => exact Rows.mono h fun u w'' he => ⟨keep a hy u, by rw [← Act.put_comm a v u h2]; exact he⟩
    | halt x w' => cases x <;> simp only [Oper.upon] at h ⊢ <;> first | exact h | exact panQ_put h
  · rename_i hw
    simp only [hw] at h
    exact ⟨keep a hy _, by rw [← Act.put_comm a v undef h2]; exact h⟩

theorem opG_put {j : Nat} {oi oj : Oper} {v : Value} (hj : ops[j]? = some oj) (hap : oi.apart ops oj = true)
    (hsi : ∀ cs b, oi.op ≠ .select cs b) (hsj : ∀ cs b, oj.op ≠ .select cs b) {K : Act → World → Prop} {a : Act} {w w0 : World}
    (hy : CalmIn N P ops w0 oi v a) (h : opG D E P ops j K (a.put oi.dst v) w) :
    opG D E P ops j (fun a' w' => CalmIn N P ops w0 oi v a' ∧ K (a'.put oi.dst v) w') a w := by
  obtain ⟨_, _, h3⟩ := Oper.apart_spec hap
  exact opG_putY (CalmIn N P ops w0 oi v) hj hap hsj (fun a hy u => hy.of_same (execOp_put oi hsi a oj.dst u h3) (wanted_put oi a oj.dst u h3)) (fun d => hy.of_same rfl rfl) hy h

/-- Calm in every world. -/
def PureIn (N : Nat → Prop) (P : Program) (ops : Array Oper) (o : Oper) (v : Value) (a : Act) : Prop :=
  (Region.wanted o (yielded ops a.tmps) = true ∧ ∀ w', calmAt N P o a w' v) ∨ (Region.wanted o (yielded ops a.tmps) = false ∧ v = undef)

theorem PureIn.calm {o : Oper} {v : Value} {a : Act} (h : PureIn N P ops o v a) (w : World) : CalmIn N P ops w o v a := h.imp (fun h => ⟨h.1, fun x _ => h.2 x⟩) id

theorem PureIn.of_same {o : Oper} {v : Value} {a a' : Act} (hy : PureIn N P ops o v a) (he : execOp a'.eval o = execOp a.eval o)
    (hw : Region.wanted o (yielded ops a'.tmps) = Region.wanted o (yielded ops a.tmps)) : PureIn N P ops o v a' := by
  unfold PureIn calmAt at *
  rw [he, hw]
  exact hy

theorem anyG_pure {i : Nat} {oi : Oper} {v : Value} (hi : ops[i]? = some oi) (hsel : ∀ (j : Nat) (o : Oper) cs b, ops[j]? = some o → o.op ≠ .select cs b) :
    ∀ (fuel : Nat) (listed : Array Bool) (a : Act) (w : World),
      (∀ j oj, ops[j]? = some oj → j ≠ i → listed.getD j true = false → (∀ e ∈ oj.after, Region.binds md e = true → e.on ≠ i) → oi.apart ops oj = true) →
      i ∈ Region.ready md ops listed → PureIn N P ops oi v a →
      anyG D E N P md ops S Q fuel (listed.setIfInBounds i true) (a.put oi.dst v) w → anyG D E N P md ops S Q (fuel + 1) listed a w := by
  intro fuel
  induction fuel with
  | zero =>
    intro listed a w _ hr hy H w' hw'
    refine ⟨fun h => (by rw [h] at hr; cases hr), fun j hj => ?_⟩
    by_cases hji : j = i
    · subst hji; exact (hy.calm w).opG hi hw'.grow fun w'' hg => ⟨fun _ => hg.grow, anyG_later H (hw'.trans hg)⟩
    · have := ready_mono hj hji
      rw [(H w' hw').1] at this
      cases this
  | succ fuel ih =>
    intro listed a w hfree hr hy H w' hw'
    refine ⟨fun h => (by rw [h] at hr; cases hr), fun j hj => ?_⟩
    by_cases hji : j = i
    · subst hji; exact (hy.calm w).opG hi hw'.grow fun w'' hg => ⟨fun _ => hg.grow, anyG_later H (hw'.trans hg)⟩
    · have h1 := (H w' hw').2 j (ready_mono hj hji)
      obtain ⟨hjun, oj, hoj, hall⟩ := mem_ready.1 hj
      have hnot : ∀ e ∈ oj.after, Region.binds md e = true → e.on ≠ i := fun e he hb heq => by
        have h1 := hall e he hb
        have h0 := (mem_ready.1 hr).1
        rw [heq] at h1
        rcases Nat.lt_or_ge i listed.size with h' | h'
        · simp [h'] at h0 h1; rw [h0] at h1; cases h1
        · simp [Array.getElem?_eq_none h'] at h1
      have hap := hfree j oj hoj hji hjun hnot
      obtain ⟨_, _, h3⟩ := Oper.apart_spec hap
      have h2 := opG_putY (PureIn N P ops oi v) hoj hap (fun cs b => hsel j oj cs b hoj) (fun a hy u => hy.of_same (execOp_put oi (fun cs b => hsel i oi cs b hi) a oj.dst u h3) (wanted_put oi a oj.dst u h3)) (fun d => hy.of_same rfl rfl) hy h1
      have hfree' : ∀ k ok, ops[k]? = some ok → k ≠ i → (listed.setIfInBounds j true).getD k true = false →
          (∀ e ∈ ok.after, Region.binds md e = true → e.on ≠ i) → oi.apart ops ok = true := fun k ok hk hki hun hno => by
        refine hfree k ok hk hki ?_ hno
        by_cases hjk : j = k
        · subst hjk; exact hjun
        · rw [getD_set_ne true hjk] at hun; exact hun
      refine opG_mono (fun a' w'' h3 => ⟨h3.2.1, ih (listed.setIfInBounds j true) a' w'' hfree' (ready_mono hr (Ne.symm hji)) h3.1 ?_⟩) h2
      rw [Array.setIfInBounds_comm _ _ hji]
      exact h3.2.2

theorem anyG_first {i : Nat} {oi : Oper} {v : Value} (hi : ops[i]? = some oi) (hsel : ∀ (j : Nat) (o : Oper) cs b, ops[j]? = some o → o.op ≠ .select cs b) :
    ∀ (fuel : Nat) (listed : Array Bool) (a : Act) (w : World),
      (∀ j oj, ops[j]? = some oj → j ≠ i → listed.getD j true = false → (∀ e ∈ oj.after, Region.binds md e = true → e.on ≠ i) → oi.apart ops oj = true) →
      Closed md ops listed → (∀ j, j ≠ i → S j = true → listed.getD j false = true ∨ ∃ f, ancB md ops f i j = true) → i ∈ Region.ready md ops listed → CalmIn N P ops w oi v a →
      anyG D E N P md ops S Q fuel (listed.setIfInBounds i true) (a.put oi.dst v) w → anyG D E N P md ops S Q (fuel + 1) listed a w := by
  intro fuel
  induction fuel with
  | zero =>
    intro listed a w _ _ _ hr hy H w' hw'
    refine ⟨fun h => (by rw [h] at hr; cases hr), fun j hj => ?_⟩
    by_cases hji : j = i
    · subst hji; exact hy.opG hi hw'.grow fun w'' hg => ⟨fun _ => hg.grow, anyG_later H (hw'.trans hg)⟩
    · have := ready_mono hj hji
      rw [(H w' hw').1] at this
      cases this
  | succ fuel ih =>
    intro listed a w hfree hcl hanc hr hy H w' hw'
    refine ⟨fun h => (by rw [h] at hr; cases hr), fun j hj => ?_⟩
    by_cases hji : j = i
    · subst hji; exact hy.opG hi hw'.grow fun w'' hg => ⟨fun _ => hg.grow, anyG_later H (hw'.trans hg)⟩
    · have h1 := (H w' hw').2 j (ready_mono hj hji)
      obtain ⟨hjun, oj, hoj, hall⟩ := mem_ready.1 hj
      have hnot : ∀ e ∈ oj.after, Region.binds md e = true → e.on ≠ i := fun e he hb heq => by
        have h1 := hall e he hb
        have h0 := (mem_ready.1 hr).1
        rw [heq] at h1
        rcases Nat.lt_or_ge i listed.size with h' | h'
        · simp [h'] at h0 h1; rw [h0] at h1; cases h1
        · simp [Array.getElem?_eq_none h'] at h1
      have h2 := opG_put hoj (hfree j oj hoj hji hjun hnot) (fun cs b => hsel i oi cs b hi) (fun cs b => hsel j oj cs b hoj) hy h1
      have hfree' : ∀ k ok, ops[k]? = some ok → k ≠ i → (listed.setIfInBounds j true).getD k true = false →
          (∀ e ∈ ok.after, Region.binds md e = true → e.on ≠ i) → oi.apart ops ok = true := fun k ok hk hki hun hno => by
        refine hfree k ok hk hki ?_ hno
        by_cases hjk : j = k
        · subst hjk; exact hjun
        · rw [getD_set_ne true hjk] at hun; exact hun
      have hSj : S j = false := by
        cases hs : S j with
        | false => rfl
        | true =>
          rcases hanc j hji hs with h6 | ⟨f, hf⟩
          · rcases Nat.lt_or_ge j listed.size with h' | h'
            · simp [h'] at h6 hjun; rw [hjun] at h6; cases h6
            · simp [Array.getElem?_eq_none h'] at h6
          have h4 := ancB_ready hcl f i j hf hj
          have h5 := (mem_ready.1 hr).1
          rcases Nat.lt_or_ge i listed.size with h' | h'
          · simp [h'] at h4 h5; rw [h5] at h4; cases h4
          · simp [Array.getElem?_eq_none h'] at h4
      refine opG_mono (fun a' w'' h3 => ⟨h3.2.1, ih (listed.setIfInBounds j true) a' w'' hfree' (hcl.set hj) (fun k hk hs => (hanc k hk hs).imp getD_set_true id) (ready_mono hr (Ne.symm hji)) (h3.1.later (hw'.grow.trans (h3.2.1 hSj))) ?_⟩) h2
      rw [Array.setIfInBounds_comm _ _ hji]
      exact h3.2.2

/-! ### The chosen order -/

/-- 0: calm; 1: loud; 2: sync; 3: pure. -/
def mixB (md : Region.Mode) (ops : Array Oper) : List (Nat × Nat) → Array Bool → Bool
  | [], listed => (Region.ready md ops listed).isEmpty
  | (i, 0) :: r, listed => (Region.ready md ops listed).contains i && Region.free md ops listed i && (r.all fun x => decide (x.2 ≠ 2) || x.1 == i || ancB md ops ops.size i x.1) && mixB md ops r (listed.setIfInBounds i true)
  | (i, 3) :: r, listed => (Region.ready md ops listed).contains i && Region.free md ops listed i && mixB md ops r (listed.setIfInBounds i true)
  | (i, _) :: r, listed => (Region.ready md ops listed == [i]) && mixB md ops r (listed.setIfInBounds i true)

/-- The sync ones of an order. -/
def syncOf (l : List (Nat × Nat)) (i : Nat) : Bool := l.any fun x => x.1 == i && decide (x.2 = 2)

def calmStep (N : Nat → Prop) (P : Program) (ops : Array Oper) (o : Oper) (K : Act → Prop) (a : Act) (w : World) : Prop :=
  if Region.wanted o (yielded ops a.tmps) then ∃ v, (∀ x : Later N w, calmAt N P o a x.1 v) ∧ K (a.put o.dst v) else K (a.put o.dst undef)

def pureStep (N : Nat → Prop) (P : Program) (ops : Array Oper) (o : Oper) (K : Act → Prop) (a : Act) : Prop :=
  if Region.wanted o (yielded ops a.tmps) then ∃ v, (∀ x : World, calmAt N P o a x v) ∧ K (a.put o.dst v) else K (a.put o.dst undef)

def loudStep (D : List Deferred) (E : List PanicEntry → World → Prop) (N : Nat → Prop) (P : Program) (ops : Array Oper) (sync : Bool) (o : Oper) (K : Act → World → Prop) (a : Act) (w : World) : Prop :=
  if Region.wanted o (yielded ops a.tmps) then ∀ w', Sm w w' → o.wp P a w' (fun a' w'' => (sync = false → Grow N w' w'') ∧ K a' w'') (PanQ D E) else K (a.put o.dst undef) w

def wpMix (D : List Deferred) (E : List PanicEntry → World → Prop) (N : Nat → Prop) (P : Program) (ops : Array Oper) (Q : Act → World → Prop) : List (Nat × Nat) → Act → World → Prop
  | [], a, w => ∀ w', Sm w w' → Q a w'
  | (i, 0) :: r, a, w => match ops[i]? with
    | none => False
    | some o => calmStep N P ops o (fun a' => wpMix D E N P ops Q r a' w) a w
  | (i, 1) :: r, a, w => match ops[i]? with
    | none => False
    | some o => loudStep D E N P ops false o (wpMix D E N P ops Q r) a w
  | (i, 2) :: r, a, w => match ops[i]? with
    | none => False
    | some o => loudStep D E N P ops true o (wpMix D E N P ops Q r) a w
  | (i, 3) :: r, a, w => match ops[i]? with
    | none => False
    | some o => pureStep N P ops o (fun a' => wpMix D E N P ops Q r a' w) a
  | (_, _ + 4) :: _, _, _ => False

theorem getD_set_self {listed : Array Bool} {i : Nat} (h : listed.getD i true = false) : (listed.setIfInBounds i true).getD i false = true := by
  have hlt : i < listed.size := by
    rcases Nat.lt_or_ge i listed.size with h' | h'
    · exact h'
    · simp [Array.getElem?_eq_none h'] at h
  simp [hlt]

theorem anyG_of_mix (hs : Region.noSelect ops = true) : ∀ (l : List (Nat × Nat)) (listed : Array Bool) (a : Act) (w : World), Closed md ops listed → mixB md ops l listed = true →
    (∀ x ∈ l, x.2 = 2 → S x.1 = true) → (∀ j, S j = true → listed.getD j false = true ∨ syncOf l j = true) → wpMix D E N P ops Q l a w → anyG D E N P md ops S Q l.length listed a w
  | [], listed, a, w, _, hB, _, _, h => fun w' hw' => ⟨by simpa [mixB] using hB, h w' hw'⟩
  | (i, 0) :: r, listed, a, w, hcl, hB, hS, hcov, h => by
    simp only [mixB, Bool.and_eq_true] at hB
    obtain ⟨⟨⟨hr, hf⟩, hanc⟩, hB'⟩ := hB
    have hri : i ∈ Region.ready md ops listed := by simpa using hr
    have hcov' : ∀ j, S j = true → listed.getD j false = true ∨ syncOf r j = true := fun j hj => (hcov j hj).imp id fun h1 => by simpa [syncOf] using h1
    have hcov2 : ∀ j, S j = true → (listed.setIfInBounds i true).getD j false = true ∨ syncOf r j = true := fun j hj => (hcov' j hj).imp getD_set_true id
    have hanc' : ∀ j, j ≠ i → S j = true → listed.getD j false = true ∨ ∃ f, ancB md ops f i j = true := fun j hji hj => (hcov' j hj).imp id fun h1 => by
      unfold syncOf at h1
      obtain ⟨x, hx, hx2⟩ := List.any_eq_true.1 h1
      simp only [Bool.and_eq_true, beq_iff_eq, decide_eq_true_eq] at hx2
      have h2 := List.all_eq_true.1 hanc x hx
      simp only [Bool.or_eq_true, beq_iff_eq, decide_eq_true_eq] at h2
      rcases h2 with (h2 | h2) | h2
      · omega
      · exact absurd (hx2.1.symm.trans h2) hji
      · rw [hx2.1] at h2; exact ⟨_, h2⟩
    have hS' : ∀ x ∈ r, x.2 = 2 → S x.1 = true := fun x hx => hS x (List.mem_cons_of_mem _ hx)
    simp only [wpMix] at h
    split at h
    · exact h.elim
    · rename_i o ho
      unfold calmStep at h
      by_cases hw : Region.wanted o (yielded ops a.tmps) = true
      · simp only [hw, if_true] at h
        obtain ⟨v, h1, h2⟩ := h
        exact anyG_first ho (Region.noSelect_spec hs) r.length listed a w (Region.free_spec ho hf) hcl hanc' hri (.inl ⟨hw, fun w' hw' => h1 ⟨w', hw'⟩⟩) (anyG_of_mix hs r _ _ _ (hcl.set hri) hB' hS' hcov2 h2)
      · simp only [hw] at h
        exact anyG_first ho (Region.noSelect_spec hs) r.length listed a w (Region.free_spec ho hf) hcl hanc' hri (.inr ⟨by simpa using hw, rfl⟩) (anyG_of_mix hs r _ _ _ (hcl.set hri) hB' hS' hcov2 h)
  | (i, 1) :: r, listed, a, w, hcl, hB, hS, hcov, h => by
    simp only [mixB, Bool.and_eq_true, beq_iff_eq] at hB
    obtain ⟨hr, hB'⟩ := hB
    have hri : i ∈ Region.ready md ops listed := by rw [hr]; simp
    have hcov2 : ∀ j, S j = true → (listed.setIfInBounds i true).getD j false = true ∨ syncOf r j = true := fun j hj => (hcov j hj).imp getD_set_true fun h1 => by simpa [syncOf] using h1
    have hS' : ∀ x ∈ r, x.2 = 2 → S x.1 = true := fun x hx => hS x (List.mem_cons_of_mem _ hx)
    simp only [wpMix] at h
    split at h
    · exact h.elim
    · rename_i o ho
      intro w' hw'
      refine ⟨fun e => (by rw [hr] at e; cases e), fun j hj => ?_⟩
      rw [hr] at hj
      obtain rfl : j = i := by simpa using hj
      unfold opG
      simp only [ho]
      unfold loudStep at h
      by_cases hw : Region.wanted o (yielded ops a.tmps) = true
      · simp only [hw, if_true] at h ⊢
        exact Oper.wp_mono (fun a' w'' hh => ⟨fun _ => hh.1 (by simp), anyG_of_mix hs r _ _ _ (hcl.set hri) hB' hS' hcov2 hh.2⟩) (h w' hw')
      · simp only [hw] at h ⊢
        exact ⟨fun _ => Grow.refl _, anyG_later (anyG_of_mix hs r _ _ _ (hcl.set hri) hB' hS' hcov2 h) hw'⟩
  | (i, 2) :: r, listed, a, w, hcl, hB, hS, hcov, h => by
    simp only [mixB, Bool.and_eq_true, beq_iff_eq] at hB
    obtain ⟨hr, hB'⟩ := hB
    have hri : i ∈ Region.ready md ops listed := by rw [hr]; simp
    have hSi : S i = true := hS (i, 2) (by simp) rfl
    have hcov2 : ∀ j, S j = true → (listed.setIfInBounds i true).getD j false = true ∨ syncOf r j = true := fun j hj => by
      rcases hcov j hj with h1 | h1
      · exact .inl (getD_set_true h1)
      · unfold syncOf at h1 ⊢
        simp only [List.any_cons, Bool.or_eq_true, Bool.and_eq_true, beq_iff_eq] at h1
        rcases h1 with h1 | h1
        · rw [← h1.1]; exact .inl (getD_set_self (mem_ready.1 hri).1)
        · exact .inr h1
    have hS' : ∀ x ∈ r, x.2 = 2 → S x.1 = true := fun x hx => hS x (List.mem_cons_of_mem _ hx)
    simp only [wpMix] at h
    split at h
    · exact h.elim
    · rename_i o ho
      intro w' hw'
      refine ⟨fun e => (by rw [hr] at e; cases e), fun j hj => ?_⟩
      rw [hr] at hj
      obtain rfl : j = i := by simpa using hj
      unfold opG
      simp only [ho]
      unfold loudStep at h
      by_cases hw : Region.wanted o (yielded ops a.tmps) = true
      · simp only [hw, if_true] at h ⊢
        exact Oper.wp_mono (fun a' w'' hh => ⟨fun e => (by rw [hSi] at e; cases e), anyG_of_mix hs r _ _ _ (hcl.set hri) hB' hS' hcov2 hh.2⟩) (h w' hw')
      · simp only [hw] at h ⊢
        exact ⟨fun e => (by rw [hSi] at e; cases e), anyG_later (anyG_of_mix hs r _ _ _ (hcl.set hri) hB' hS' hcov2 h) hw'⟩
  | (i, 3) :: r, listed, a, w, hcl, hB, hS, hcov, h => by
    simp only [mixB, Bool.and_eq_true] at hB
    obtain ⟨⟨hr, hf⟩, hB'⟩ := hB
    have hri : i ∈ Region.ready md ops listed := by simpa using hr
    have hcov2 : ∀ j, S j = true → (listed.setIfInBounds i true).getD j false = true ∨ syncOf r j = true := fun j hj => (hcov j hj).imp getD_set_true fun h1 => by simpa [syncOf] using h1
    have hS' : ∀ x ∈ r, x.2 = 2 → S x.1 = true := fun x hx => hS x (List.mem_cons_of_mem _ hx)
    simp only [wpMix] at h
    split at h
    · exact h.elim
    · rename_i o ho
      unfold pureStep at h
      by_cases hw : Region.wanted o (yielded ops a.tmps) = true
      · simp only [hw, if_true] at h
        obtain ⟨v, h1, h2⟩ := h
        exact anyG_pure ho (Region.noSelect_spec hs) r.length listed a w (Region.free_spec ho hf) hri (.inl ⟨hw, h1⟩) (anyG_of_mix hs r _ _ _ (hcl.set hri) hB' hS' hcov2 h2)
      · simp only [hw] at h
        exact anyG_pure ho (Region.noSelect_spec hs) r.length listed a w (Region.free_spec ho hf) hri (.inr ⟨by simpa using hw, rfl⟩) (anyG_of_mix hs r _ _ _ (hcl.set hri) hB' hS' hcov2 h)
  | (_, _ + 4) :: _, _, _, _, _, _, _, _, h => h.elim

theorem closed_start (n : Nat) : Closed md ops (Array.replicate n false) := by
  intro j oj _ h
  rcases Nat.lt_or_ge j n with h' | h' <;> simp [h'] at h

/-- The region, in the chosen order. -/
theorem wp_region_mix {id : Nat} {Q' : Exit → Act → World → Prop} {a : Act} {w : World} {l : List Oper} (order : List (Nat × Nat)) (hm : P.follows .mixedOrders = true) (hE : ∀ c a' w', a'.defers = D → E c w' → Q' (.panic c) a' w')
    (hB : (Region.noSelect l.toArray && decide (order.length = l.length) && mixB .any l.toArray order (Array.replicate l.length false)) = true)
    (h : wpMix D E N P l.toArray (fun a' w' => Q' .normal a' w') order a w) : (Code.region id l.toArray true).wp P Q' a w := by
  simp only [Bool.and_eq_true, decide_eq_true_eq] at hB
  obtain ⟨⟨hs, hl⟩, hB⟩ := hB
  refine wp_region_any hm (wpAny_of_G (N := N) (S := syncOf order) (Q := fun a' w' => Q' .normal a' w') hE (fun _ _ h => h) _ _ _ _ ?_)
  have h2 := anyG_later (anyG_of_mix (md := .any) (S := syncOf order) hs order (Array.replicate l.length false) a w (closed_start _) hB
    (fun x hx hx2 => List.any_eq_true.2 ⟨x, hx, by simp [hx2]⟩) (fun j hj => .inr hj) h) (Sm.drew w)
  rw [hl] at h2
  simpa using h2

/-! ### Its steps -/

theorem mix_nil {a : Act} {w : World} (h : ∀ w', Sm w w' → Q a w') : wpMix D E N P ops Q [] a w := h

theorem mix_calm {i : Nat} {r : List (Nat × Nat)} {o : Oper} {a : Act} {w : World} (ho : ops[i]? = some o)
    (h : ∀ K : Act → Prop, (∀ a, wpMix D E N P ops Q r a w → K a) → calmStep N P ops o K a w) : wpMix D E N P ops Q ((i, 0) :: r) a w := by
  simp only [wpMix, ho]; exact h _ fun _ h => h

theorem wp_of_list {o : Oper} {a : Act} {w : World} {K : Act → World → Prop} (hw : Region.wanted o (yielded ops a.tmps) = true) (h1 : wpList P ops (Exit.then K (PanQ D E)) [o] a w) : o.wp P a w K (PanQ D E) := by
  unfold wpList at h1
  rw [if_pos hw] at h1
  rcases h1 with h1 | ⟨_, _, _, h1⟩
  · have h2 : o.wp P a w (wpList P ops (Exit.then K (PanQ D E)) []) (PanQ D E) := by
      unfold Oper.wp at *
      generalize (execOp a.eval o).run P w = x at *
      cases x with
      | ok n y =>
        cases n <;> simp only [Oper.upon] at h1 ⊢
        case enter f args =>
          exact Calls.mono h1 fun e w'' he => by
            cases e with
            | returned u => exact he
            | panicked c => exact he
            | outgrown => obtain ⟨_, _, h⟩ := he; exact h.elim
        all_goals exact h1
      | halt x y => cases x <;> simp only [Oper.upon] at h1 ⊢ <;> exact h1
    exact Oper.wp_mono (fun a' w'' hh => hh) h2
  · exact h1.elim

theorem mix_pure {i : Nat} {r : List (Nat × Nat)} {o : Oper} {a : Act} {w : World} (ho : ops[i]? = some o)
    (h : ∀ K : Act → Prop, (∀ a, wpMix D E N P ops Q r a w → K a) → pureStep N P ops o K a) : wpMix D E N P ops Q ((i, 3) :: r) a w := by
  simp only [wpMix, ho]; exact h _ fun _ h => h

theorem mix_loud {i : Nat} {r : List (Nat × Nat)} {o : Oper} {a : Act} {w : World} (ho : ops[i]? = some o) (hw : Region.wanted o (yielded ops a.tmps) = true)
    (h : ∀ w', Sm w w' → ∀ K : Act → World → Prop, (∀ a' w'', Grow N w' w'' → wpMix D E N P ops Q r a' w'' → K a' w'') → wpList P ops (Exit.then K (PanQ D E)) [o] a w') : wpMix D E N P ops Q ((i, 1) :: r) a w := by
  simp only [wpMix, ho, loudStep, hw, if_true]
  exact fun w' hw' => wp_of_list hw (h w' hw' _ fun a' w'' h1 h2 => ⟨fun _ => h1, h2⟩)

theorem mix_sync {i : Nat} {r : List (Nat × Nat)} {o : Oper} {a : Act} {w : World} (ho : ops[i]? = some o) (hw : Region.wanted o (yielded ops a.tmps) = true)
    (h : ∀ w', Sm w w' → ∀ K : Act → World → Prop, (∀ a' w'', wpMix D E N P ops Q r a' w'' → K a' w'') → wpList P ops (Exit.then K (PanQ D E)) [o] a w') : wpMix D E N P ops Q ((i, 2) :: r) a w := by
  simp only [wpMix, ho, loudStep, hw, if_true]
  exact fun w' hw' => wp_of_list hw (h w' hw' _ fun a' w'' h2 => ⟨fun e => (by cases e), h2⟩)

theorem mix_loud_skip {i : Nat} {r : List (Nat × Nat)} {o : Oper} {a : Act} {w : World} (ho : ops[i]? = some o) (hw : Region.wanted o (yielded ops a.tmps) = false)
    (h : wpMix D E N P ops Q r (a.put o.dst undef) w) : wpMix D E N P ops Q ((i, 1) :: r) a w := by
  simp only [wpMix, ho, loudStep, hw]; exact h

theorem mix_sync_skip {i : Nat} {r : List (Nat × Nat)} {o : Oper} {a : Act} {w : World} (ho : ops[i]? = some o) (hw : Region.wanted o (yielded ops a.tmps) = false)
    (h : wpMix D E N P ops Q r (a.put o.dst undef) w) : wpMix D E N P ops Q ((i, 2) :: r) a w := by
  simp only [wpMix, ho, loudStep, hw]; exact h

/-- A callee that hands back one known value and only makes memory. -/
theorem calls_calm {f : FuncId} {args : Array Value} {w : World} {v : Value} (h : Calls P f args w fun e w' => e = .returned v ∧ w = w') : Calls P f args w fun e w'' => e = .returned v ∧ Sm w w'' :=
  h.mono fun _ _ ⟨he, hw⟩ => ⟨he, by rw [← hw]; exact Sm.refl _⟩

end
attribute [go_sem] calmStep pureStep calmAt calmUpon
end Go.MixT
namespace Go.Proofs.YthjjdcfkdmhmlaaDoor
open Go.RowKit Go.Mix Go.WideMaps Go.Maps Go.WideShapes Go.ChangeShapes

theorem mt_load7 {D : List Deferred} {E : List PanicEntry → World → Prop} {N : Nat → Prop} {P : Program} {ops : Array Oper} {Q : Go.Act → World → Prop} {i : Nat} {r : List (Nat × Nat)} {o : Oper} {a : Go.Act} {w : World} (ho : ops[i]? = some o) (hw : Region.wanted o (yielded ops a.tmps) = true)
    (ty : TypeId) (x : Operand) (hop : o.op = .load ty x) (V v : Value) (hx : a.eval x = V) (hl : ∀ y : MixT.Later N w, (Instr.loadAt ty V).run P y.1 = .ok v y.1)
    (h : MixT.wpMix D E N P ops Q r (a.put o.dst v) w) : MixT.wpMix D E N P ops Q ((i, 0) :: r) a w := by
  refine MixT.mix_calm ho (fun K hK => ?_)
  unfold MixT.calmStep
  rw [if_pos hw]
  refine ⟨v, fun y => ?_, hK _ h⟩
  unfold MixT.calmAt execOp
  simp only [hop, hx, Sem.run_bind, Sem.run_pure, Result.andThen_ok, hl y]
  exact ⟨rfl, rfl⟩
/-- Blocks behind B that the store does not own. -/
def Qof (own : Owns) (B : Nat) (j : Nat) : Prop := own j = none ∧ B ≤ j

set_option maxRecDepth 100000 in
set_option maxHeartbeats 4000000 in
theorem filesPlay_walk (qu : Int) (a : Option Addr) (len cap : Nat) (l : List ActA) (w : World)
    (hqu : (Lit.int .i64 qu).wf = true) (hl : l.length = len) (h : RsAt encA 6 w a cap l) (hx : ∀ p ∈ l, ActIs w p) :
    Calls Tryd.prog 7 #[.int .i64 qu, .slice a len cap] w fun e w' => e = .returned (.bool true) ∧ Below w.heap.size w w' := by
  have CF := few_any h hx
  have hqb := bounds_i64 hqu
  rw [hl] at CF
  clear h hx hl hqu
  go_enter Tryd.func7, Tryd.ntmps7
  go_wp2_with fail
  refine CF.mono ?_
  clear CF
  rintro e w1 ⟨v1, L, X, rfl, hL, hL60, hall⟩
  obtain ⟨aL, cL, rfl, hrs, -⟩ := hL.rs tyA
  obtain ⟨n, hn⟩ : ∃ n, n = L.length := ⟨_, rfl⟩
  rw [← hn]
  have CN := new_live qu w1
  have H1 := Lib.hid (And.intro hL.frame (And.intro hrs (And.intro hall (And.intro hn hqb))))
  have hn6 : n ≤ 60 := by omega
  clear hL hrs hall hL60 hn hqb
  go_wp2_with fail
  refine CN.mono ?_
  clear CN
  rintro e w2 ⟨p, own2, rfl, l2⟩
  have hQ2 : ∀ k, w2.heap.size ≤ k → Qof own2 w1.heap.size k := fun k hk => ⟨l2.not_new hk, Nat.le_trans l2.frame.size hk⟩
  have CT := rfNew_any (Q := Qof own2 w1.heap.size) qu w2 hQ2
  have L2 := Lib.hid l2
  obtain ⟨t, ht⟩ : ∃ t, t = w2.heap.size := ⟨_, rfl⟩
  rw [← ht] at CT
  have HT := Lib.hid ht
  clear l2 hQ2 ht
  go_wp2_with fail
  refine CT.mono ?_
  clear CT
  rintro e w3 ⟨rfl, hr3, hb3⟩
  rw [HT.out] at hb3
  have H3 := Lib.hid (And.intro (L2.out.below hb3) hr3)
  clear hr3 hb3
  unfold ptr at *
  go_wp2_with fail
  go_loopw [7] (fun s7 wr => ∃ (i : Nat) (cr : Bool) (own' : Owns) (S : StP) (v : Value), s7 = .int .i64 (i : Int) ∧ i ≤ n ∧ Live w1.heap.size w1 own' wr p S ∧ OkS (301 * i) S ∧ RoomP qu cr S ∧ RefAt (Qof own' w1.heap.size) wr t v S.quota S.files (leftS S) S.down) (fun s7 _ => n - (intOf s7).toNat)
  case atStart => exact ⟨0, false, own2, newS qu, _, rfl, Nat.zero_le _, H3.out.1, OkS.new qu H1.out.2.2.2.2, RoomP.new qu, H3.out.2⟩
  case round =>
    obtain ⟨i, cr, own3, S, v, rfl, hi, l3, ok3, rm3, hr3⟩ := hrel
    have H3 := Lib.hid (And.intro l3 (And.intro ok3 (And.intro rm3 hr3)))
    by_cases hin : i < n
    · have t1 : decide ((i : Int) < (n : Int)) = true := decide_eq_true (by omega)
      have t1' : decide (i < n) = true := decide_eq_true hin
      have hil : i < L.length := by rw [← H1.out.2.2.2.1]; exact hin
      obtain ⟨b, q, IX, R, LD⟩ := H1.out.2.1.at tyA (i : Int) i rfl hil
      rw [← H1.out.2.2.2.1] at IX
      have LD0 : ∀ y : MixT.Later (fun k => k < w1.heap.size) wr, (Instr.loadAt 49 (.pointer (some ⟨b, q, none⟩))).run Tryd.prog y.1 = .ok (.agg (recA encA L[i]!)) y.1 := fun y => LD y.1 ⟨y.2.os.trans l3.frame.os, y.2.tape.trans l3.frame.tape, y.2.output.trans l3.frame.output, Nat.le_trans l3.frame.size y.2.size, fun k hk => (y.2.keep k hk (Nat.lt_of_lt_of_le hk l3.frame.size)).trans (l3.frame.block k hk)⟩
      have hiX : i < X.length := by rw [← H1.out.2.2.1.length]; exact hil
      have hof := H1.out.2.2.1.at hil hiX
      rw [getElem!_pos L i hil] at LD0
      generalize L[i] = ac at *
      generalize X[i] = x at *
      have ok4 := act_ok rm3 ok3 x hof.bl hof.wf.2
      have rm4 := rm3.act ok3 x
      have qu4 := quota_act S x
      have HOF := Lib.hid hof
      obtain ⟨⟨S5, m5⟩, hr5⟩ : ∃ r, r = actS S x := ⟨_, rfl⟩
      rw [← hr5] at ok4 rm4 qu4
      change OkS _ S5 at ok4
      change RoomP _ _ S5 at rm4
      change S5.quota = _ at qu4
      have HR5 := Lib.hid hr5
      clear hr5
      have H4 := Lib.hid (And.intro (ok4.mono (show 301 * i + 301 ≤ 301 * (i + 1) by omega)) (And.intro rm4 qu4))
      clear LD hil hiX hof R ok4 rm4 qu4 l3 ok3 rm3 hr3
      go_upto_region 6 with (fail)
      refine MixT.wp_region_mix (N := fun k => k < w1.heap.size) (D := []) (E := fun _ _ => False) [(0, 0), (1, 0), (2, 0), (3, 0), (4, 0), (6, 0), (7, 0), (8, 0), (9, 0), (10, 0), (5, 1), (11, 2), (12, 0), (13, 0), (14, 0), (15, 0), (16, 1), (17, 0), (18, 0)] (by kernel_rfl) (fun _ _ _ _ h => h.elim) (by kernel_rfl) ?_
      iterate 4 (refine MixT.mix_calm rfl (fun K hK => ?_); go_simp; (refine hK _ ?_; clear hK K))
      refine mt_load7 rfl rfl _ _ rfl _ _ rfl LD0 ?_
      iterate 4 (refine MixT.mix_calm rfl (fun K hK => ?_); go_simp; (refine hK _ ?_; clear hK K))
      refine mt_load7 rfl rfl _ _ rfl _ _ rfl LD0 ?_
      clear LD0 IX
      refine MixT.mix_loud rfl rfl (fun w4 hw4 K hK => ?_)
      have l4 := H3.out.1.below hw4
      have C5 := act_any l4.at_ H3.out.2.1 (by omega) (HOF.out.below (H1.out.1.trans (l4.frame.mono H1.out.1.size))) (fun hne y hy => H3.out.1.not_old (Nat.lt_of_lt_of_le (HOF.out.bs.blk hne y hy) H1.out.1.size)) (fun hne y hy => H3.out.1.not_old (Nat.lt_of_lt_of_le (rs_blk HOF.out.ks hne y hy) H1.out.1.size))
      have H44 := Lib.hid (And.intro l4 (H3.out.2.2.2.below hw4))
      clear l4 hw4
      rw [← HR5.out] at C5
      unfold ptr at C5
      go_wp2_with fail
      refine Calls.mono C5 ?_
      clear C5
      rintro e5 w5 hleft
      obtain ⟨rfl, own5, hs5, ht5⟩ := hleft
      have l5 := H44.out.1.turn hs5 ht5
      have gr5 : MixT.Grow (fun k => k < w1.heap.size) w4 w5 := ⟨l5.frame.os.trans H44.out.1.frame.os.symm, l5.frame.tape.trans H44.out.1.frame.tape.symm, l5.frame.output.trans H44.out.1.frame.output.symm, ht5.frame.size, fun k hk _ => (l5.frame.block k hk).trans (H44.out.1.frame.block k hk).symm⟩
      have r5 : RefAt (Qof own5 w1.heap.size) w5 t v S.quota S.files (leftS S) S.down := H44.out.2.keep ht5.frame.size fun j hq hj => ⟨⟨(ht5.ow.old j hj).trans hq.1, hq.2⟩, (ht5.frame.keep j ⟨hj, fun hn => hn hq.1⟩).2⟩
      have H5 := Lib.hid (And.intro l5 r5)
      clear hs5 ht5 l5 r5
      go_wp2_with fail
      refine hK _ _ gr5 ?_
      clear hK K gr5
      refine MixT.mix_sync rfl rfl (fun w6 hw6 K hK => ?_)
      have l6 := H5.out.1.below hw6
      have r6 := H5.out.2.below hw6
      have C6 := rfDo_any r6 (fun k hk => ⟨l6.not_new hk, Nat.le_trans l6.frame.size hk⟩) H3.out.2.1 (by omega) (HOF.out.below (H1.out.1.trans (l6.frame.mono H1.out.1.size))) (fun hne y hy => ⟨Nat.lt_of_lt_of_le (rs_blk HOF.out.ks hne y hy) (Nat.le_trans H1.out.1.size l6.frame.size), fun hq => by have := hq.2; have := rs_blk HOF.out.ks hne y hy; have := H1.out.1.size; omega⟩)
      rw [← HR5.out] at C6
      have H6 := Lib.hid l6
      clear l6 r6 hw6
      unfold ptr at C6
      go_wp2_with fail
      refine Calls.mono C6 ?_
      clear C6
      rintro e7 w7 ⟨rfl, v7, r7, f7⟩
      have l7 : Live w1.heap.size w1 own5 w7 p S5 := ⟨H6.out.at_.keep (FrameS.sub f7 fun k hk => ⟨H6.out.at_.lt k hk, fun hq => hk hq.1⟩), H6.out.far, ⟨f7.os.trans H6.out.frame.os, f7.tape.trans H6.out.frame.tape, f7.output.trans H6.out.frame.output, Nat.le_trans H6.out.frame.size f7.size, fun k hk => (f7.keep k ⟨Nat.lt_of_lt_of_le hk H6.out.frame.size, fun hq => by have := hq.2; omega⟩).2.trans (H6.out.frame.block k hk)⟩, H6.out.le⟩
      have H7 := Lib.hid (And.intro l7 r7)
      clear l7 r7 f7
      go_wp2_with fail
      have TNN : (m5 == m5) = true := beq_self_eq_true _
      iterate 4 (refine MixT.mix_calm rfl (fun K hK => ?_); go_simp; (refine hK _ ?_; clear hK K))
      refine MixT.mix_loud rfl rfl (fun w8 hw8 K hK => ?_)
      have C8 := same7_any (H7.out.1.at_.below hw8) H4.out.1 (by omega) (left := leftS S5) (down := S5.down) (by rw [H4.out.2.2]; exact H7.out.2.below hw8)
      have H8 : Hid (Below w7.heap.size w7 w8) := Lib.hid hw8
      clear hw8
      unfold ptr at C8
      refine wpList_unguard rfl ?_
      go_wp2_with fail
      refine Calls.mono C8 ?_
      clear C8
      rintro e9 w9 ⟨rfl, hb9⟩
      have H9 : Hid (Below w7.heap.size w7 w9) := Lib.hid (H8.out.trans (hb9.mono H8.out.size))
      have gr9 := MixT.Sm.grow (N := fun k => k < w1.heap.size) hb9
      clear hb9
      go_wp2_with fail
      refine hK _ _ gr9 ?_
      clear hK K gr9
      iterate 2 (refine MixT.mix_calm rfl (fun K hK => ?_); go_simp; (refine hK _ ?_; clear hK K))
      refine MixT.mix_nil fun w12 hw12 => ?_
      have H12 : Hid (Below w7.heap.size w7 w12) := Lib.hid (H9.out.trans (Below.mono hw12 H9.out.size))
      clear hw12
      go_wp2_with fail
      go_roundw
      case rel => exact ⟨i + 1, _, own5, S5, v7, by go_num, by omega, H7.out.1.below H12.out, H4.out.1, H4.out.2.1, by rw [H4.out.2.2]; exact H7.out.2.below H12.out⟩
      case measure => simp [intOf]; omega
    · obtain rfl : i = n := by omega
      have t1 : decide ((i : Int) < (i : Int)) = false := decide_eq_false (by omega)
      have t1' : decide (i < i) = false := decide_eq_false (by omega)
      clear l3 ok3 rm3 hr3
      go_wp2_with fail
      refine (known_any _).mono ?_
      rintro e w8 ⟨rfl, hw8⟩
      have L8 := Lib.hid (H1.out.1.trans ((H3.out.1.below hw8).frame.mono H1.out.1.size))
      clear hw8
      go_wp2_with fail
      go_ret
      exact ⟨rfl, L8.out⟩
end Go.Proofs.YthjjdcfkdmhmlaaDoor
