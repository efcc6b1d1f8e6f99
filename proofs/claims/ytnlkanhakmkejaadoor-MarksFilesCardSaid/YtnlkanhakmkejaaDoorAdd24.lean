/-
  The small functions that Hg and Git hand on.
  partner, Hg, Git: the walks.
  slices.Contains, ContainsFunc, Clone at pairs, and Add's own test.
  Add: the walk.
  The law's fixed question: the walk.
  The law's As, the document's Same and Right: the walks.
-/
import Derived.Test.YtnlkanhakmkejaaDoorPr24
import Derived.Test.YtnlkanhakmkejaaDoorShelfG
import Derived.Test.YtnlkanhakmkejaaDoorMixG
namespace Go.Proofs.YtnlkanhakmkejaaDoor
open Go.RowKit Go.Mix Go.WideMaps Go.Proofs

theorem below_setRow {B : Nat} {a w : World} (h : Below B a w) {g : Nat} (hg : B ≤ g) (cs : Array Value) : Below B a (w.setRow g cs) :=
  ⟨h.os, h.tape, h.output, by rw [setRow_size]; exact h.size, fun k hk => by rw [setRow_other w g k cs (by omega)]; exact h.block k hk⟩
theorem range_box (w : World) (C : List Value) (t : TypeId) : (w.alloc (.cells C.toArray t)).rangeAt w.heap.size 0 C := fun j v hj => by
  have hb : (w.alloc (.cells C.toArray t)).heap[w.heap.size]? = some (.cells C.toArray t (0, 0)) := heap_alloc_last w _ _ rfl
  rw [cell_of_row _ _ _ _ _ _ hb, Nat.zero_add]
  simpa using hj

theorem results_cell_tmp {P : Program} {fn : Func} {p t : Tmp} {ty : TypeId} (h : fn.results = #[.cell p ty, .tmp t]) (tmps : Array Value) (w : World) (g : Nat) (te : TypeId) (cs : Array Value) (fr : Nat × Nat) (d : TypeDesc)
    (hp : tmps.getD p undef = .pointer (some ⟨g, 0, none⟩)) (hg : w.heap[g]? = some (.cells cs te fr))
    (hu : P.underlying ty = some d) (hd : (match d with | .struct _ | .array _ _ => true | _ => false) = true) (hi : (P.info? ty).map (·.size) = some cs.size) :
    (results fn tmps).run P w = .ok (.tuple #[.agg cs, tmps.getD t undef]) w := by
  have hp' : tmps[p]?.getD undef = .pointer (some ⟨g, 0, none⟩) := by simpa using hp
  simp [results, h, hp', asAddr, run_loadVar_row w g te ty cs fr d hg hu hd hi]

theorem enters53 : ∀ args w, (callFunc 53 args).run Tryd.prog w = .ok (.enter 53 args) w := enters_of Tryd.func53 (by kernel_rfl) rfl

set_option maxRecDepth 100000 in
set_option maxHeartbeats 1000000 in
/-- Hg's test: is the pair's commit the one that the box at B holds? -/
theorem hgTest_any {B : Nat} {x : Id20} {w : World} (hc : w.rangeAt B 0 (idc x)) :
    PredBelow Tryd.prog 53 #[.pointer (some ⟨B, 0, none⟩)] (fun p => .agg (enc p).toArray) (fun p => decide (p.1 = x)) w := fun W p hb => by
  have hcW := range_below hc hb
  show Calls Tryd.prog 53 #[.agg (encAK p), .pointer (some ⟨B, 0, none⟩)] W _
  have hb1 : Below w.heap.size w (W.alloc (.cells (encAK p) 50)) := hb.alloc hb.size _
  have hr := rangeAt_enc.1 (range_box W (enc p) 50)
  have L1 := tyG.loadId p.1 _ _ _ hr.1
  have L2 := tyG.loadId x _ _ _ (range_below hc hb1)
  have E := eq_id_run arrG p.1 x
  have G := fun op a b => tyG.eqF.2 op a b p.1 x
  simp only [] at G
  change Sem.run _ _ (W.alloc (.cells (encAK p) 50)) = _ at L1
  have HB := Lib.hid hb1
  clear hb1 hr hcW hb hc
  go_enter Tryd.func53, Tryd.ntmps53
  go_wp2_with (first | (refine wpList_load_at rfl _ _ rfl _ _ rfl L1 ?_) | (refine wpList_load_at rfl _ _ rfl _ _ rfl L2 ?_))
  go_ret
  exact ⟨rfl, HB.out⟩
set_option maxRecDepth 100000 in
set_option maxHeartbeats 1000000 in
/-- What Hg tells of a pair. -/
theorem hgTells_any (p : Pr) (W : World) : Calls Tryd.prog 54 #[.agg (encAK p)] W fun e w' => e = .returned (.agg (idA p.2)) ∧ Below W.heap.size W w' := by
  have hr := rangeAt_enc.1 (range_box W (enc p) 50)
  obtain ⟨Z, hZ⟩ : ∃ Z, Z = idA id0 := ⟨_, rfl⟩
  have hA : Below W.heap.size W ((W.alloc (.cells (encAK p) 50)).alloc (.cells Z 46)) := ((Below.refl _ _).alloc (Nat.le_refl _) _).alloc (by simp) _
  have L1 : (Instr.loadAt 46 (.pointer (some ⟨W.heap.size, 20, none⟩))).run Tryd.prog ((W.alloc (.cells (encAK p) 50)).alloc (.cells Z 46)) = _ := tyG.loadId p.2 _ _ _ (range_below hr.2 ((Below.refl _ _).alloc (Nat.le_refl _) (.cells Z 46)))
  have z : ∀ w, (zeroValue 46).run Tryd.prog w = .ok (.agg Z) w := fun w => by rw [hZ]; kernel_rfl
  have hs : (W.alloc (.cells (encAK p) 50)).heap.size = W.heap.size + 1 := by simp
  have hb : ((W.alloc (.cells (encAK p) 50)).alloc (.cells Z 46)).heap[W.heap.size + 1]? = some (.cells Z 46 (0, 0)) := heap_alloc_last _ _ _ hs.symm
  have hZs : Z.size = 20 := by rw [hZ]; simp [idA, idc_len]
  have HZ := Lib.hid hZs
  have HA := Lib.hid hA
  clear hr hZ hA
  go_enter Tryd.func54, Tryd.ntmps54
  go_wp2_with (first | (refine wpList_load_at rfl _ _ rfl _ _ rfl L1 ?_) | (refine wpList_store_row rfl 46 _ _ rfl (W.heap.size + 1) (idA p.2) rfl rfl 46 Z hb (by rw [show (idA p.2).size = 20 by simp [idA, idc_len]]; exact tyG.fi) (by rw [HZ.out]; simp [idA, idc_len]) (all_oneCell_toArray (bcells_one _)) ?_))
  refine bodyPost_ret (results_cell_row rfl _ _ (W.heap.size + 1) 46 (idA p.2) (0, 0) _ rfl (setRow_heap _ _ _ _ _ _ hb) Tryd.underlying46 rfl (by rw [show (idA p.2).size = 20 by simp [idA, idc_len]]; exact tyG.fi)) rfl ?_
  exact ⟨rfl, below_setRow HA.out (by omega) _⟩
end Go.Proofs.YtnlkanhakmkejaaDoor
namespace Go.Proofs.YtnlkanhakmkejaaDoor
open Go.RowKit Go.Mix Go.WideMaps Go.Proofs

theorem idx_from (p : Pr → Bool) : ∀ (l : List Pr) (i : Nat), (l.find? p = none ∧ Go.Lib.idxByFrom (fun _ y => p y) default l i = -1) ∨ ∃ k, k < l.length ∧ Go.Lib.idxByFrom (fun _ y => p y) default l i = ((i + k : Nat) : Int) ∧ l.find? p = some l[k]!
  | [], i => .inl ⟨rfl, rfl⟩
  | y :: l, i => by
    cases hp : p y with
    | true => exact .inr ⟨0, by simp, by simp [Go.Lib.idxByFrom, hp], by simp [hp]⟩
    | false =>
      rcases idx_from p l (i + 1) with ⟨h1, h2⟩ | ⟨k, hk, h1, h2⟩
      · exact .inl ⟨by simp [hp, h1], by simp only [Go.Lib.idxByFrom, hp]; exact h2⟩
      · refine .inr ⟨k + 1, by simp; omega, ?_, by simp [hp, h2]⟩
        simp only [Go.Lib.idxByFrom, hp]
        rw [if_neg (by simp), h1]; omega
def idxP (p : Pr → Bool) (l : List Pr) : Int := Go.Lib.idxBy (fun _ y => p y) l default
theorem idx_find (p : Pr → Bool) (l : List Pr) : (l.find? p = none ∧ idxP p l = -1) ∨ ∃ k : Nat, k < l.length ∧ idxP p l = (k : Int) ∧ l.find? p = some l[k]! := by
  have := idx_from p l 0
  simp only [Nat.zero_add] at this
  exact this

set_option maxRecDepth 100000 in
set_option maxHeartbeats 1000000 in
theorem indexFunc_empty {w : World} (a : Option Addr) (cap : Nat) (f : Value) : Calls Tryd.prog 67 #[.slice a 0 cap, f] w fun e w' => e = .returned (.int .i64 (-1)) ∧ w' = w := by
  go_enter Tryd.func67, Tryd.ntmps67
  go_wp2_with fail
  go_loopw [5, 8] (fun _ s8 wr => s8 = .int .i64 0 ∧ wr = w) (fun _ _ _ => 0)
  case atStart => exact ⟨rfl, rfl⟩
  case round =>
    obtain ⟨rfl, rfl⟩ := hrel
    go_wp2_with fail
    go_ret
    exact ⟨rfl, rfl⟩

set_option maxRecDepth 100000 in
set_option maxHeartbeats 1000000 in
theorem indexFunc_any {w : World} {a : Option Addr} {cap : Nat} {l : List Pr} (h : PsAt w a cap l) (p : Pr → Bool) (g : Nat) (lb : Array Value) (eg : ∀ args w, (callFunc g args).run Tryd.prog w = .ok (.enter g args) w)
    (hp : PredBelow Tryd.prog g lb (fun x => .agg (enc x).toArray) p w) :
    Calls Tryd.prog 67 #[.slice a l.length cap, .func (.func g) #[] lb] w fun e w' => e = .returned (.int .i64 (idxP p l)) ∧ Below w.heap.size w w' := by
  have hle := h.le
  have hbig := h.big
  by_cases hl : l = []
  · subst hl
    exact (indexFunc_empty a cap _).mono fun e w' ⟨he, hw⟩ => ⟨he, by rw [hw]; exact Below.refl _ _⟩
  · rcases h.cells with h0 | ⟨b, o, rfl, hc⟩
    · exact absurd h0 hl
    · have hpos : 0 < l.length := by cases l with | nil => exact absurd rfl hl | cons => simp
      have h0 := hc 0 hpos
      have hb : b < w.heap.size := lt_of_cell (p := ⟨b, _, none⟩) (h0 0 _ (List.getElem?_eq_getElem (by rw [enc_len]; omega)))
      have := AnyQ.slices_IndexFunc Tryd.lgIndexFunc 40 Tryd.isAgg50 Tryd.sizeOf50 enc enc_len p g lb eg b o l.length cap l w hp (Nat.le_refl _) (by omega) hb (fun j hj i v hi => hc j hj i v hi)
      rw [List.take_length] at this
      exact this

/-- What is found, and whether. -/
def found (p : Pr → Bool) (tell : Pr → Id20) (l : List Pr) : Id20 := match l.find? p with | some q => tell q | none => id0
def isFound (p : Pr → Bool) (l : List Pr) : Bool := (l.find? p).isSome

set_option maxRecDepth 100000 in
set_option maxHeartbeats 1000000 in
theorem partner_any {w : World} {a : Option Addr} {cap : Nat} {l : List Pr} (h : PsAt w a cap l) (p : Pr → Bool) (tell : Pr → Id20) (g t : Nat) (lb : Array Value) (eg : ∀ args w, (callFunc g args).run Tryd.prog w = .ok (.enter g args) w)
    (et : ∀ args w, (callFunc t args).run Tryd.prog w = .ok (.enter t args) w)
    (hp : ∀ W, Below w.heap.size w W → PredBelow Tryd.prog g lb (fun x => .agg (enc x).toArray) p W)
    (ht : ∀ (W : World) (q : Pr), Calls Tryd.prog t #[.agg (encAK q)] W fun e w' => e = .returned (.agg (idA (tell q))) ∧ Below W.heap.size W w') :
    Calls Tryd.prog 52 #[.slice a l.length cap, .func (.func g) #[] lb, .func (.func t) #[] #[]] w fun e w' => e = .returned (.tuple #[.agg (idA (found p tell l)), .bool (isFound p l)]) ∧ Below w.heap.size w w' := by
  obtain ⟨Z, hZ⟩ : ∃ Z, Z = idA id0 := ⟨_, rfl⟩
  have z : ∀ w, (zeroValue 46).run Tryd.prog w = .ok (.agg Z) w := fun w => by rw [hZ]; kernel_rfl
  have bz : ∀ w, (Instr.build 46 ([] : List (Nat × Value)).toArray).run Tryd.prog w = .ok (.agg Z) w := fun w => by rw [hZ]; kernel_rfl
  have hA : Below w.heap.size w (w.alloc (.cells Z 46)) := (Below.refl _ _).alloc (Nat.le_refl _) _
  have C := indexFunc_any (h.below hA) p g lb eg (hp _ hA)
  have HH := Lib.hid h
  have HA := Lib.hid hA
  have HZ := Lib.hid hZ
  have hb : (w.alloc (.cells Z 46)).heap[w.heap.size]? = some (.cells Z 46 (0, 0)) := heap_alloc_last _ _ _ rfl
  have HT := Lib.hid ht
  have hI := idx_find p l
  generalize idxP p l = i at C hI
  have HI := Lib.hid hI
  obtain ⟨n, hn⟩ : ∃ n, n = l.length := ⟨_, rfl⟩
  have HN := Lib.hid hn
  rw [← hn] at C ⊢
  clear hp hA h hI hZ ht hn
  go_enter Tryd.func52, Tryd.ntmps52
  go_wp2_with fail
  refine C.mono ?_
  rintro e w2 ⟨rfl, hb2⟩
  have hb3 := block_below hb hb2
  have HB := Lib.hid (HA.out.trans (hb2.mono (by simp)))
  have hss : (idA (found p tell l)).size = Z.size := by rw [HZ.out]; simp [idA, idc_len]
  have hsz : Z.size = 20 := by rw [HZ.out]; simp [idA, idc_len]
  have hi20 : (Tryd.prog.info? 46).map (·.size) = some Z.size := by rw [hsz]; exact tyG.fi
  have hone : ∀ x : Id20, (idA x).all (·.oneCell') = true := fun x => all_oneCell_toArray (bcells_one _)
  have hZ1 : Z.all (·.oneCell') = true := by rw [HZ.out]; exact hone id0
  have HSZ := Lib.hid (And.intro hss hsz)
  have HI20 := Lib.hid hi20
  clear C hb hi20 hss hsz
  rcases HI.out with ⟨hf, rfl⟩ | ⟨k, hk, rfl, hf⟩
  · have ef : found p tell l = id0 := by unfold found; rw [hf]
    have eb : isFound p l = false := by unfold isFound; rw [hf]; rfl
    have HE := Lib.hid (And.intro ef eb)
    clear hf ef eb
    go_wp2_with (first | (refine wpList_build_at rfl _ _ rfl [] _ rfl (bz w2) ?_) | (refine wpList_store_row rfl 46 _ _ rfl w.heap.size Z rfl rfl 46 Z hb3 HI20.out rfl hZ1 ?_))
    refine bodyPost_ret (results_cell_tmp rfl _ _ w.heap.size 46 Z (0, 0) _ rfl (setRow_heap _ _ _ _ _ _ hb3) Tryd.underlying46 rfl HI20.out) rfl ?_
    rw [HE.out.1, HE.out.2, ← HZ.out]
    exact ⟨rfl, below_setRow HB.out (Nat.le_refl _) _⟩
  · have ef : found p tell l = tell l[k]! := by unfold found; rw [hf]
    have eb : isFound p l = true := by unfold isFound; rw [hf]; rfl
    have HEB := Lib.hid eb
    have HE := Lib.hid (And.intro ef eb)
    obtain ⟨b, q, IX, L, -, -⟩ := (HH.out.below (HA.out.trans (hb2.mono (by simp)))).at tyG (k : Int) k rfl hk
    rw [← HN.out] at IX
    have L' := L w2 (Below.refl _ _)
    have C2 := HT.out w2 l[k]!
    rw [← ef] at C2
    obtain ⟨x, hx⟩ : ∃ x, x = found p tell l := ⟨_, rfl⟩
    have HX := Lib.hid hx
    rw [← hx] at C2
    have hneg : decide ((k : Int) < 0) = false := decide_eq_false (by omega)
    clear L hf ef eb hx HE
    generalize l[k]! = pr at *
    go_wp2_with (first | (refine wpList_load_at rfl _ _ rfl _ _ rfl L' ?_) | (go_at_fn t; fail))
    refine C2.mono ?_
    rintro e w3 ⟨rfl, hb4⟩
    have hb5 := block_below hb3 hb4
    have HB5 := Lib.hid (HB.out.trans (hb4.mono HB.out.size))
    have hsx : Z.size = (idA x).size := by rw [HSZ.out.2]; simp [idA, idc_len]
    have hi20 := HI20.out
    rw [hsx] at hi20
    have h1x := hone x
    clear C2 L' hb4
    go_wp2_with (first | (refine wpList_store_row rfl 46 _ _ rfl w.heap.size (idA x) rfl rfl 46 Z hb5 hi20 hsx h1x ?_))
    refine bodyPost_ret (results_cell_tmp rfl _ _ w.heap.size 46 (idA x) (0, 0) _ rfl (setRow_heap _ _ _ _ _ _ hb5) Tryd.underlying46 rfl hi20) rfl ?_
    rw [HEB.out, ← HX.out]
    exact ⟨rfl, below_setRow HB5.out (Nat.le_refl _) _⟩

theorem hgTest_at {B : Nat} {x : Id20} {w : World} (hc : w.rangeAt B 0 (idc x)) (W : World) (h : Below w.heap.size w W) :
    PredBelow Tryd.prog 53 #[.pointer (some ⟨B, 0, none⟩)] (fun p => .agg (enc p).toArray) (fun p => decide (p.1 = x)) W := hgTest_any (range_below hc h)
theorem enters54 : ∀ args w, (callFunc 54 args).run Tryd.prog w = .ok (.enter 54 args) w := enters_of Tryd.func54 (by kernel_rfl) rfl
/-- A commit's change; a change's commit. -/
def hgOf (l : List Pr) (x : Id20) : Id20 := found (fun p => decide (p.1 = x)) (fun p => p.2) l
def hasHg (l : List Pr) (x : Id20) : Bool := isFound (fun p => decide (p.1 = x)) l
def gitOf (l : List Pr) (x : Id20) : Id20 := found (fun p => decide (p.2 = x)) (fun p => p.1) l
def hasGit (l : List Pr) (x : Id20) : Bool := isFound (fun p => decide (p.2 = x)) l

set_option maxRecDepth 100000 in
set_option maxHeartbeats 1000000 in
theorem hg_any {w : World} {a : Option Addr} {cap : Nat} {l : List Pr} (h : PsAt w a cap l) (x : Id20) :
    Calls Tryd.prog 29 #[.slice a l.length cap, .agg (idA x)] w fun e w' => e = .returned (.tuple #[.agg (idA (hgOf l x)), .bool (hasHg l x)]) ∧ Below w.heap.size w w' := by
  obtain ⟨Z, hZ⟩ : ∃ Z, Z = idA id0 := ⟨_, rfl⟩
  have z : ∀ w, (zeroValue 46).run Tryd.prog w = .ok (.agg Z) w := fun w => by rw [hZ]; kernel_rfl
  have hsz : Z.size = 20 := by rw [hZ]; simp [idA, idc_len]
  have hs1 : (w.alloc (.cells (idA x) 46)).heap.size = w.heap.size + 1 := by simp
  have hA : Below w.heap.size w ((w.alloc (.cells (idA x) 46)).alloc (.cells Z 46)) := ((Below.refl _ _).alloc (Nat.le_refl _) _).alloc (by simp) _
  have hr : ((w.alloc (.cells (idA x) 46)).alloc (.cells Z 46)).rangeAt w.heap.size 0 (idc x) := range_below (range_box w (idc x) 46) ((Below.refl _ _).alloc (Nat.le_refl _) _)
  have hb : ((w.alloc (.cells (idA x) 46)).alloc (.cells Z 46)).heap[w.heap.size + 1]? = some (.cells Z 46 (0, 0)) := heap_alloc_last _ _ _ hs1.symm
  have C := partner_any (h.below hA) (fun p => decide (p.1 = x)) (fun p => p.2) 53 54 #[.pointer (some ⟨w.heap.size, 0, none⟩)] enters53 enters54 (hgTest_at hr) (fun W q => hgTells_any q W)
  change Calls _ _ _ _ (fun e w' => e = .returned (.tuple #[.agg (idA (hgOf l x)), .bool (hasHg l x)]) ∧ _) at C
  have hi20 : (Tryd.prog.info? 46).map (·.size) = some (idA (hgOf l x)).size := by rw [show (idA (hgOf l x)).size = 20 by simp [idA, idc_len]]; exact tyG.fi
  have hsx : Z.size = (idA (hgOf l x)).size := by rw [hsz]; simp [idA, idc_len]
  have hone : (idA (hgOf l x)).all (·.oneCell') = true := all_oneCell_toArray (bcells_one _)
  have HA := Lib.hid hA
  have HI := Lib.hid hi20
  have HSX := Lib.hid hsx
  have HONE := Lib.hid hone
  clear hA h hZ hr hs1 hsz hi20 hsx hone
  generalize hgOf l x = r at *
  generalize hasHg l x = bb at *
  generalize l.length = n at *
  go_enter Tryd.func29, Tryd.ntmps29
  go_wp2_with fail
  refine C.mono ?_
  rintro e w2 ⟨rfl, hb2⟩
  have hb3 := block_below hb hb2
  have HB := Lib.hid (HA.out.trans (hb2.mono (by simp; omega)))
  clear C hb hb2
  go_wp2_with (first | (refine wpList_store_row rfl 46 _ _ rfl (w.heap.size + 1) (idA r) rfl rfl 46 Z hb3 HI.out HSX.out HONE.out ?_))
  refine bodyPost_ret (results_cell_tmp rfl _ _ (w.heap.size + 1) 46 (idA r) (0, 0) _ rfl (setRow_heap _ _ _ _ _ _ hb3) Tryd.underlying46 rfl HI.out) rfl ?_
  exact ⟨rfl, below_setRow HB.out (by omega) _⟩
end Go.Proofs.YtnlkanhakmkejaaDoor
namespace Go.Proofs.YtnlkanhakmkejaaDoor
open Go.RowKit Go.Mix Go.WideMaps Go.Proofs

set_option maxRecDepth 100000 in
set_option maxHeartbeats 1000000 in
theorem index_empty {w : World} (a : Option Addr) (cap : Nat) (p : Pr) : Calls Tryd.prog 66 #[.slice a 0 cap, .agg (encAK p)] w fun e w' => e = .returned (.int .i64 (-1)) ∧ Below w.heap.size w w' := by
  have hA : Below w.heap.size w (w.alloc (.cells (encAK p) 50)) := (Below.refl _ _).alloc (Nat.le_refl _) _
  have HA := Lib.hid hA
  clear hA
  go_enter Tryd.func66, Tryd.ntmps66
  go_wp2_with fail
  go_loopw [5, 8] (fun _ s8 wr => s8 = .int .i64 0 ∧ Below w.heap.size w wr) (fun _ _ _ => 0)
  case atStart => exact ⟨rfl, HA.out⟩
  case round =>
    obtain ⟨rfl, hb⟩ := hrel
    go_wp2_with fail
    go_ret
    exact ⟨rfl, hb⟩

set_option maxRecDepth 100000 in
set_option maxHeartbeats 1000000 in
theorem contains_empty {w : World} (a : Option Addr) (cap : Nat) (p : Pr) : Calls Tryd.prog 48 #[.slice a 0 cap, .agg (encAK p)] w fun e w' => e = .returned (.bool false) ∧ Below w.heap.size w w' := by
  have hA : Below w.heap.size w (w.alloc (.cells (encAK p) 50)) := (Below.refl _ _).alloc (Nat.le_refl _) _
  have HA := Lib.hid hA
  have L := tyG.load p _ _ _ (range_box w (enc p) 50)
  change Sem.run _ _ (w.alloc (.cells (encAK p) 50)) = _ at L
  have C := index_empty (w := w.alloc (.cells (encAK p) 50)) a cap p
  clear hA
  go_enter Tryd.func48, Tryd.ntmps48
  go_wp2_with (refine wpList_load_at rfl _ _ rfl _ _ rfl L ?_)
  refine C.mono ?_
  rintro e w2 ⟨rfl, hb2⟩
  have HB := Lib.hid (HA.out.trans (hb2.mono (by simp)))
  go_wp2_with fail
  go_ret
  exact ⟨rfl, HB.out⟩

theorem contains_any {w : World} {a : Option Addr} {cap : Nat} {l : List Pr} (h : PsAt w a cap l) (p : Pr) :
    Calls Tryd.prog 48 #[.slice a l.length cap, .agg (encAK p)] w fun e w' => e = .returned (.bool (l.any fun y => decide (p = y))) ∧ Below w.heap.size w w' := by
  have hle := h.le
  have hbig := h.big
  by_cases hl : l = []
  · subst hl
    exact contains_empty a cap p
  · rcases h.cells with h0 | ⟨b, o, rfl, hc⟩
    · exact absurd h0 hl
    · have := AnyQ.slices_Contains Tryd.lgContains 40 Tryd.isAgg50 Tryd.sizeOf50 enc enc_len (fun x y => decide (x = y)) tyG.eqE b o l.length cap l p w (Nat.le_refl _) (by omega) (fun j hj i v hi => hc j hj i v hi)
      rw [List.take_length] at this
      exact this

set_option maxRecDepth 100000 in
set_option maxHeartbeats 1000000 in
theorem containsFunc_empty {w : World} (a : Option Addr) (cap : Nat) (f : Value) : Calls Tryd.prog 50 #[.slice a 0 cap, f] w fun e w' => e = .returned (.bool false) ∧ Below w.heap.size w w' := by
  have C := indexFunc_empty (w := w) a cap f
  go_enter Tryd.func50, Tryd.ntmps50
  go_wp2_with fail
  refine C.mono ?_
  rintro e w2 ⟨rfl, rfl⟩
  go_wp2_with fail
  go_ret
  exact ⟨rfl, Below.refl _ _⟩

theorem containsFunc_any {w : World} {a : Option Addr} {cap : Nat} {l : List Pr} (h : PsAt w a cap l) (p : Pr → Bool) (g : Nat) (lb : Array Value) (eg : ∀ args w, (callFunc g args).run Tryd.prog w = .ok (.enter g args) w)
    (hp : PredBelow Tryd.prog g lb (fun x => .agg (enc x).toArray) p w) :
    Calls Tryd.prog 50 #[.slice a l.length cap, .func (.func g) #[] lb] w fun e w' => e = .returned (.bool (l.any p)) ∧ Below w.heap.size w w' := by
  have hle := h.le
  have hbig := h.big
  by_cases hl : l = []
  · subst hl
    exact containsFunc_empty a cap _
  · rcases h.cells with h0 | ⟨b, o, rfl, hc⟩
    · exact absurd h0 hl
    · have hpos : 0 < l.length := by cases l with | nil => exact absurd rfl hl | cons => simp
      have h0 := hc 0 hpos
      have hb : b < w.heap.size := lt_of_cell (p := ⟨b, _, none⟩) (h0 0 _ (List.getElem?_eq_getElem (by rw [enc_len]; omega)))
      have := AnyQ.slices_ContainsFunc Tryd.lgContainsFunc 40 Tryd.isAgg50 Tryd.sizeOf50 enc enc_len p g lb eg b o l.length cap l w hp (Nat.le_refl _) (by omega) hb (fun j hj i v hi => hc j hj i v hi)
      rw [List.take_length] at this
      exact this

/-- The address is nil or a plain one. -/
def plainA (a : Option Addr) : Prop := a = none ∨ ∃ b o, a = some ⟨b, o, none⟩
theorem OwnP.psA {e : TypeId} {w0 w : World} {v : Value} {l : List Pr} (h : OwnP e w0 w v l) : ∃ a c, v = .slice a l.length c ∧ PsAt w a c l ∧ plainA a := by
  obtain ⟨a, c, e1, hp⟩ := h.ps
  refine ⟨a, c, e1, hp, ?_⟩
  rcases h.own.2 with ⟨h1, _⟩ | ⟨g, cap, cur, h1, _⟩
  · rw [h1] at e1; injection e1 with e1; exact .inl e1.symm
  · rw [h1] at e1; injection e1 with e1; exact .inr ⟨g, 0, e1.symm⟩

set_option maxRecDepth 100000 in
theorem clone_anyK {w : World} {a : Option Addr} {cap : Nat} {l : List Pr} (h : PsAt w a cap l) (ha : plainA a) (hl : l.length ≤ 1000000) :
    Calls Tryd.prog 49 #[.slice a l.length cap] w fun e w' => ∃ v, e = .returned v ∧ OwnP 50 w w' v l := by
  have hle := h.le
  have hbig := h.big
  rcases ha with rfl | ⟨b, o, rfl⟩
  · have hc0 := h.non rfl
    have hl0 : l = [] := List.eq_nil_of_length_eq_zero (by omega)
    subst hl0
    exact (AnyE.slices_Clone_nil Tryd.lgClone 0 cap w).mono fun e w' ⟨he, hw⟩ => ⟨_, he, by rw [hw]; exact OwnP.nil (Below.refl _ _)⟩
  · obtain ⟨i, hi, hz0, hz1, hz2⟩ := info_parts tyG.hi
    refine (AnyE.slices_Clone Tryd.lgClone i _ 40 40 hi hz0 hz1 hz2 (by simp [Value.cells, encAK, enc_len]) (by decide) Tryd.sizeOf50 b o l.length cap (flat l) w (flat_len l) (by unfold maxLen; omega) (by omega) (fun j u hj => ?_) (flat_oneCell l)).mono fun e w' ⟨v, he, h1, h2, h3⟩ => ⟨v, he, h1, h3⟩
    rcases h.cells with rfl | ⟨b', o', e', hc⟩
    · simp [flat] at hj
    · injection e' with e'
      injection e' with e1 e2
      subst e1 e2
      exact (rangeAt_flat l o).2 hc j u hj

theorem wpList_load_g {P : Program} {ops : Array Oper} {rest : List Oper} {o : Oper} {a : Act} {w : World} {Q : Exit → Act → World → Prop} (hw : Region.wanted o (yielded ops a.tmps) = true)
    (ty : TypeId) (x : Operand) (hop : o.op = .load ty x) (V v : Value) (hx : a.eval x = V) (hl : (Instr.loadAt ty V).run P w = .ok v w)
    (h : wpList P ops Q rest (a.put o.dst v) w) : wpList P ops Q (o :: rest) a w := by
  unfold wpList
  rw [if_pos hw]
  refine .inl ?_
  unfold Oper.wp execOp
  simp only [hop, hx, Sem.run_bind, Sem.run_pure, Result.andThen_ok, hl]
  exact h

theorem enters51 : ∀ args w, (callFunc 51 args).run Tryd.prog w = .ok (.enter 51 args) w := enters_of Tryd.func51 (by kernel_rfl) rfl

def clashes (q p : Pr) : Bool := decide (p.1 = q.1) || decide (p.2 = q.2)

set_option maxRecDepth 100000 in
set_option maxHeartbeats 1000000 in
/-- Add's test: does the pair clash with the one that the box at B holds? -/
theorem addTest_any {B : Nat} {q : Pr} {w : World} (hc : w.rangeAt B 0 (enc q)) :
    PredBelow Tryd.prog 51 #[.pointer (some ⟨B, 0, none⟩)] (fun p => .agg (enc p).toArray) (clashes q) w := fun W p hb => by
  show Calls Tryd.prog 51 #[.agg (encAK p), .pointer (some ⟨B, 0, none⟩)] W _
  have hb1 : Below w.heap.size w (W.alloc (.cells (encAK p) 50)) := hb.alloc hb.size _
  have hr := rangeAt_enc.1 (range_box W (enc p) 50)
  have hq := rangeAt_enc.1 (range_below hc hb1)
  have L1 := tyG.loadId p.1 _ _ _ hr.1
  have L2 := tyG.loadId p.2 _ _ _ hr.2
  have L3 := tyG.loadId q.1 _ _ _ hq.1
  have L4 := tyG.loadId q.2 _ _ _ hq.2
  have E1 := eq_id_run arrG p.1 q.1
  have E2 := eq_id_run arrG p.2 q.2
  have G1 := fun op a b => tyG.eqF.2 op a b p.1 q.1
  have G2 := fun op a b => tyG.eqF.2 op a b p.2 q.2
  simp only [] at G1 G2
  change Sem.run _ _ (W.alloc (.cells (encAK p) 50)) = _ at L1 L2
  have HB := Lib.hid hb1
  have hcl : clashes q p = (decide (p.1 = q.1) || decide (p.2 = q.2)) := rfl
  clear hb1 hr hq hb hc
  generalize decide (p.1 = q.1) = d1 at *
  generalize decide (p.2 = q.2) = d2 at *
  have HC := Lib.hid hcl
  clear hcl
  go_enter Tryd.func51, Tryd.ntmps51
  cases d1
  · go_wp2_with (first | (refine wpList_load_g rfl _ _ rfl _ _ rfl L1 ?_) | (refine wpList_load_g rfl _ _ rfl _ _ rfl L2 ?_) | (refine wpList_load_g rfl _ _ rfl _ _ rfl L3 ?_) | (refine wpList_load_g rfl _ _ rfl _ _ rfl L4 ?_))
    go_ret
    exact ⟨by rw [HC.out]; rfl, HB.out⟩
  · go_wp2_with (first | (refine wpList_load_g rfl _ _ rfl _ _ rfl L1 ?_) | (refine wpList_load_g rfl _ _ rfl _ _ rfl L2 ?_) | (refine wpList_load_g rfl _ _ rfl _ _ rfl L3 ?_) | (refine wpList_load_g rfl _ _ rfl _ _ rfl L4 ?_))
    go_ret
    exact ⟨by rw [HC.out]; rfl, HB.out⟩
end Go.Proofs.YtnlkanhakmkejaaDoor
namespace Go.Proofs.YtnlkanhakmkejaaDoor
open Go.RowKit Go.Mix Go.WideMaps Go.Proofs

def addL (l : List Pr) (q : Pr) : List Pr := if l.any (fun y => decide (q = y)) = true then l else if l.any (clashes q) = true then [] else l ++ [q]
def addE (l : List Pr) (q : Pr) : Int := if l.any (fun y => decide (q = y)) = true then 0 else if l.any (clashes q) = true then 9 else 0

theorem OwnP.rebase {e : TypeId} {w0 w1 w : World} {v : Value} {l : List Pr} (h : OwnP e w1 w v l) (b : Below w0.heap.size w0 w1) : OwnP e w0 w v l := by
  refine ⟨⟨h.own.1, h.own.2.imp id ?_⟩, b.trans (h.frame.mono b.size)⟩
  rintro ⟨g, cap, cur, e1, hg, r⟩
  exact ⟨g, cap, cur, e1, Nat.le_trans b.size hg, r⟩

set_option maxRecDepth 100000 in
set_option maxHeartbeats 2000000 in
theorem add_any {w : World} {a : Option Addr} {cap : Nat} {l : List Pr} (h : PsAt w a cap l) (ha : plainA a) (hl : l.length ≤ 1000000) (q : Pr) :
    Calls Tryd.prog 28 #[.slice a l.length cap, .agg (encAK q)] w fun e w' => ∃ v, e = .returned (.tuple #[v, .int .i64 (addE l q)]) ∧ OwnP 50 w w' v (addL l q) := by
  have hA : Below w.heap.size w (w.alloc (.cells (encAK q) 50)) := (Below.refl _ _).alloc (Nat.le_refl _) _
  have hr := range_box w (enc q) 50
  change World.rangeAt (w.alloc (.cells (encAK q) 50)) _ _ _ at hr
  have L := tyG.load q _ _ _ hr
  have C1 := contains_any (h.below hA) q
  have HH := Lib.hid h
  have HA := Lib.hid hA
  have HR := Lib.hid hr
  have HP := Lib.hid ha
  have HL := Lib.hid hl
  obtain ⟨b1, hb1⟩ : ∃ b, b = l.any fun y => decide (q = y) := ⟨_, rfl⟩
  have HB1 := Lib.hid hb1
  rw [← hb1] at C1
  obtain ⟨n, hn⟩ : ∃ n, n = l.length := ⟨_, rfl⟩
  have HN := Lib.hid hn
  rw [← hn] at C1 ⊢
  clear h hA hr ha hl hb1 hn
  go_enter Tryd.func28, Tryd.ntmps28
  go_wp2_with (refine wpList_load_at rfl _ _ rfl _ _ rfl L ?_)
  refine C1.mono ?_
  rintro e w2 ⟨rfl, hb2⟩
  have hB := HA.out.trans (hb2.mono (by simp))
  have HB := Lib.hid hB
  have hr2 := range_below HR.out hb2
  have HR2 := Lib.hid hr2
  clear C1 L hr2 hB hb2
  cases b1
  · have C3 := containsFunc_any (HH.out.below HB.out) (clashes q) 51 #[.pointer (some ⟨w.heap.size, 0, none⟩)] enters51 (addTest_any HR2.out)
    obtain ⟨b2, hb2⟩ : ∃ b, b = l.any (clashes q) := ⟨_, rfl⟩
    have HB2 := Lib.hid hb2
    rw [← hb2, ← HN.out] at C3
    clear hb2
    go_wp2_with fail
    refine C3.mono ?_
    rintro e w3 ⟨rfl, hb3⟩
    have HB3 := Lib.hid (HB.out.trans (hb3.mono HB.out.size))
    have hr3 := range_below HR2.out hb3
    have HR3 := Lib.hid hr3
    clear C3 hr3 hb3
    cases b2
    · have L' : ∀ y : Later w3, (Instr.loadAt 50 (.pointer (some ⟨w.heap.size, 0, none⟩))).run Tryd.prog y.1 = .ok (.agg (encAK q)) y.1 := fun y => tyG.load q _ _ _ (range_below HR3.out y.2)
      have C4 : ∀ W, Grow w3 W → _ := fun W (g : Below w3.heap.size w3 W) => clone_anyK ((HH.out.below HB3.out).below g) HP.out HL.out
      rw [← HN.out] at C4
      have hes : addL l q = l ++ [q] ∧ addE l q = 0 := by unfold addL addE; rw [← HB1.out, ← HB2.out]; simp
      have HES := Lib.hid hes
      have B1 := fun W : World => tyG.one q W
      clear hes
      go_upto_region 5 with (fail)
      refine wp_region_mix [(0, 0), (2, 0), (1, 7), (4, 2), (5, 0), (6, 0)] (by kernel_rfl) (by kernel_rfl) ?_
      iterate 1 (refine mix_calm rfl (fun K hK => ?_); go_simp; (refine hK _ ?_; clear hK K))
      refine mix_load rfl rfl _ _ rfl _ _ rfl L' ?_
      refine mix_fork rfl rfl (fun _ => rfl) (fun _ => rfl) (fun w4 hw4 K hK => ?_) (fun w4 hw4 K hK => ?_)
      · have C := C4 w4 hw4
        go_wp2_with fail
        refine C.mono ?_
        rintro e w5 ⟨v5, rfl, ho5⟩
        have ho6 := ho5.rebase (HB3.out.trans (hw4.mono HB3.out.size))
        go_wp2_with fail
        refine hK _ _ ho5.frame ?_
        clear C ho5 hK K C4
        intro w6 hw6 K2 hK2
        have ho7a := ho6.later hw6
        refine wpList_buildSlice_at rfl _ _ _ rfl [(0, .agg (encAK q))] _ rfl (B1 w6) ?_
        refine hK2 _ _ ((Below.refl _ _).alloc (Nat.le_refl _) _) ?_
        clear hK2 K2
        have hp7 := PsAt.one w6 50 q
        have ho7 := ho7a.later ((Below.refl _ _).alloc (Nat.le_refl _) (.cells (encAK q) 50))
        generalize w6.alloc (.cells (encAK q) 50) = w7 at *
        clear L' B1 ho6 ho7a hw6 hw4
        refine mix_sync rfl rfl (fun w8 hw8 K hK => ?_)
        have ho8 := ho7.later hw8
        have hp8 := hp7.below hw8
        clear ho7 hp7 hw8
        refine wpList_append_p tyG rfl (.tmp 15) (.tmp 17) rfl _ l rfl ho8 _ 1 1 [q] rfl rfl hp8 (by have := HL.out; simp; omega) ?_
        intro v9 w9 ho9 hg9 hn9
        rw [← HES.out.1] at ho9
        clear hg9 hn9 ho8 hp8
        go_wp2_with fail
        iterate 2 (refine mix_calm rfl (fun K hK => ?_); go_simp; (refine hK _ ?_; clear hK K))
        refine mix_nil fun w10 hw10 => ?_
        have ho10 := ho9.later hw10
        clear ho9 hw10
        go_wp2_with fail
        go_ret2
        exact ⟨_, by rw [HES.out.2]; rfl, ho10⟩
      · refine wpList_buildSlice_at rfl _ _ _ rfl [(0, .agg (encAK q))] _ rfl (B1 w4) ?_
        have g4 : Below w4.heap.size w4 (w4.alloc (.cells (encAK q) 50)) := (Below.refl _ _).alloc (Nat.le_refl _) _
        refine hK _ _ g4 ?_
        clear hK K
        have hp5 := PsAt.one w4 50 q
        have hw5 := Grow.trans hw4 g4
        generalize w4.alloc (.cells (encAK q) 50) = w5 at *
        intro w6 hw6 K2 hK2
        have hp6 := hp5.below hw6
        have hw36 := Grow.trans hw5 hw6
        have C := C4 w6 hw36
        clear hp5 hw5 hw6 C4
        go_wp2_with fail
        refine C.mono ?_
        rintro e w7 ⟨v7, rfl, ho6⟩
        have ho7 := ho6.rebase (HB3.out.trans (hw36.mono HB3.out.size))
        have hp7 := hp6.below ho6.frame
        go_wp2_with fail
        refine hK2 _ _ ho6.frame ?_
        clear hK2 K2 C ho6 hp6 hw36 L' B1 g4 hw4
        refine mix_sync rfl rfl (fun w8 hw8 K hK => ?_)
        have ho8 := ho7.later hw8
        have hp8 := hp7.below hw8
        clear ho7 hp7 hw8
        refine wpList_append_p tyG rfl (.tmp 15) (.tmp 17) rfl _ l rfl ho8 _ 1 1 [q] rfl rfl hp8 (by have := HL.out; simp; omega) ?_
        intro v9 w9 ho9 hg9 hn9
        rw [← HES.out.1] at ho9
        clear hg9 hn9 ho8 hp8
        go_wp2_with fail
        iterate 2 (refine mix_calm rfl (fun K hK => ?_); go_simp; (refine hK _ ?_; clear hK K))
        refine mix_nil fun w10 hw10 => ?_
        have ho10 := ho9.later hw10
        clear ho9 hw10
        go_wp2_with fail
        go_ret2
        exact ⟨_, by rw [HES.out.2]; rfl, ho10⟩
    · have hes : addL l q = [] ∧ addE l q = 9 := by unfold addL addE; rw [← HB1.out, ← HB2.out]; simp
      have HES := Lib.hid hes
      clear hes
      go_wp2_with fail
      go_ret2
      exact ⟨_, by rw [HES.out.2]; rfl, by rw [HES.out.1]; exact OwnP.nil HB3.out⟩
  · have hes : addL l q = l ∧ addE l q = 0 := by unfold addL addE; rw [← HB1.out]; simp
    have HES := Lib.hid hes
    have C := clone_anyK (HH.out.below HB.out) HP.out HL.out
    rw [← HN.out] at C
    clear hes
    go_wp2_with fail
    refine C.mono ?_
    rintro e w5 ⟨v5, rfl, ho5⟩
    have ho6 := ho5.rebase HB.out
    have HO6 := Lib.hid ho6
    clear C ho5 ho6
    go_wp2_with fail
    go_ret2
    exact ⟨_, by rw [HES.out.2]; rfl, by rw [HES.out.1]; exact HO6.out⟩
end Go.Proofs.YtnlkanhakmkejaaDoor
namespace Go.Proofs.YtnlkanhakmkejaaDoor
open Go.RowKit Go.Mix Go.WideMaps Go.Proofs

theorem wpList_build_g {P : Program} {ops : Array Oper} {rest : List Oper} {o : Oper} {a : Act} {w : World} {Q : Exit → Act → World → Prop} (hw : Region.wanted o (yielded ops a.tmps) = true)
    (ty : TypeId) (ps : Array (Nat × Operand)) (hop : o.op = .build ty ps) (PS : List (Nat × Value)) (v : Value) (hx : (ps.toList.map fun p => (p.1, a.eval p.2)) = PS) (hl : (Instr.build ty PS.toArray).run P w = .ok v w)
    (h : wpList P ops Q rest (a.put o.dst v) w) : wpList P ops Q (o :: rest) a w := by
  unfold wpList
  rw [if_pos hw]
  refine .inl ?_
  unfold Oper.wp execOp
  simp only [hop, parts_mapK hx, Sem.run_bind, Sem.run_pure, Result.andThen_ok, hl]
  exact h

def idN (n : UInt8) : Id20 := ⟨n :: List.replicate 19 0, by simp⟩
theorem addL_k1 : addL [] (idN 1, idN 3) = [(idN 1, idN 3)] := by decide
theorem addE_k1 : addE [] (idN 1, idN 3) = 0 := by decide
theorem addE_k2 : addE [(idN 1, idN 3)] (idN 1, idN 2) = 9 := by decide
theorem hg_k : hgOf [(idN 1, idN 3)] (idN 1) = idN 3 := by decide
theorem has_k : hasHg [(idN 1, idN 3)] (idN 1) = true := by decide

set_option maxRecDepth 100000 in
set_option maxHeartbeats 2000000 in
theorem known_anyK (w : World) : Calls Tryd.prog 14 #[] w fun e w' => e = .returned (.bool true) ∧ Below w.heap.size w w' := by
  have b1 : ∀ w, (Instr.build 46 [(0, .int .u8 1)].toArray).run Tryd.prog w = .ok (.agg (idA (idN 1))) w := fun w => by kernel_rfl
  have b2 : ∀ w, (Instr.build 46 [(0, .int .u8 2)].toArray).run Tryd.prog w = .ok (.agg (idA (idN 2))) w := fun w => by kernel_rfl
  have b3 : ∀ w, (Instr.build 46 [(0, .int .u8 3)].toArray).run Tryd.prog w = .ok (.agg (idA (idN 3))) w := fun w => by kernel_rfl
  have p13 := tyG.build (idN 1) (idN 3)
  have p12 := tyG.build (idN 1) (idN 2)
  have C1 := add_any (PsAt.nil w) (.inl rfl) (by decide) (idN 1, idN 3)
  rw [addL_k1, addE_k1] at C1
  have E := eq_id_run arrG (idN 3) (idN 3)
  have ed : decide (idN 3 = idN 3) = true := decide_eq_true rfl
  rw [ed] at E
  have G := fun op a b => tyG.eqF.2 op a b (idN 3) (idN 3)
  simp only [] at G
  obtain ⟨Z, hZ⟩ : ∃ Z, Z = idA id0 := ⟨_, rfl⟩
  have z : ∀ w, (zeroValue 46).run Tryd.prog w = .ok (.agg Z) w := fun w => by rw [hZ]; kernel_rfl
  have hZ3 : Z.size = (idA (idN 3)).size := by rw [hZ]; simp [idA, idc_len]
  have HZ3 := Lib.hid hZ3
  have C2' : ∀ w2 v2, OwnP 50 w w2 v2 [(idN 1, idN 3)] → Calls Tryd.prog 28 #[v2, .agg (encAK (idN 1, idN 2))] w2 (fun e w' => ∃ v, e = .returned (.tuple #[v, .int .i64 9]) ∧ Below w2.heap.size w2 w') := fun w2 v2 ho => by
    obtain ⟨a, c, rfl, hp, ha⟩ := ho.psA
    have := add_any hp ha (by decide) (idN 1, idN 2)
    rw [addE_k2] at this
    exact this.mono fun e w' ⟨v, he, h⟩ => ⟨v, he, h.frame⟩
  have C3' : ∀ w2 a c, PsAt w2 a c [(idN 1, idN 3)] → Calls Tryd.prog 29 #[.slice a 1 c, .agg (idA (idN 1))] w2 (fun e w' => e = .returned (.tuple #[.agg (idA (idN 3)), .bool true]) ∧ Below w2.heap.size w2 w') := fun w2 a c hp => by
    have := hg_any hp (idN 1)
    rw [hg_k, has_k] at this
    exact this
  have HC2 := Lib.hid C2'
  have HC3 := Lib.hid C3'
  have hone : (idA (idN 3)).all (·.oneCell') = true := all_oneCell_toArray (bcells_one _)
  have hi3 : (Tryd.prog.info? 46).map (·.size) = some (idA (idN 3)).size := by kernel_rfl
  have HI := Lib.hid (And.intro hone hi3)
  clear C2' C3' hZ hZ3 ed hone hi3
  generalize idN 1 = x1 at *
  generalize idN 2 = x2 at *
  generalize idN 3 = x3 at *
  go_enter Tryd.func14, Tryd.ntmps14
  go_wp2_with (first | (refine wpList_build_at rfl _ _ rfl [(0, .int .u8 1)] _ rfl (b1 _) ?_) | (refine wpList_build_at rfl _ _ rfl [(0, .int .u8 3)] _ rfl (b3 _) ?_) | (refine wpList_build_at rfl _ _ rfl [(0, .agg (idA x1)), (1, .agg (idA x3))] _ rfl (p13 _) ?_))
  refine C1.mono ?_
  rintro e w2 ⟨v2, rfl, ho2⟩
  have C2 := HC2.out w2 v2 ho2
  obtain ⟨a2, c2, rfl, hp2⟩ := ho2.ps
  have HP2 := Lib.hid hp2
  have HO2 := Lib.hid ho2
  clear C1 hp2 ho2
  go_wp2_with (first | (refine wpList_build_at rfl _ _ rfl [(0, .int .u8 1)] _ rfl (b1 _) ?_) | (refine wpList_build_at rfl _ _ rfl [(0, .int .u8 2)] _ rfl (b2 _) ?_) | (refine wpList_build_at rfl _ _ rfl [(0, .agg (idA x1)), (1, .agg (idA x2))] _ rfl (p12 _) ?_))
  refine C2.mono ?_
  rintro e w3 ⟨v3, rfl, hb3⟩
  have C3 := HC3.out w3 a2 c2 (HP2.out.below hb3)
  have HB3 := Lib.hid (HO2.out.frame.trans (hb3.mono HO2.out.frame.size))
  clear C2 hb3
  go_wp2_with (first | (refine wpList_build_at rfl _ _ rfl [(0, .int .u8 1)] _ rfl (b1 _) ?_))
  refine C3.mono ?_
  rintro e w4 ⟨rfl, hb4⟩
  have HB4 := Lib.hid (HB3.out.trans (hb4.mono HB3.out.size))
  clear C3 hb4
  have hb : (w4.alloc (.cells Z 46)).heap[w4.heap.size]? = some (.cells Z 46 (0, 0)) := heap_alloc_last _ _ _ rfl
  have L : (Instr.loadAt 46 (.pointer (some ⟨w4.heap.size, 0, none⟩))).run Tryd.prog ((w4.alloc (.cells Z 46)).setRow w4.heap.size (idA x3)) = .ok (.agg (idA x3)) ((w4.alloc (.cells Z 46)).setRow w4.heap.size (idA x3)) := by
    simp only [Instr.loadAt, Instr.sureAddr, Sem.run_bind, Sem.run_pure, Result.andThen_ok]
    exact run_loadVar_row _ _ 46 _ _ (0, 0) _ (setRow_heap _ _ _ _ _ _ hb) Tryd.underlying46 rfl HI.out.2
  go_wp2_with (first | (refine wpList_build_g rfl _ _ rfl [(0, .int .u8 3)] _ rfl (b3 _) ?_) | (refine wpList_store_row rfl 46 _ _ rfl w4.heap.size (idA x3) rfl rfl 46 Z hb HI.out.2 HZ3.out HI.out.1 ?_) | (refine wpList_load_g rfl _ _ rfl _ _ rfl L ?_))
  go_ret
  exact ⟨rfl, below_setRow (HB4.out.alloc HB4.out.size _) HB4.out.size _⟩
end Go.Proofs.YtnlkanhakmkejaaDoor
namespace Go.Proofs.YtnlkanhakmkejaaDoor
open Go.RowKit Go.Mix Go.WideMaps Go.Proofs

set_option maxRecDepth 100000 in
set_option maxHeartbeats 2000000 in
theorem as_any {w : World} {l : List Pr} {a : Option Addr} {cap : Nat} (hg : PsAt w a cap l) (hlen : l.length ≤ 1000000) :
    Calls Tryd.prog 8 #[.slice a l.length cap] w fun e w' => ∃ v, e = .returned v ∧ OwnP 48 w w' v l := by
  obtain ⟨n, hn⟩ : ∃ n, n = l.length := ⟨_, rfl⟩
  have HN := Lib.hid hn
  have HG := Lib.hid hg
  have HLEN := Lib.hid hlen
  rw [← hn]
  clear hn hg hlen
  have hF0 : Below w.heap.size w w := Below.refl _ _
  go_enter Tryd.func8, Tryd.ntmps8
  go_wp2_with fail
  go_loopw [3, 4] (fun s3 s4 wr => ∃ i : Nat, s4 = .int .i64 (i : Int) ∧ i ≤ n ∧ OwnP 48 w wr s3 (l.take i)) (fun _ s4 _ => n - (intOf s4).toNat)
  case atStart => exact ⟨0, rfl, Nat.zero_le _, OwnP.nil hF0⟩
  case round =>
    obtain ⟨i, rfl, hi, hrow⟩ := hrel
    by_cases him : i < n
    · have t1 : decide ((i : Int) < (n : Int)) = true := decide_eq_true (by omega)
      have t1' : decide (i < n) = true := decide_eq_true (by omega)
      have hil : i < l.length := by rw [← HN.out]; omega
      obtain ⟨b, q, IX, -, L0, L1⟩ := (HG.out.below hrow.frame).at tyG (i : Int) i rfl hil
      rw [← HN.out] at IX
      have L0' : ∀ y : Later wr, (Instr.loadAt 46 (.pointer (some ⟨b, q, none⟩))).run Tryd.prog y.1 = .ok (.agg (idA l[i]!.1)) y.1 := fun y => L0 y.1 y.2
      have L1' : ∀ y : Later wr, (Instr.loadAt 46 (.pointer (some ⟨b, q + 20, none⟩))).run Tryd.prog y.1 = .ok (.agg (idA l[i]!.2)) y.1 := fun y => L1 y.1 y.2
      have B := fun W : World => tyRK.build l[i]!.1 l[i]!.2 W
      have B1 := fun W : World => tyRK.one (l[i]!.1, l[i]!.2) W
      have HS := Lib.hid (take_succ hil)
      have HL := Lib.hid (show (l.take i).length ≤ 1000000 by have := HLEN.out; rw [List.length_take]; omega)
      have hi6 : i ≤ 1000000 := by have := HLEN.out; omega
      clear L0 L1
      generalize l[i]! = p at *
      generalize l.take i = xs at *
      obtain ⟨x, y⟩ := p
      simp only [] at L0' L1' B B1
      clear hil
      go_upto_region 5 with (fail)
      refine wp_region_mix [(0, 0), (1, 0), (2, 0), (3, 0), (4, 0), (5, 0), (6, 0), (7, 0), (8, 0), (9, 0), (10, 0), (11, 0), (12, 1), (13, 2), (14, 0)] (by kernel_rfl) (by kernel_rfl) ?_
      iterate 5 (refine mix_calm rfl (fun K hK => ?_); go_simp; (refine hK _ ?_; clear hK K))
      refine mix_load rfl rfl _ _ rfl _ _ rfl L0' ?_
      iterate 4 (refine mix_calm rfl (fun K hK => ?_); go_simp; (refine hK _ ?_; clear hK K))
      refine mix_load rfl rfl _ _ rfl _ _ rfl L1' ?_
      refine mix_build rfl rfl _ _ rfl [(0, .agg (idA x)), (1, .agg (idA y))] _ rfl B ?_
      refine mix_loud rfl rfl (fun w8 hw8 K hK => ?_)
      have hrow8 := hrow.later hw8
      refine wpList_buildSlice_at rfl _ _ _ rfl [(0, .agg (encAK (x, y)))] _ rfl (B1 w8) ?_
      refine hK _ _ ((Below.refl _ _).alloc (Nat.le_refl _) _) ?_
      clear hK K
      have hp9 := PsAt.one w8 48 (x, y)
      have hrow9 := hrow8.later ((Below.refl _ _).alloc (Nat.le_refl _) (.cells (encAK (x, y)) 48))
      generalize w8.alloc (.cells (encAK (x, y)) 48) = w9 at *
      clear L0' L1' IX B B1 hrow hrow8 hw8
      refine mix_sync rfl rfl (fun w10 hw10 K hK => ?_)
      have hrow10 := hrow9.later hw10
      have hp10 := hp9.below hw10
      clear hrow9 hp9 hw10
      refine wpList_append_p tyRK rfl (.tmp 11) (.tmp 23) rfl _ xs rfl hrow10 (some ⟨w8.heap.size, 0, none⟩) 1 1 [(x, y)] rfl rfl hp10 (by have := HL.out; simp; omega) ?_
      intro v5 w5 hb5 hgr5 hgr0
      rw [← HS.out] at hb5
      clear hgr5 hgr0 hrow10 hp10
      go_wp2_with fail
      iterate 1 (refine mix_calm rfl (fun K hK => ?_); go_simp; (refine hK _ ?_; clear hK K))
      refine mix_nil fun w12 hw12 => ?_
      have hb12 := hb5.later hw12
      clear hb5 hw12
      go_wp2_with fail
      go_roundw
      case rel => exact ⟨i + 1, by go_num, by omega, hb12⟩
      case measure => simp [intOf]; omega
    · obtain rfl : i = n := by omega
      have e : l.take i = l := by rw [HN.out]; exact List.take_of_length_le (Nat.le_refl _)
      have hres := hrow
      rw [e] at hres
      have HRES := Lib.hid hres
      clear hres hrow
      have t1 : decide ((i : Int) < (i : Int)) = false := decide_eq_false (by omega)
      have t1' : decide (i < i) = false := decide_eq_false (by omega)
      go_wp2_with fail
      go_ret
      exact ⟨_, rfl, HRES.out⟩

set_option maxRecDepth 100000 in
set_option maxHeartbeats 2000000 in
theorem same_any {w : World} {l m : List Pr} {a b : Option Addr} {ca cb : Nat} (hl : PsAt w a ca l) (hm : PsAt w b cb m) :
    Calls Tryd.prog 11 #[.slice a l.length ca, .slice b m.length cb] w fun e w' => e = .returned (.bool (decide (l = m))) ∧ Below w.heap.size w w' := by
  obtain ⟨n, hn⟩ : ∃ n, n = l.length := ⟨_, rfl⟩
  obtain ⟨k, hk⟩ : ∃ n, n = m.length := ⟨_, rfl⟩
  have HN := Lib.hid (And.intro hn hk)
  have HG := Lib.hid (And.intro hl hm)
  have hnb : n ≤ 9223372036854775807 := by rw [hn]; exact Nat.le_trans hl.le hl.big
  rw [← hn, ← hk]
  clear hn hk hl hm
  obtain ⟨R, hR⟩ : ∃ R, R = decide (l = m) := ⟨_, rfl⟩
  have HR := Lib.hid hR
  rw [← hR]
  clear hR
  go_enter Tryd.func11, Tryd.ntmps11
  by_cases hnk : n = k
  · subst hnk
    have tt : ((n : Int) != (n : Int)) = false := by simp
    have tt' : (n != n) = false := by simp
    have hF0 : Below w.heap.size w w := Below.refl _ _
    go_wp2_with fail
    go_loopw [5] (fun s5 wr => ∃ i : Nat, s5 = .int .i64 (i : Int) ∧ i ≤ n ∧ l.take i = m.take i ∧ Below w.heap.size w wr) (fun s5 _ => n - (intOf s5).toNat)
    case atStart => exact ⟨0, rfl, Nat.zero_le _, rfl, hF0⟩
    case round =>
      obtain ⟨i, rfl, hi, he, hb⟩ := hrel
      by_cases hin : i < n
      · have t1 : decide ((i : Int) < (n : Int)) = true := decide_eq_true (by omega)
        have t1' : decide (i < n) = true := decide_eq_true (by omega)
        have hil : i < l.length := by rw [← HN.out.1]; omega
        have him : i < m.length := by rw [← HN.out.2]; omega
        obtain ⟨b1, q1, IX1, L1, -, -⟩ := (HG.out.1.below hb).at tyRK (i : Int) i rfl hil
        obtain ⟨b2, q2, IX2, L2, -, -⟩ := (HG.out.2.below hb).at tyRK (i : Int) i rfl him
        rw [← HN.out.1] at IX1
        rw [← HN.out.2] at IX2
        have L1' : ∀ y : Later wr, (Instr.loadAt 48 (.pointer (some ⟨b1, q1, none⟩))).run Tryd.prog y.1 = .ok (.agg (encAK l[i]!)) y.1 := fun y => L1 y.1 y.2
        have L2' : ∀ y : Later wr, (Instr.loadAt 48 (.pointer (some ⟨b2, q2, none⟩))).run Tryd.prog y.1 = .ok (.agg (encAK m[i]!)) y.1 := fun y => L2 y.1 y.2
        have E := tyRK.eq_run l[i]! m[i]!
        have G := fun op x y => tyRK.eqE.2 op x y l[i]! m[i]!
        simp only [] at G
        have S1 := take_succ hil
        have S2 := take_succ him
        obtain ⟨d, hd⟩ : ∃ d, d = decide (l[i]! = m[i]!) := ⟨_, rfl⟩
        rw [← hd] at E
        have HS := Lib.hid (And.intro S1 (And.intro S2 (And.intro he hd)))
        have HBR := Lib.hid hb
        clear S1 S2 he L1 L2 hil him hd hb
        generalize l[i]! = p1 at *
        generalize m[i]! = p2 at *
        go_upto_region 6 with (fail)
        refine wp_region_mg [(0, 0), (1, 0), (2, 0), (3, 0), (4, 0), (5, 0), (6, 0), (7, 0), (8, 0)] (by kernel_rfl) (by kernel_rfl) ?_
        iterate 9 (first | (refine mg_load rfl rfl _ _ rfl _ _ rfl L1' ?_) | (refine mg_load rfl rfl _ _ rfl _ _ rfl L2' ?_) | (refine mg_calm rfl (fun K hK => ?_); go_simp; (refine hK _ ?_; clear hK K)))
        refine mg_nil fun w7 hw7 => ?_
        have HB7 := Lib.hid (HBR.out.trans (Below.mono hw7 HBR.out.size))
        clear L1' L2' IX1 IX2 E G hw7
        cases d
        · go_wp2_with fail
          go_ret
          refine ⟨?_, HB7.out⟩
          show Ending.returned (.bool false) = _
          rw [HR.out]
          have hne : ¬ p1 = p2 := of_decide_eq_false HS.out.2.2.2.symm
          rw [decide_eq_false (p := l = m)]
          intro hlm
          obtain ⟨s1, s2, s3, -⟩ := HS.out
          subst hlm
          have := s1.symm.trans s2
          simp at this
          exact hne this
        · go_wp2_with fail
          go_roundw
          case rel =>
            refine ⟨i + 1, by go_num, by omega, ?_, HB7.out⟩
            obtain ⟨s1, s2, s3, s4⟩ := HS.out
            rw [s1, s2, s3, of_decide_eq_true s4.symm]
          case measure => simp [intOf]; omega
      · obtain rfl : i = n := by omega
        have t1 : decide ((i : Int) < (i : Int)) = false := decide_eq_false (by omega)
        have t1' : decide (i < i) = false := decide_eq_false (by omega)
        have heq : l = m := by
          rw [List.take_of_length_le (by rw [← HN.out.1]; exact Nat.le_refl _), List.take_of_length_le (by rw [← HN.out.2]; exact Nat.le_refl _)] at he; exact he
        have hres : R = true := by rw [HR.out]; exact decide_eq_true heq
        clear heq he
        subst hres
        go_wp2_with fail
        go_ret
        exact ⟨rfl, hb⟩
  · have tt : ((n : Int) != (k : Int)) = true := by rw [bne_iff_ne]; omega
    have tt' : (n != k) = true := by rw [bne_iff_ne]; omega
    have hres : R = false := by
      rw [HR.out]; refine decide_eq_false fun h => hnk ?_
      rw [HN.out.1, HN.out.2, h]
    subst hres
    go_wp2_with fail
    go_ret
    exact ⟨rfl, Below.refl _ _⟩

/-- They are marks: no commit twice, no change twice. -/
def Rt (l : List Pr) : Prop := ∀ i k, k < i → i < l.length → l[i]!.1 ≠ l[k]!.1 ∧ l[i]!.2 ≠ l[k]!.2

set_option maxRecDepth 100000 in
set_option maxHeartbeats 2000000 in
theorem refRight_any {w : World} {l : List Pr} {a : Option Addr} {cap : Nat} (hg : PsAt w a cap l) :
    Calls Tryd.prog 7 #[.slice a l.length cap] w fun e w' => ∃ r : Bool, e = .returned (.bool r) ∧ (r = true ↔ Rt l) ∧ Below w.heap.size w w' := by
  obtain ⟨n, hn⟩ : ∃ n, n = l.length := ⟨_, rfl⟩
  have HN := Lib.hid hn
  have HG := Lib.hid hg
  have hnb : n ≤ 9223372036854775807 := by rw [hn]; exact Nat.le_trans hg.le hg.big
  rw [← hn]
  clear hn hg
  have hF0 : Below w.heap.size w w := Below.refl _ _
  go_enter Tryd.func7, Tryd.ntmps7
  go_wp2_with fail
  go_loopw [3] (fun s3 wr => ∃ i : Nat, s3 = .int .i64 (i : Int) ∧ i ≤ n ∧ (∀ j k, k < j → j < i → l[j]!.1 ≠ l[k]!.1 ∧ l[j]!.2 ≠ l[k]!.2) ∧ Below w.heap.size w wr) (fun s3 _ => n - (intOf s3).toNat)
  case atStart => exact ⟨0, rfl, Nat.zero_le _, fun _ _ _ h => absurd h (Nat.not_lt_zero _), hF0⟩
  case round =>
    obtain ⟨i, rfl, hi, hpre, hb⟩ := hrel
    have HP := Lib.hid hpre
    clear hpre
    by_cases hin : i < n
    · have t1 : decide ((i : Int) < (n : Int)) = true := decide_eq_true (by omega)
      have t1' : decide (i < n) = true := decide_eq_true (by omega)
      go_wp2_with fail
      go_loopw [4] (fun s4 wq => ∃ k : Nat, s4 = .int .i64 (k : Int) ∧ k ≤ i ∧ (∀ j, j < k → l[i]!.1 ≠ l[j]!.1 ∧ l[i]!.2 ≠ l[j]!.2) ∧ Below w.heap.size w wq) (fun s4 _ => i - (intOf s4).toNat)
      case atStart => exact ⟨0, rfl, Nat.zero_le _, fun _ h => absurd h (Nat.not_lt_zero _), hb⟩
      case round =>
        obtain ⟨k, rfl, hk, hpk, hbq⟩ := hrel
        have HPK := Lib.hid hpk
        clear hpk
        by_cases hki : k < i
        · have u1 : decide ((k : Int) < (i : Int)) = true := decide_eq_true (by omega)
          have u1' : decide (k < i) = true := decide_eq_true (by omega)
          have hil : i < l.length := by rw [← HN.out]; omega
          have hkl : k < l.length := by omega
          obtain ⟨b1, q1, IX1, -, L1, L1b⟩ := (HG.out.below hbq).at tyRK (i : Int) i rfl hil
          obtain ⟨b2, q2, IX2, -, L2, L2b⟩ := (HG.out.below hbq).at tyRK (k : Int) k rfl hkl
          rw [← HN.out] at IX1 IX2
          have L1' : ∀ y : Later wr, (Instr.loadAt 45 (.pointer (some ⟨b1, q1, none⟩))).run Tryd.prog y.1 = .ok (.agg (idA l[i]!.1)) y.1 := fun y => L1 y.1 y.2
          have L2' : ∀ y : Later wr, (Instr.loadAt 45 (.pointer (some ⟨b1, q1 + 20, none⟩))).run Tryd.prog y.1 = .ok (.agg (idA l[i]!.2)) y.1 := fun y => L1b y.1 y.2
          have L3' : ∀ y : Later wr, (Instr.loadAt 45 (.pointer (some ⟨b2, q2, none⟩))).run Tryd.prog y.1 = .ok (.agg (idA l[k]!.1)) y.1 := fun y => L2 y.1 y.2
          have L4' : ∀ y : Later wr, (Instr.loadAt 45 (.pointer (some ⟨b2, q2 + 20, none⟩))).run Tryd.prog y.1 = .ok (.agg (idA l[k]!.2)) y.1 := fun y => L2b y.1 y.2
          have E1 := eq_id_run arrR l[i]!.1 l[k]!.1
          have E2 := eq_id_run arrR l[i]!.2 l[k]!.2
          have G1 := fun op x y => tyRK.eqF.2 op x y l[i]!.1 l[k]!.1
          have G2 := fun op x y => tyRK.eqF.2 op x y l[i]!.2 l[k]!.2
          simp only [] at G1 G2
          obtain ⟨d1, hd1⟩ : ∃ d, d = decide (l[i]!.1 = l[k]!.1) := ⟨_, rfl⟩
          obtain ⟨d2, hd2⟩ : ∃ d, d = decide (l[i]!.2 = l[k]!.2) := ⟨_, rfl⟩
          rw [← hd1] at E1
          rw [← hd2] at E2
          have HD := Lib.hid (And.intro hd1 hd2)
          have HBQ := Lib.hid hbq
          clear L1 L2 L1b L2b hd1 hd2 hbq hil hkl
          generalize hx1 : l[i]!.1 = x1 at *
          generalize hx2 : l[i]!.2 = x2 at *
          generalize hy1 : l[k]!.1 = y1 at *
          generalize hy2 : l[k]!.2 = y2 at *
          have HX := Lib.hid (And.intro (And.intro hx1 hx2) (And.intro hy1 hy2))
          clear hx1 hx2 hy1 hy2
          cases d1
          · go_upto_region 7 with (fail)
            refine wp_region_mg [(0, 0), (1, 0), (2, 0), (3, 0), (4, 0), (5, 0), (6, 0), (7, 0), (8, 0), (9, 0), (10, 0), (11, 0), (12, 0), (13, 0), (14, 0), (15, 0), (16, 0), (17, 0), (18, 0), (19, 0), (20, 0), (21, 0), (22, 0), (23, 0)] (by kernel_rfl) (by kernel_rfl) ?_
            iterate 24 (first | (refine mg_load rfl rfl _ _ rfl _ _ rfl L1' ?_) | (refine mg_load rfl rfl _ _ rfl _ _ rfl L2' ?_) | (refine mg_load rfl rfl _ _ rfl _ _ rfl L3' ?_) | (refine mg_load rfl rfl _ _ rfl _ _ rfl L4' ?_) | (refine mg_calm rfl (fun K hK => ?_); go_simp; (refine hK _ ?_; clear hK K)))
            refine mg_nil fun w7 hw7 => ?_
            have HB7 := Lib.hid (HBQ.out.trans (Below.mono hw7 HBQ.out.size))
            clear L1' L2' L3' L4' IX1 IX2 E1 E2 G1 G2 hw7
            cases d2
            · go_wp2_with fail
              go_roundw
              case rel =>
                refine ⟨k + 1, by go_num, by omega, fun j hj => ?_, HB7.out⟩
                rcases Nat.lt_or_ge j k with h | h
                · exact HPK.out j h
                · obtain rfl : j = k := by omega
                  rw [HX.out.2.1, HX.out.2.2]
                  have := HPK
                  obtain ⟨⟨e1, e2⟩, -⟩ := HX.out
                  first
                    | exact ⟨of_decide_eq_false HD.out.1.symm, of_decide_eq_false HD.out.2.symm⟩
                    | (rw [e1, e2]; exact ⟨of_decide_eq_false HD.out.1.symm, of_decide_eq_false HD.out.2.symm⟩)
              case measure => simp [intOf]; omega
            · go_wp2_with fail
              go_ret
              refine ⟨_, rfl, ⟨fun h => (by cases h), fun h => absurd (h i k hki (by rw [← HN.out]; omega)).2 ?_⟩, HB7.out⟩
              rw [HX.out.1.2, HX.out.2.2]
              exact fun hc => hc (of_decide_eq_true HD.out.2.symm)
          · go_upto_region 7 with (fail)
            refine wp_region_mg [(0, 0), (1, 0), (2, 0), (3, 0), (4, 0), (5, 0), (6, 0), (7, 0), (8, 0), (9, 0), (10, 0), (11, 0), (12, 0), (13, 0), (14, 0), (15, 0), (16, 0), (17, 0), (18, 0), (19, 0), (20, 0), (21, 0), (22, 0), (23, 0)] (by kernel_rfl) (by kernel_rfl) ?_
            iterate 24 (first | (refine mg_load rfl rfl _ _ rfl _ _ rfl L1' ?_) | (refine mg_load rfl rfl _ _ rfl _ _ rfl L3' ?_) | (refine mg_calm rfl (fun K hK => ?_); go_simp; (refine hK _ ?_; clear hK K)))
            refine mg_nil fun w7 hw7 => ?_
            have HB7 := Lib.hid (HBQ.out.trans (Below.mono hw7 HBQ.out.size))
            clear L1' L2' L3' L4' IX1 IX2 E1 E2 G1 G2 hw7
            go_wp2_with fail
            go_ret
            refine ⟨_, rfl, ⟨fun h => (by cases h), fun h => absurd (h i k hki (by rw [← HN.out]; omega)).1 ?_⟩, HB7.out⟩
            rw [HX.out.1.1, HX.out.2.1]
            exact fun hc => hc (of_decide_eq_true HD.out.1.symm)
        · obtain rfl : k = i := by omega
          have u1 : decide ((k : Int) < (k : Int)) = false := decide_eq_false (by omega)
          have u1' : decide (k < k) = false := decide_eq_false (by omega)
          go_wp2_with fail
          go_roundw
          case rel =>
            refine ⟨k + 1, by go_num, by omega, fun j m hm hj => ?_, hbq⟩
            rcases Nat.lt_or_ge j k with h | h
            · exact HP.out j m hm h
            · obtain rfl : j = k := by omega
              exact HPK.out m hm
          case measure => simp [intOf]; omega
    · obtain rfl : i = n := by omega
      have t1 : decide ((i : Int) < (i : Int)) = false := decide_eq_false (by omega)
      have t1' : decide (i < i) = false := decide_eq_false (by omega)
      go_wp2_with fail
      go_ret
      refine ⟨_, rfl, ⟨fun _ j k hk hj => HP.out j k hk (by rw [HN.out]; exact hj), fun _ => rfl⟩, hb⟩
end Go.Proofs.YtnlkanhakmkejaaDoor
