/-
  partner, Hg, Git: the walks.
-/
import Derived.Test.YtnlkanhakmkejaaFindFns
namespace Go.Proofs.Ytnlkanhakmkejaa
open Go.RowKit Go.Mix Go.WideMaps Go.Proofs

theorem idx_from (p : Pr → Bool) : ∀ (l : List Pr) (i : Nat), (l.find? p = none ∧ Go.Lib.idxByFrom (fun _ y => p y) default l i = -1) ∨ ∃ k, k < l.length ∧ Go.Lib.idxByFrom (fun _ y => p y) default l i = ((i + k : Nat) : Int) ∧ l.find? p = some l[k]!
  | [], i => .inl ⟨rfl, rfl⟩
  | y :: l, i => by
    cases hp : p y with
    | true => exact .inr ⟨0, by simp, by simp [Go.Lib.idxByFrom, hp], by simp [hp]⟩
    | false =>
      rcases idx_from p l (i + 1) with ⟨h1, h2⟩ | ⟨k, hk, h1, h2⟩
      · exact .inl ⟨by simp [hp, h1], by simp only [Go.Lib.idxByFrom, hp]; exact h2⟩
      · refine .inr ⟨k + 1, by simp; omega, ?_, by simp [hp, h2]⟩
        simp only [Go.Lib.idxByFrom, hp]
        rw [if_neg (by simp), h1]; omega
def idxP (p : Pr → Bool) (l : List Pr) : Int := Go.Lib.idxBy (fun _ y => p y) l default
theorem idx_find (p : Pr → Bool) (l : List Pr) : (l.find? p = none ∧ idxP p l = -1) ∨ ∃ k : Nat, k < l.length ∧ idxP p l = (k : Int) ∧ l.find? p = some l[k]! := by
  have := idx_from p l 0
  simp only [Nat.zero_add] at this
  exact this

set_option maxRecDepth 100000 in
set_option maxHeartbeats 1000000 in
theorem indexFunc_empty {w : World} (a : Option Addr) (cap : Nat) (f : Value) : Calls Try.prog 37 #[.slice a 0 cap, f] w fun e w' => e = .returned (.int .i64 (-1)) ∧ w' = w := by
  go_enter Try.func37, Try.ntmps37
  go_wp2_with fail
  go_loopw [5, 8] (fun _ s8 wr => s8 = .int .i64 0 ∧ wr = w) (fun _ _ _ => 0)
  case atStart => exact ⟨rfl, rfl⟩
  case round =>
    obtain ⟨rfl, rfl⟩ := hrel
    go_wp2_with fail
    go_ret
    exact ⟨rfl, rfl⟩

set_option maxRecDepth 100000 in
set_option maxHeartbeats 1000000 in
theorem indexFunc_any {w : World} {a : Option Addr} {cap : Nat} {l : List Pr} (h : PsAt w a cap l) (p : Pr → Bool) (g : Nat) (lb : Array Value) (eg : ∀ args w, (callFunc g args).run Try.prog w = .ok (.enter g args) w)
    (hp : PredBelow Try.prog g lb (fun x => .agg (enc x).toArray) p w) :
    Calls Try.prog 37 #[.slice a l.length cap, .func (.func g) #[] lb] w fun e w' => e = .returned (.int .i64 (idxP p l)) ∧ Below w.heap.size w w' := by
  have hle := h.le
  have hbig := h.big
  by_cases hl : l = []
  · subst hl
    exact (indexFunc_empty a cap _).mono fun e w' ⟨he, hw⟩ => ⟨he, by rw [hw]; exact Below.refl _ _⟩
  · rcases h.cells with h0 | ⟨b, o, rfl, hc⟩
    · exact absurd h0 hl
    · have hpos : 0 < l.length := by cases l with | nil => exact absurd rfl hl | cons => simp
      have h0 := hc 0 hpos
      have hb : b < w.heap.size := lt_of_cell (p := ⟨b, _, none⟩) (h0 0 _ (List.getElem?_eq_getElem (by rw [enc_len]; omega)))
      have := AnyQ.slices_IndexFunc Try.lgIndexFunc 40 Try.isAgg32 Try.sizeOf32 enc enc_len p g lb eg b o l.length cap l w hp (Nat.le_refl _) (by omega) hb (fun j hj i v hi => hc j hj i v hi)
      rw [List.take_length] at this
      exact this

/-- What is found, and whether. -/
def found (p : Pr → Bool) (tell : Pr → Id20) (l : List Pr) : Id20 := match l.find? p with | some q => tell q | none => id0
def isFound (p : Pr → Bool) (l : List Pr) : Bool := (l.find? p).isSome

set_option maxRecDepth 100000 in
set_option maxHeartbeats 1000000 in
theorem partner_any {w : World} {a : Option Addr} {cap : Nat} {l : List Pr} (h : PsAt w a cap l) (p : Pr → Bool) (tell : Pr → Id20) (g t : Nat) (lb : Array Value) (eg : ∀ args w, (callFunc g args).run Try.prog w = .ok (.enter g args) w)
    (et : ∀ args w, (callFunc t args).run Try.prog w = .ok (.enter t args) w)
    (hp : ∀ W, Below w.heap.size w W → PredBelow Try.prog g lb (fun x => .agg (enc x).toArray) p W)
    (ht : ∀ (W : World) (q : Pr), Calls Try.prog t #[.agg (encA q)] W fun e w' => e = .returned (.agg (idA (tell q))) ∧ Below W.heap.size W w') :
    Calls Try.prog 23 #[.slice a l.length cap, .func (.func g) #[] lb, .func (.func t) #[] #[]] w fun e w' => e = .returned (.tuple #[.agg (idA (found p tell l)), .bool (isFound p l)]) ∧ Below w.heap.size w w' := by
  obtain ⟨Z, hZ⟩ : ∃ Z, Z = idA id0 := ⟨_, rfl⟩
  have z : ∀ w, (zeroValue 30).run Try.prog w = .ok (.agg Z) w := fun w => by rw [hZ]; kernel_rfl
  have bz : ∀ w, (Instr.build 30 ([] : List (Nat × Value)).toArray).run Try.prog w = .ok (.agg Z) w := fun w => by rw [hZ]; kernel_rfl
  have hA : Below w.heap.size w (w.alloc (.cells Z 30)) := (Below.refl _ _).alloc (Nat.le_refl _) _
  have C := indexFunc_any (h.below hA) p g lb eg (hp _ hA)
  have HH := Lib.hid h
  have HA := Lib.hid hA
  have HZ := Lib.hid hZ
  have hb : (w.alloc (.cells Z 30)).heap[w.heap.size]? = some (.cells Z 30 (0, 0)) := heap_alloc_last _ _ _ rfl
  have HT := Lib.hid ht
  have hI := idx_find p l
  generalize idxP p l = i at C hI
  have HI := Lib.hid hI
  obtain ⟨n, hn⟩ : ∃ n, n = l.length := ⟨_, rfl⟩
  have HN := Lib.hid hn
  rw [← hn] at C ⊢
  clear hp hA h hI hZ ht hn
  go_enter Try.func23, Try.ntmps23
  go_wp2_with fail
  refine C.mono ?_
  rintro e w2 ⟨rfl, hb2⟩
  have hb3 := block_below hb hb2
  have HB := Lib.hid (HA.out.trans (hb2.mono (by simp)))
  have hss : (idA (found p tell l)).size = Z.size := by rw [HZ.out]; simp [idA, idc_len]
  have hsz : Z.size = 20 := by rw [HZ.out]; simp [idA, idc_len]
  have hi20 : (Try.prog.info? 30).map (·.size) = some Z.size := by rw [hsz]; exact tyG.fi
  have hone : ∀ x : Id20, (idA x).all (·.oneCell') = true := fun x => all_oneCell_toArray (bcells_one _)
  have hZ1 : Z.all (·.oneCell') = true := by rw [HZ.out]; exact hone id0
  have HSZ := Lib.hid (And.intro hss hsz)
  have HI20 := Lib.hid hi20
  clear C hb hi20 hss hsz
  rcases HI.out with ⟨hf, rfl⟩ | ⟨k, hk, rfl, hf⟩
  · have ef : found p tell l = id0 := by unfold found; rw [hf]
    have eb : isFound p l = false := by unfold isFound; rw [hf]; rfl
    have HE := Lib.hid (And.intro ef eb)
    clear hf ef eb
    go_wp2_with (first | (refine wpList_build_at rfl _ _ rfl [] _ rfl (bz w2) ?_) | (refine wpList_store_row rfl 30 _ _ rfl w.heap.size Z rfl rfl 30 Z hb3 HI20.out rfl hZ1 ?_))
    refine bodyPost_ret (results_cell_tmp rfl _ _ w.heap.size 30 Z (0, 0) _ rfl (setRow_heap _ _ _ _ _ _ hb3) Try.underlying30 rfl HI20.out) rfl ?_
    rw [HE.out.1, HE.out.2, ← HZ.out]
    exact ⟨rfl, below_setRow HB.out (Nat.le_refl _) _⟩
  · have ef : found p tell l = tell l[k]! := by unfold found; rw [hf]
    have eb : isFound p l = true := by unfold isFound; rw [hf]; rfl
    have HEB := Lib.hid eb
    have HE := Lib.hid (And.intro ef eb)
    obtain ⟨b, q, IX, L, -, -⟩ := (HH.out.below (HA.out.trans (hb2.mono (by simp)))).at tyG (k : Int) k rfl hk
    rw [← HN.out] at IX
    have L' := L w2 (Below.refl _ _)
    have C2 := HT.out w2 l[k]!
    rw [← ef] at C2
    obtain ⟨x, hx⟩ : ∃ x, x = found p tell l := ⟨_, rfl⟩
    have HX := Lib.hid hx
    rw [← hx] at C2
    have hneg : decide ((k : Int) < 0) = false := decide_eq_false (by omega)
    clear L hf ef eb hx HE
    generalize l[k]! = pr at *
    go_wp2_with (first | (refine wpList_load_at rfl _ _ rfl _ _ rfl L' ?_) | (go_at_fn t; fail))
    refine C2.mono ?_
    rintro e w3 ⟨rfl, hb4⟩
    have hb5 := block_below hb3 hb4
    have HB5 := Lib.hid (HB.out.trans (hb4.mono HB.out.size))
    have hsx : Z.size = (idA x).size := by rw [HSZ.out.2]; simp [idA, idc_len]
    have hi20 := HI20.out
    rw [hsx] at hi20
    have h1x := hone x
    clear C2 L' hb4
    go_wp2_with (first | (refine wpList_store_row rfl 30 _ _ rfl w.heap.size (idA x) rfl rfl 30 Z hb5 hi20 hsx h1x ?_))
    refine bodyPost_ret (results_cell_tmp rfl _ _ w.heap.size 30 (idA x) (0, 0) _ rfl (setRow_heap _ _ _ _ _ _ hb5) Try.underlying30 rfl hi20) rfl ?_
    rw [HEB.out, ← HX.out]
    exact ⟨rfl, below_setRow HB5.out (Nat.le_refl _) _⟩

theorem hgTest_at {B : Nat} {x : Id20} {w : World} (hc : w.rangeAt B 0 (idc x)) (W : World) (h : Below w.heap.size w W) :
    PredBelow Try.prog 24 #[.pointer (some ⟨B, 0, none⟩)] (fun p => .agg (enc p).toArray) (fun p => decide (p.1 = x)) W := hgTest_any (range_below hc h)
theorem gitTest_at {B : Nat} {x : Id20} {w : World} (hc : w.rangeAt B 0 (idc x)) (W : World) (h : Below w.heap.size w W) :
    PredBelow Try.prog 26 #[.pointer (some ⟨B, 0, none⟩)] (fun p => .agg (enc p).toArray) (fun p => decide (p.2 = x)) W := gitTest_any (range_below hc h)
theorem enters25 : ∀ args w, (callFunc 25 args).run Try.prog w = .ok (.enter 25 args) w := enters_of Try.func25 (by kernel_rfl) rfl
theorem enters27 : ∀ args w, (callFunc 27 args).run Try.prog w = .ok (.enter 27 args) w := enters_of Try.func27 (by kernel_rfl) rfl

/-- A commit's change; a change's commit. -/
def hgOf (l : List Pr) (x : Id20) : Id20 := found (fun p => decide (p.1 = x)) (fun p => p.2) l
def hasHg (l : List Pr) (x : Id20) : Bool := isFound (fun p => decide (p.1 = x)) l
def gitOf (l : List Pr) (x : Id20) : Id20 := found (fun p => decide (p.2 = x)) (fun p => p.1) l
def hasGit (l : List Pr) (x : Id20) : Bool := isFound (fun p => decide (p.2 = x)) l

set_option maxRecDepth 100000 in
set_option maxHeartbeats 1000000 in
theorem hg_any {w : World} {a : Option Addr} {cap : Nat} {l : List Pr} (h : PsAt w a cap l) (x : Id20) :
    Calls Try.prog 11 #[.slice a l.length cap, .agg (idA x)] w fun e w' => e = .returned (.tuple #[.agg (idA (hgOf l x)), .bool (hasHg l x)]) ∧ Below w.heap.size w w' := by
  obtain ⟨Z, hZ⟩ : ∃ Z, Z = idA id0 := ⟨_, rfl⟩
  have z : ∀ w, (zeroValue 30).run Try.prog w = .ok (.agg Z) w := fun w => by rw [hZ]; kernel_rfl
  have hsz : Z.size = 20 := by rw [hZ]; simp [idA, idc_len]
  have hs1 : (w.alloc (.cells (idA x) 30)).heap.size = w.heap.size + 1 := by simp
  have hA : Below w.heap.size w ((w.alloc (.cells (idA x) 30)).alloc (.cells Z 30)) := ((Below.refl _ _).alloc (Nat.le_refl _) _).alloc (by simp) _
  have hr : ((w.alloc (.cells (idA x) 30)).alloc (.cells Z 30)).rangeAt w.heap.size 0 (idc x) := range_below (range_box w (idc x) 30) ((Below.refl _ _).alloc (Nat.le_refl _) _)
  have hb : ((w.alloc (.cells (idA x) 30)).alloc (.cells Z 30)).heap[w.heap.size + 1]? = some (.cells Z 30 (0, 0)) := heap_alloc_last _ _ _ hs1.symm
  have C := partner_any (h.below hA) (fun p => decide (p.1 = x)) (fun p => p.2) 24 25 #[.pointer (some ⟨w.heap.size, 0, none⟩)] enters24 enters25 (hgTest_at hr) (fun W q => hgTells_any q W)
  change Calls _ _ _ _ (fun e w' => e = .returned (.tuple #[.agg (idA (hgOf l x)), .bool (hasHg l x)]) ∧ _) at C
  have hi20 : (Try.prog.info? 30).map (·.size) = some (idA (hgOf l x)).size := by rw [show (idA (hgOf l x)).size = 20 by simp [idA, idc_len]]; exact tyG.fi
  have hsx : Z.size = (idA (hgOf l x)).size := by rw [hsz]; simp [idA, idc_len]
  have hone : (idA (hgOf l x)).all (·.oneCell') = true := all_oneCell_toArray (bcells_one _)
  have HA := Lib.hid hA
  have HI := Lib.hid hi20
  have HSX := Lib.hid hsx
  have HONE := Lib.hid hone
  clear hA h hZ hr hs1 hsz hi20 hsx hone
  generalize hgOf l x = r at *
  generalize hasHg l x = bb at *
  generalize l.length = n at *
  go_enter Try.func11, Try.ntmps11
  go_wp2_with fail
  refine C.mono ?_
  rintro e w2 ⟨rfl, hb2⟩
  have hb3 := block_below hb hb2
  have HB := Lib.hid (HA.out.trans (hb2.mono (by simp; omega)))
  clear C hb hb2
  go_wp2_with (first | (refine wpList_store_row rfl 30 _ _ rfl (w.heap.size + 1) (idA r) rfl rfl 30 Z hb3 HI.out HSX.out HONE.out ?_))
  refine bodyPost_ret (results_cell_tmp rfl _ _ (w.heap.size + 1) 30 (idA r) (0, 0) _ rfl (setRow_heap _ _ _ _ _ _ hb3) Try.underlying30 rfl HI.out) rfl ?_
  exact ⟨rfl, below_setRow HB.out (by omega) _⟩
set_option maxRecDepth 100000 in
set_option maxHeartbeats 1000000 in
theorem git_any {w : World} {a : Option Addr} {cap : Nat} {l : List Pr} (h : PsAt w a cap l) (x : Id20) :
    Calls Try.prog 12 #[.slice a l.length cap, .agg (idA x)] w fun e w' => e = .returned (.tuple #[.agg (idA (gitOf l x)), .bool (hasGit l x)]) ∧ Below w.heap.size w w' := by
  obtain ⟨Z, hZ⟩ : ∃ Z, Z = idA id0 := ⟨_, rfl⟩
  have z : ∀ w, (zeroValue 30).run Try.prog w = .ok (.agg Z) w := fun w => by rw [hZ]; kernel_rfl
  have hsz : Z.size = 20 := by rw [hZ]; simp [idA, idc_len]
  have hs1 : (w.alloc (.cells (idA x) 30)).heap.size = w.heap.size + 1 := by simp
  have hA : Below w.heap.size w ((w.alloc (.cells (idA x) 30)).alloc (.cells Z 30)) := ((Below.refl _ _).alloc (Nat.le_refl _) _).alloc (by simp) _
  have hr : ((w.alloc (.cells (idA x) 30)).alloc (.cells Z 30)).rangeAt w.heap.size 0 (idc x) := range_below (range_box w (idc x) 30) ((Below.refl _ _).alloc (Nat.le_refl _) _)
  have hb : ((w.alloc (.cells (idA x) 30)).alloc (.cells Z 30)).heap[w.heap.size + 1]? = some (.cells Z 30 (0, 0)) := heap_alloc_last _ _ _ hs1.symm
  have C := partner_any (h.below hA) (fun p => decide (p.2 = x)) (fun p => p.1) 26 27 #[.pointer (some ⟨w.heap.size, 0, none⟩)] enters26 enters27 (gitTest_at hr) (fun W q => gitTells_any q W)
  change Calls _ _ _ _ (fun e w' => e = .returned (.tuple #[.agg (idA (gitOf l x)), .bool (hasGit l x)]) ∧ _) at C
  have hi20 : (Try.prog.info? 30).map (·.size) = some (idA (gitOf l x)).size := by rw [show (idA (gitOf l x)).size = 20 by simp [idA, idc_len]]; exact tyG.fi
  have hsx : Z.size = (idA (gitOf l x)).size := by rw [hsz]; simp [idA, idc_len]
  have hone : (idA (gitOf l x)).all (·.oneCell') = true := all_oneCell_toArray (bcells_one _)
  have HA := Lib.hid hA
  have HI := Lib.hid hi20
  have HSX := Lib.hid hsx
  have HONE := Lib.hid hone
  clear hA h hZ hr hs1 hsz hi20 hsx hone
  generalize gitOf l x = r at *
  generalize hasGit l x = bb at *
  generalize l.length = n at *
  go_enter Try.func12, Try.ntmps12
  go_wp2_with fail
  refine C.mono ?_
  rintro e w2 ⟨rfl, hb2⟩
  have hb3 := block_below hb hb2
  have HB := Lib.hid (HA.out.trans (hb2.mono (by simp; omega)))
  clear C hb hb2
  go_wp2_with (first | (refine wpList_store_row rfl 30 _ _ rfl (w.heap.size + 1) (idA r) rfl rfl 30 Z hb3 HI.out HSX.out HONE.out ?_))
  refine bodyPost_ret (results_cell_tmp rfl _ _ (w.heap.size + 1) 30 (idA r) (0, 0) _ rfl (setRow_heap _ _ _ _ _ _ hb3) Try.underlying30 rfl HI.out) rfl ?_
  exact ⟨rfl, below_setRow HB.out (by omega) _⟩
end Go.Proofs.Ytnlkanhakmkejaa
