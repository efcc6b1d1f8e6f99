/-
  The walk of told of package inflate.
-/
import Derived.Test.YtaapnjhkflpiiaaInf8
import Derived.Test.YtaapnjhkflpiiaaMixT
import Derived.Deep.CutBlock
namespace Go.Proofs.Ytaapnjhkflpiiaa
open Go.RowKit Go.Mix

abbrev ordC : Array Value := #[.int .i64 16, .int .i64 17, .int .i64 18, .int .i64 0, .int .i64 8, .int .i64 7, .int .i64 9, .int .i64 6, .int .i64 10, .int .i64 5, .int .i64 11, .int .i64 4, .int .i64 12, .int .i64 3, .int .i64 13, .int .i64 2, .int .i64 14, .int .i64 1, .int .i64 15]
theorem ordC_eq : ordC.toList = icells order19 := rfl

theorem slice_order (O m : Nat) (hm : m ≤ 19) (w : World) : (Instr.sliceAt 88 (.pointer (some ⟨O, 0, none⟩)) none (some (.int .i64 (m : Int))) none).run Try.prog w = .ok (.slice (some ⟨O, 0, none⟩) m 19) w := by
  have e : (Try.prog).arrayLen 88 = 19 := by kernel_rfl
  have e2 : (Try.prog).elem 88 = 3 := by kernel_rfl
  rw [run_sliceAt_array_h (P := Try.prog) w 88 ⟨O, 0, none⟩ (by kernel_rfl) .i64 (m : Int) (by omega) (by rw [e]; omega), e, e2, sizeOf_int]
  show Result.ok _ w = _
  congr 1

section
variable {S : Nat → Prop} {w0 w w' : World} {P : Nat} {a : Option Addr} {cap : Nat} {d : List UInt8} {most : Int} {p : Nat} {out : List UInt8}
theorem InfS.self (h : InfS S w0 w P a cap d most p out) : InfS S w w P a cap d most p out := by
  obtain ⟨v, h⟩ := h
  exact ⟨v, h.blk, h.row.rebase (FrameS.refl fun k hk => h.row.frame.lt hk) h.row.off, h.off, h.few⟩
theorem InfS.base (h : InfS S w w' P a cap d most p out) (f : FrameS S w0 w) : InfS S w0 w' P a cap d most p out := by
  obtain ⟨v, h⟩ := h
  exact ⟨v, h.blk, h.row.rebase (f.trans h.row.frame) h.row.off, h.off, h.few⟩
end
theorem InfS.grown {S : Nat → Prop} {w0 w w' : World} {P : Nat} {a : Option Addr} {cap : Nat} {d : List UInt8} {most : Int} {p : Nat} {out : List UInt8} {v : Value} {xs : List Value}
    (h : InfS S w0 w P a cap d most p out) (hr : Row S 3 w0 w v xs) (g : w.grownBy w' v.ownBlock) : InfS S w0 w' P a cap d most p out := by
  obtain ⟨vo, h⟩ := h
  have hP : v.ownBlock ≠ some P := hr.other h.blk (by decide)
  refine ⟨vo, (g.block P (lt_of_block h.blk) (fun e => hP e.symm)).trans h.blk, h.row.kept g ?_ hr.off, h.off, h.few⟩
  cases hv : vo.ownBlock with
  | none => exact .inl rfl
  | some k =>
    refine .inr fun e => ?_
    obtain ⟨Ck, hk⟩ := hr.held k e.symm
    exact h.row.other hk (by decide) hv

theorem Cells.takeI {w : World} {a : Option Addr} {l : List Nat} (h : Cells w a (icells l)) (k : Nat) : Cells w a (icells (l.take k)) := by
  have e : icells (l.take k) = (icells l).take k := by simp [icells, List.map_take]
  rw [e]
  refine ⟨fun ha => by rw [h.1 ha]; simp, fun j hj => ?_⟩
  rw [List.length_take] at hj
  rw [h.2 j (by omega), List.getElem_take]
theorem Cells.dropI {w : World} {a : Option Addr} {l : List Nat} (h : Cells w a (icells l)) (cap k : Nat) (hc : l.length ≤ cap) : Cells w (subAt a cap k) (icells (l.drop k)) := by
  have e : icells (l.drop k) = (icells l).drop k := by simp [icells, List.map_drop]
  rw [e]
  by_cases hk : l.length ≤ k
  · have e2 : (icells l).drop k = [] := List.drop_of_length_le (by rw [icells_length]; exact hk)
    rw [e2]
    exact ⟨fun _ => rfl, fun j hj => by simp at hj⟩
  · have hs : subAt a cap k = a.map (·.add k) := by unfold subAt; rw [if_neg (by omega)]
    rw [hs]
    cases a with
    | none => exact ⟨fun _ => by rw [h.1 rfl]; simp, fun j hj => by rw [h.1 rfl] at hj; simp at hj⟩
    | some x =>
      refine ⟨fun e => by simp at e, fun j hj => ?_⟩
      rw [List.length_drop] at hj
      rw [List.getElem_drop, ← h.2 (k + j) (by omega)]
      show w.cell? ((x.add k).add j) = w.cell? (x.add (k + j))
      rw [add_add]

theorem FrameS.grow {S : Nat → Prop} {w w' : World} (h : FrameS S w w') : MixT.Grow S w w' := ⟨h.os, h.tape, h.output, h.size, fun k hk _ => (h.keep k hk).2⟩
theorem FrameS.of_grow {S : Nat → Prop} {w w' : World} (h : MixT.Grow S w w') (f : FrameS S w w) : FrameS S w w' := ⟨h.os, h.tape, h.output, h.size, fun k hk => ⟨f.lt hk, h.keep k hk (f.lt hk)⟩⟩
def lenV : Value → Nat
  | .slice _ n _ => n
  | _ => 0
theorem order_lt : ∀ j, j < 19 → order19.getD j 0 < 19 := by decide
theorem drop_getD (l : List Nat) (j : Nat) : (l.drop j).getD 0 0 = l.getD j 0 := by simp [List.getD_eq_getElem?_getD]
theorem order_cells {w : World} {O : Nat} {t : TypeId} {fr : Nat × Nat} (h : w.heap[O]? = some (.cells ordC t fr)) (m : Nat) : Cells w (some ⟨O, 0, none⟩) (icells (order19.take m)) := by
  refine ⟨fun h => by simp at h, fun j hj => ?_⟩
  rw [elt_own, cell_of_row w O j _ _ _ h]
  have e : ordC[j]? = ordC.toList[j]? := by simp
  rw [e, ordC_eq]
  rw [icells_length, List.length_take] at hj
  have h2 : (icells (order19.take m))[j]? = (icells order19)[j]? := by
    simp only [icells, List.getElem?_map]
    rw [List.getElem?_take, if_pos (by omega)]
  rw [← h2, List.getElem?_eq_getElem]

section
variable {S : Nat → Prop} {w0 w w' : World} {P : Nat} {a : Option Addr} {cap : Nat} {d : List UInt8} {most : Int} {p : Nat} {out : List UInt8}

theorem InfAt.setRow_other {v : Value} (h : InfAt S w0 w P a cap d most p out v) {g : Nat} {C : Array Value} {t : TypeId} {fr : Nat × Nat} (hg : w.heap[g]? = some (.cells C t fr)) (ht : t ≠ 5) (hgP : g ≠ P) (hgS : ¬ S g) (D : Array Value) :
    InfAt S w0 (w.setRow g D) P a cap d most p out v :=
  ⟨(heap_setRow_other w g P D (Ne.symm hgP)).trans h.blk,
    h.row.kept (row := some g) ⟨rfl, rfl, rfl, by rw [size_setRow]; exact Nat.le_refl _, fun k _ hk => heap_setRow_other w g k D (fun e => hk (by rw [e]))⟩ (.inr (h.row.other hg ht)) (fun k hk => by injection hk with hk; subst hk; exact hgS), h.off, h.few⟩

/-- What is left when the codes are there. -/
theorem ready_of {v : Value} (h : InfAt S w0 w P a cap d most p out v) {B : Nat} (hP : P < B) (hv : ∀ g, v.ownBlock = some g → g < B) {cl cd : List Nat} {C D : Array Value}
    (hc : CodeIn (fun k => B ≤ k ∧ k < w.heap.size) w cl C) (hd : CodeIn (fun k => B ≤ k ∧ k < w.heap.size) w cd D) : Ready S w0 w P a cap d most p out cl cd C D := by
  have hF := h.row.frame
  have hST : ∀ k, S k → k < w.heap.size ∧ k ≠ P ∧ v.ownBlock ≠ some k := fun k hk => ⟨hF.lt hk, fun e => h.off (e ▸ hk), fun e => h.row.off k e hk⟩
  have hB : ∀ w2, FrameS (fun k => k < w.heap.size ∧ k ≠ P ∧ v.ownBlock ≠ some k) w w2 → FrameS S w0 w2 := fun w2 hf => hF.trans (hf.sub hST)
  have hN : ∀ k, B ≤ k ∧ k < w.heap.size → k < w.heap.size ∧ k ≠ P ∧ v.ownBlock ≠ some k := fun k hk => ⟨hk.2, by omega, fun e => by have := hv k e; omega⟩
  refine ⟨fun k => k < w.heap.size ∧ k ≠ P ∧ v.ownBlock ≠ some k, hST, ⟨v, h.blk, h.row.rebase (FrameS.refl fun k hk => hk.1) (fun g hg hk => hk.2.2 hg), fun hk => hk.2.1 rfl, h.few⟩, hc.sub hN, hd.sub hN, ?_, hB⟩
  rintro w2 p' out' ⟨v', h2⟩
  exact ⟨v', h2.blk, h2.row.rebase (hB w2 h2.row.frame) (fun g hg hk => h2.row.off g hg (hST g hk)), h.off, h2.few⟩

set_option maxRecDepth 100000 in
set_option maxHeartbeats 1000000 in
theorem told_any (hd : Fits S w0 a cap d most) (h : InfS S w0 w P a cap d most p out) (hp : p ≤ 8 * d.length) :
    Calls Try.prog 40 #[.pointer (some ⟨P, 0, none⟩)] w
      (Outs (toldR d p) (FrameS S w0) fun x e w' => ∃ C D, e = .returned (.tuple #[.agg C, .agg D]) ∧ Ready S w0 w' P a cap d most x.2.2 out x.1 x.2.1 C D) := by
  have HR := Lib.hid (told_below d p)
  generalize toldR d p = R at *
  have hPlt : P < w.heap.size := by obtain ⟨v, h⟩ := h; exact lt_of_block h.blk
  have hSA : ∀ k, S k → k < w.heap.size := fun k hk => h.frame.lt hk
  have h1 := (h.later ((Below.refl _ _).alloc (Nat.le_refl _) (.cells zeroC 61) : Below w.heap.size w (w.alloc (.cells zeroC 61)))).later ((Below.refl _ _).alloc (Nat.le_refl _) (.cells zeroC 61))
  have hA : ((w.alloc (.cells zeroC 61)).alloc (.cells zeroC 61)).heap[w.heap.size]? = some (.cells zeroC 61 (0, 0)) :=
    (((Below.refl (w.alloc (.cells zeroC 61)).heap.size _).alloc (Nat.le_refl _) _).block w.heap.size (by simp)).trans (heap_alloc_last _ _ _ rfl)
  have hB : ((w.alloc (.cells zeroC 61)).alloc (.cells zeroC 61)).heap[w.heap.size + 1]? = some (.cells zeroC 61 (0, 0)) := heap_alloc_last _ _ _ (by simp)
  go_enter Try.func40, Try.ntmps40
  go_wp2_with fail
  generalize ((w.alloc (.cells zeroC 61)).alloc (.cells zeroC 61)) = w1 at *
  generalize hQn : w.heap.size = A at *
  clear hQn
  obtain ⟨T, hST, hI1, hTall, hback, hbackF⟩ := h1.hold
  have hTA : T A := hTall A zeroC _ _ hA (by omega) (by decide)
  have hTB : T (A + 1) := hTall (A + 1) zeroC _ _ hB (by omega) (by decide)
  have hdT := hd.hold h1.frame hST
  clear hTall h1 h hd
  have C1 := belowS_any hdT hI1 hp 5 30 5 30 rfl rfl (by decide)
  cases hr1 : belowR d 5 30 p with
  | error k =>
    have HC := Lib.hid (Outs.err C1 hr1)
    have HG := HR.out
    rw [hr1] at HG
    have HG2 := Lib.hid HG
    clear C1 hr1 HG HR hA hB
    refine Calls.mono HC.out ?_
    rintro e w2 ⟨rfl, hF⟩
    have hF2 := hbackF _ hF
    go_wp2_with fail
    exact ⟨rfl, Outs.of_err HG2.out hF2⟩
  | ok x1 =>
  obtain ⟨na, p1⟩ := x1
  obtain ⟨-, hp1, hna⟩ := belowR_le hr1
  have HC := Lib.hid (Outs.good C1 hr1)
  have HG := HR.out
  simp only [hr1] at HG
  have HG2 := Lib.hid HG
  clear C1 hr1 HG HR
  refine Calls.mono HC.out ?_
  rintro e w2 ⟨rfl, hI2⟩
  clear HC
  have C2 := belowS_any hdT hI2 hp1 5 30 5 30 rfl rfl (by decide)
  cases hr2 : belowR d 5 30 p1 with
  | error k =>
    have HC := Lib.hid (Outs.err C2 hr2)
    have HG := HG2.out
    rw [hr2] at HG
    have HG3 := Lib.hid HG
    clear C2 hr2 HG HG2 hA hB
    go_wp2_with fail
    refine Calls.mono HC.out ?_
    rintro e w3 ⟨rfl, hF⟩
    have hF2 := hbackF _ hF
    go_wp2_with fail
    exact ⟨rfl, Outs.of_err HG3.out hF2⟩
  | ok x2 =>
  obtain ⟨nb, p2⟩ := x2
  obtain ⟨-, hp2, hnb⟩ := belowR_le hr2
  have HC := Lib.hid (Outs.good C2 hr2)
  have HG := HG2.out
  simp only [hr2] at HG
  have HG3 := Lib.hid HG
  clear C2 hr2 HG HG2
  go_wp2_with fail
  refine Calls.mono HC.out ?_
  rintro e w3 ⟨rfl, hI3⟩
  clear HC
  have C3 := number_any2 hdT hI3 hp2 4 4 rfl (by decide)
  cases hr3 : numR d 4 p2 with
  | error k =>
    have HC := Lib.hid (Outs.err C3 hr3)
    have HG := HG3.out
    unfold toldC at HG
    rw [hr3] at HG
    have HG4 := Lib.hid HG
    clear C3 hr3 HG HG3 hA hB
    go_wp2_with fail
    refine Calls.mono HC.out ?_
    rintro e w4 ⟨rfl, hF⟩
    have hF2 := hbackF _ hF
    go_wp2_with fail
    exact ⟨rfl, Outs.of_err HG4.out hF2⟩
  | ok x3 =>
  obtain ⟨nc, p3⟩ := x3
  obtain ⟨-, hp3, hnc⟩ := numR_le hr3
  have HC := Lib.hid (Outs.good C3 hr3)
  have HG := HG3.out
  unfold toldC at HG
  simp only [hr3] at HG
  have HG4 := Lib.hid HG
  clear C3 hr3 HG HG3
  go_wp2_with fail
  refine Calls.mono HC.out ?_
  rintro e w4 ⟨rfl, hI4⟩
  clear HC
  go_upto_region 5 with (refine wpList_store_row rfl 88 (.tmp 7) (.tmp 31) rfl w4.heap.size ordC rfl rfl _ _ (heap_alloc_last _ _ _ rfl) (by kernel_rfl) rfl (by kernel_rfl) ?_)
  have hg5 : Below w4.heap.size w4 ((w4.alloc (.cells (madeCells #[.int .i64 0] 19) 88)).setRow w4.heap.size ordC) := below_setRow ((Below.refl _ _).alloc (Nat.le_refl _) _) (Nat.le_refl _) ordC
  have hO5 : ((w4.alloc (.cells (madeCells #[.int .i64 0] 19) 88)).setRow w4.heap.size ordC).heap[w4.heap.size]? = some (.cells ordC 88 (0, 0)) := setRow_heap _ _ _ _ _ _ (heap_alloc_last _ _ _ rfl)
  have e5 : ((w4.alloc (.cells (madeCells #[.int .i64 0] 19) 88)).setRow w4.heap.size ordC) = ((w4.alloc (.cells #[.int .i64 0, .int .i64 0, .int .i64 0, .int .i64 0, .int .i64 0, .int .i64 0, .int .i64 0, .int .i64 0, .int .i64 0, .int .i64 0, .int .i64 0, .int .i64 0, .int .i64 0, .int .i64 0, .int .i64 0, .int .i64 0, .int .i64 0, .int .i64 0, .int .i64 0] 88)).setRow w4.heap.size ordC) := by
    have : madeCells #[Value.int .i64 0] 19 = #[.int .i64 0, .int .i64 0, .int .i64 0, .int .i64 0, .int .i64 0, .int .i64 0, .int .i64 0, .int .i64 0, .int .i64 0, .int .i64 0, .int .i64 0, .int .i64 0, .int .i64 0, .int .i64 0, .int .i64 0, .int .i64 0, .int .i64 0, .int .i64 0, .int .i64 0] := by kernel_rfl
    rw [this]
  rw [e5] at hg5 hO5
  clear e5
  generalize ((w4.alloc (.cells #[.int .i64 0, .int .i64 0, .int .i64 0, .int .i64 0, .int .i64 0, .int .i64 0, .int .i64 0, .int .i64 0, .int .i64 0, .int .i64 0, .int .i64 0, .int .i64 0, .int .i64 0, .int .i64 0, .int .i64 0, .int .i64 0, .int .i64 0, .int .i64 0, .int .i64 0] 88)).setRow w4.heap.size ordC) = w5 at *
  have hPO : P ≠ w4.heap.size := by
    obtain ⟨v, h⟩ := hI4
    have := lt_of_block h.blk
    omega
  have hI5 := hI4.later hg5
  generalize w4.heap.size = O at *
  obtain ⟨T2, hT12, hJ5, hTall2, hback2, hbackF2⟩ := hI5.hold
  have hTO : T2 O := hTall2 O ordC _ _ hO5 (by omega) (by decide)
  have hd5 := hdT.hold hI5.frame hT12
  have hA5 := (hI5.frame.keep A hTA).2.trans hA
  have hB5 := (hI5.frame.keep (A + 1) hTB).2.trans hB
  clear hI5 hI4 hg5 hTall2
  go_upto_region 6 with (at_make; refine wpList_make_row (S := T2) (w0 := w5) elemInt rfl rfl _ _ rfl .i64 .i64 19 19 19 rfl rfl rfl rfl (by decide) (by decide) hJ5.frame ?_; intro w6 hrow6 hgr6)
  have hg6 : Below w5.heap.size w5 w6 := ⟨hgr6.os, hgr6.tape, hgr6.output, hgr6.size, fun k hk => hgr6.block k hk (by simp)⟩
  have hJ6 := hJ5.later hg6
  have hrep : List.replicate 19 (Value.int .i64 0) = icells (List.replicate 19 0) := by simp [icells]
  rw [hrep] at hrow6
  clear hrep
  have hGn : w5.heap.size ≠ P := by obtain ⟨v, h⟩ := hJ5; have := lt_of_block h.blk; omega
  generalize w5.heap.size = G at *
  have ht4 : (nc : Int) + 4 = ((nc + 4 : Nat) : Int) := by omega
  obtain ⟨m, hm⟩ : ∃ m, m = nc + 4 := ⟨_, rfl⟩
  rw [← hm] at HG4 ht4
  have hm19 : m ≤ 19 := by omega
  rw [ht4]
  clear ht4 hm
  obtain ⟨X, hX⟩ : ∃ X, X = ownGo d m order19 p3 (List.replicate 19 0) := ⟨_, rfl⟩
  rw [← hX] at HG4
  have HX := Lib.hid hX
  clear hX
  have HSL := slice_order O m hm19
  go_wp2_with fail
  go_loopw [36] (fun i wr => ∃ (j q : Nat) (own : List Nat), i = .int .i64 (j : Int) ∧ j ≤ m ∧ q ≤ 8 * d.length ∧ own.length = 19 ∧ ownGo d (m - j) (order19.drop j) q own = X ∧ InfS T2 w5 wr P a cap d most q out ∧ Row T2 3 w5 wr (.slice (some ⟨G, 0, none⟩) 19 19) (icells own)) (fun i _ => m - (intOf i).toNat)
  case atStart => exact ⟨0, p3, _, rfl, by omega, hp3, by simp, HX.out.symm, hJ6, hrow6⟩
  case round =>
    clear hJ6 hrow6
    obtain ⟨j, q, own, rfl, hj, hq, hown, hgo, hJ, hrow⟩ := hrel
    by_cases hjm : j < m
    · have t1 : decide ((j : Int) < (m : Int)) = true := decide_eq_true (by omega)
      have t2 : decide (j < m) = true := decide_eq_true (by omega)
      rw [show m - j = (m - (j + 1)) + 1 from by omega, ownGo] at hgo
      have hOr : wr.heap[O]? = some (.cells ordC 88 (0, 0)) := (hJ.frame.keep O hTO).2.trans hO5
      obtain ⟨IK0, IC0⟩ := ints_at (order_cells hOr m) 19 (by rw [List.length_take]; show min m 19 ≤ _; omega) (j : Int) j rfl (by rw [List.length_take]; show j < min m 19; omega)
      have hlm : (order19.take m).length = m := by rw [List.length_take]; show min m 19 = m; omega
      rw [hlm] at IK0
      have hto : (order19.take m).getD j 0 = order19.getD j 0 := by
        rw [List.getD_eq_getElem?_getD, List.getD_eq_getElem?_getD, List.getElem?_take, if_pos hjm]
      rw [hto] at IC0
      rw [drop_getD, List.drop_drop] at hgo
      have hk19 := order_lt j (by omega)
      generalize order19.getD j 0 = k at *
      have hGP : G ≠ P := hGn
      obtain ⟨T3, hT23, hJ', hTall3, hback3, hbackF3⟩ := hJ.hold
      obtain ⟨CG, hCG⟩ := hrow.held G rfl
      have hT3G : T3 G := hTall3 G CG _ _ hCG hGP (by decide)
      have C1 := number_any2 (hd5.hold hJ.frame hT23) hJ' hq 3 3 rfl (by decide)
      cases hr : numR d 3 q with
      | error e =>
        have HC := Lib.hid (Outs.err C1 hr)
        rw [hr] at hgo
        have hG : R = .error e := by have h := HG4.out; rw [← hgo] at h; exact h
        have HG := Lib.hid hG
        clear C1 hr hgo hG HG4
        go_wp2_with fail
        refine Calls.mono HC.out ?_
        rintro e w9 ⟨rfl, hF⟩
        have hF2 := hbackF _ (hbackF2 _ (hbackF3 _ hF))
        go_wp2_with fail
        exact ⟨rfl, Outs.of_err HG.out hF2⟩
      | ok x =>
        obtain ⟨x, q2⟩ := x
        obtain ⟨-, hq2, hx⟩ := numR_le hr
        have HC := Lib.hid (Outs.good C1 hr)
        simp only [hr] at hgo
        have HGO := Lib.hid hgo
        clear C1 hr hgo
        go_wp2_with fail
        refine Calls.mono HC.out ?_
        rintro e w9 ⟨rfl, hJ9'⟩
        have hrow9 := hrow.moved hJ9'.frame (fun g hg => by injection hg with hg; exact hg ▸ hT3G) hT23
        have hJ9 := hback3 _ _ _ hJ9'
        obtain ⟨C9, hC9⟩ := hrow9.held G rfl
        have hGS : ¬ T2 G := hrow9.off G rfl
        obtain ⟨a9, c9, e9, hcells9, -⟩ := hrow9.slice
        have e19 : (19 : Nat) = own.length := hown.symm
        injection e9 with e9 e9a e9b
        subst e9
        clear e9a e9b
        obtain ⟨IK1, IC1⟩ := ints_at hcells9 19 (by omega) (k : Int) k rfl (by omega)
        rw [elt_own] at IK1 IC1
        rw [hown] at IK1
        have hf9 := hrow9.free k
        have hJ10 := hJ9.set_other hC9 (by decide) hGP hGS k (.int .i64 (x : Int))
        have hrow10 := (hrow9.stored k (.int .i64 (x : Int))).1
        have eset : (icells own).set k (.int .i64 (x : Int)) = icells (own.set k x) := by unfold icells; rw [List.map_set]
        rw [eset] at hrow10
        clear hC9 hCG hcells9 hrow9 hJ9 hJ9' hJ hrow hJ' hTall3 eset IK0 IC0 e19
        go_wp2_with fail
        go_roundw
        case rel => exact ⟨j + 1, q2, own.set k x, by go_num, by omega, hq2, by rw [List.length_set]; exact hown, HGO.out, hJ10, hrow10⟩
        case measure => simp [intOf]; omega
    · obtain rfl : j = m := by omega
      have t1 : decide ((j : Int) < (j : Int)) = false := decide_eq_false (by omega)
      rw [Nat.sub_self, ownGo] at hgo
      have HG := HG4.out
      rw [← hgo] at HG
      have HG5 := Lib.hid HG
      clear HG hgo HG4 HX HSL
      simp only at HG5
      obtain ⟨a9, c9, e9, hcells9, -⟩ := hrow.slice
      injection e9 with e9 e9a e9b
      subst e9
      clear e9a e9b
      have M1 := made_any wr (some ⟨G, 0, none⟩) 19 own false hcells9 (by omega)
      rw [hown] at M1
      have HM := Lib.hid M1
      have hF2 := hbackF _ (hbackF2 _ hJ.frame)
      clear M1 hcells9
      go_wp2_with fail
      refine Calls.mono HM.out ?_
      rintro e w9 ⟨hb9, (⟨hgd, C, rfl, hC⟩ | ⟨hgd, rfl⟩)⟩
      rotate_left
      · have HG6 := Lib.hid (show R = .error 4 by rw [HG5.out]; unfold toldD; rw [if_pos hgd])
        have hF3 := hF2.below hb9
        clear hgd HG5
        go_wp2_with fail
        exact ⟨rfl, Outs.of_err HG6.out hF3⟩
      have HG6 := Lib.hid (show R = match allGo d own (na + nb + 258) (na + nb + 259) q [] with
          | .error e => .error e
          | .ok (all, p5) => toldE na all p5 by rw [HG5.out]; unfold toldD; rw [if_neg (by rw [hgd]; decide)]; cases allGo d own (na + nb + 258) (na + nb + 259) q [] <;> rfl)
      have hCs := hC.size
      have hCo := code_one hC
      clear HG5 hgd
      go_upto_region 12 with (refine wpList_store_row rfl 61 (.tmp 11) (.tmp 49) rfl w9.heap.size C rfl rfl _ _ (heap_alloc_last _ _ _ rfl) (by rw [hCs]; kernel_rfl) (by rw [hCs]; rfl) hCo ?_)
      have hg10 : Below w9.heap.size w9 ((w9.alloc (.cells zeroC 61)).setRow w9.heap.size C) := below_setRow ((Below.refl _ _).alloc (Nat.le_refl _) _) (Nat.le_refl _) C
      have hQ10 : ((w9.alloc (.cells zeroC 61)).setRow w9.heap.size C).heap[w9.heap.size]? = some (.cells C 61 (0, 0)) := setRow_heap _ _ _ _ _ _ (heap_alloc_last _ _ _ rfl)
      generalize (w9.alloc (.cells zeroC 61)).setRow w9.heap.size C = w10 at *
      have hbt : Below wr.heap.size wr w10 := hb9.trans (hg10.mono hb9.size)
      obtain ⟨T3, hT23, hK0, -, hTnew, hback3, hbackF3⟩ := hJ.holdNew hbt
      have hTQ : T3 w9.heap.size := hTnew _ hb9.size (lt_of_block hQ10)
      have hcT : CodeIn T3 w10 own C := (hC.same fun k hk => hg10.block k hk.2).sub fun k hk => hTnew k hk.1 (Nat.lt_of_lt_of_le hk.2 hg10.size)
      have hd10 := hd5.hold (hJ.frame.below hbt) hT23
      have hA10 := ((hJ.frame.below hbt).keep A (hT12 A hTA)).2.trans hA5
      have hB10 := ((hJ.frame.below hbt).keep (A + 1) (hT12 _ hTB)).2.trans hB5
      have hTA3 := hT23 A (hT12 A hTA)
      have hTB3 := hT23 (A + 1) (hT12 (A + 1) hTB)
      have hbackA : ∀ w2 p2 o2, InfS T3 w10 w2 P a cap d most p2 o2 → InfS S w0 w2 P a cap d most p2 o2 := fun w2 p2 o2 h => hback _ _ _ (hback2 _ _ _ (hback3 _ _ _ h))
      have hbackFA : ∀ w2, FrameS T3 w10 w2 → FrameS S w0 w2 := fun w2 h => hbackF _ (hbackF2 _ (hbackF3 _ h))
      have hST3 : ∀ k, S k → T3 k := fun k hk => hT23 k (hT12 k (hST k hk))
      have hF10 := hK0.frame
      generalize w9.heap.size = Q at *
      clear hC hCo hF2 HM hg10 hbt hTnew hback3 hbackF3 hd5 hJ hrow hback hback2 hbackF hbackF2 hdT hA hB hA5 hB5 hO5 hb9 hgr6 hg6 hJ5 hTO hT12 hT23 hTA hTB hST hGn hPO
      obtain ⟨X, hX⟩ : ∃ X, X = allGo d own (na + nb + 258) (na + nb + 259) q [] := ⟨_, rfl⟩
      rw [← hX] at HG6
      obtain ⟨tot, htot⟩ : ∃ tot, tot = na + nb + 258 := ⟨_, rfl⟩
      have hX' : allGo d own tot (tot + 1) q [] = X := by rw [hX, htot]
      have HX2 := Lib.hid hX'
      clear hX hX'
      have HTOT := Lib.hid htot
      have htb : tot ≤ 1000 := by omega
      have e1 : (na : Int) + 257 + ((nb : Int) + 1) = (tot : Int) := by omega
      clear htot
      go_wp2_with fail
      go_loopw [12] (fun v wr => ∃ (f q : Nat) (all : List Nat), allGo d own tot f q all = X ∧ tot < all.length + f ∧ all.length ≤ tot ∧ q ≤ 8 * d.length ∧ Row T3 3 w10 wr v (icells all) ∧ InfS T3 w10 wr P a cap d most q out) (fun v _ => tot - lenV v)
      case atStart => exact ⟨tot + 1, q, [], HX2.out, by simp, by simp, hq, Row.nil hF10, hK0⟩
      case round =>
        clear hK0
        obtain ⟨f, q, all, hgo, hf, hall, hq, hrow, hK⟩ := hrel
        obtain ⟨av, kv, hv, hcv, -⟩ := hrow.slice
        rw [icells_length] at hv
        subst hv
        cases f with
        | zero => omega
        | succ f =>
        rw [allGo] at hgo
        by_cases hlt : all.length < tot
        · have t1 : decide ((all.length : Int) < (tot : Int)) = true := decide_eq_true (by omega)
          have t2 : decide ((all.length : Int) < (na : Int) + 257 + ((nb : Int) + 1)) = true := decide_eq_true (by omega)
          rw [if_neg (by omega)] at hgo
          have HGO := Lib.hid hgo
          clear hgo
          have hQr : wr.heap[Q]? = some (.cells C 61 (0, 0)) := (hK.frame.keep Q hTQ).2.trans hQ10
          obtain ⟨T4, hT34, hK4, hTall4, hback4, hbackF4⟩ := hK.hold
          have hrT : ∀ g, (Value.slice av all.length kv).ownBlock = some g → T4 g := fun g hg => by
            obtain ⟨CG, hCG⟩ := hrow.held g hg
            refine hTall4 g CG _ _ hCG (fun e => ?_) (by decide)
            obtain ⟨v9, h9⟩ := hK
            rw [e, h9.blk] at hCG
            injection hCG with hCG
            injection hCG with _ hCG
            exact absurd hCG (by decide)
          have hd4 := hd10.hold hK.frame hT34
          have hc4 := (hcT.frame hK.frame).sub hT34
          have HC := Lib.hid (fun (w2 : World) (hI2 : InfS T4 wr w2 P a cap d most q out) => sign_any2 hd4 hI2 hq hc4)
          have hbF := fun w2 h => hbackFA _ (hbackF4 w2 h)
          go_wp2_with fail
          refine MixP.wp_region_mix (D := []) (E := fun c w' => ∃ n, R = .error n ∧ c = thrown n ∧ FrameS S w0 w') [(0, 3), (1, 3), (2, 3), (3, 0), (4, 2), (5, 3)] (by kernel_rfl) ?hE (by kernel_rfl) ?_
          case hE =>
            rintro c a' w' hD ⟨n, hq, rfl, hF⟩
            obtain ⟨at1, at2⟩ := a'
            obtain rfl : at2 = [] := hD
            exact ⟨rfl, Outs.of_err hq hF⟩
          iterate 3 (refine MixP.mix_pure rfl (fun K hK => ?_); go_simp; (refine hK _ ?_; clear hK K))
          refine MixP.mix_load_row rfl rfl 61 (.tmp 11) rfl Q rfl _ C _ _ hQr Try.underlying61 rfl (by rw [hCs]; kernel_rfl) ?_
          refine MixP.mix_sync rfl rfl (fun w8 hw8 KK hKK => ?_)
          have h8 := hK4.later hw8
          go_wp2_with fail
          refine Calls.mono (HC.out _ h8) ?_
          intro e w2 hO
          cases hr : signR d own q with
          | error k =>
            have HG := HGO.out
            rw [hr] at hO HG
            obtain ⟨rfl, hF⟩ := hO
            have hF2 := hbF _ hF
            have HG7 : R = .error k := by have h := HG6.out; rw [← HG] at h; exact h
            have HG8 := Lib.hid HG7
            clear HG HG7
            go_wp2_with fail
            exact ⟨rfl, k, HG8.out, rfl, hF2⟩
          | ok x =>
            obtain ⟨x, q1⟩ := x
            rw [hr] at hO
            obtain ⟨rfl, hI2⟩ := hO
            obtain ⟨hq1, hq1', hx⟩ := signR_le hr
            have HG := HGO.out
            simp only [hr] at HG
            have HG7 := Lib.hid HG
            have hrow2 := hrow.moved hI2.frame hrT hT34
            have hK2 := hback4 _ _ _ hI2
            clear HG HGO hr HC h8 hw8 hQr hI2 hK4 hTall4 hback4 hbackF4 hd4 hc4 hbF hrow hK hrT
            have hx1000 : x ≤ 19 := by omega
            go_wp2_with fail
            iterate 1 (refine MixP.mix_pure rfl (fun K hK => ?_); go_simp; (refine hK _ ?_; clear hK K))
            refine MixP.mix_nil fun w3 hw3 => ?_
            have hrow3 := hrow2.later hw3
            have hK3 := hK2.later hw3
            clear hrow2 hK2 hw3
            go_upto_block 4 with (fail)
            go_cut [13, 14, 15] from 56 to 93 (fun s13 s14 s15 wc => ∃ (n q2 what : Nat), s13 = .int .i64 (x : Int) ∧ s14 = .int .i64 (what : Int) ∧ s15 = .int .i64 (n : Int) ∧ 1 ≤ n ∧ n ≤ 200 ∧ q2 ≤ 8 * d.length ∧
              (if tot < all.length + n then .error 4 else allGo d own tot f q2 (all ++ List.replicate n what)) = X ∧ Row T3 3 w10 wc (.slice av all.length kv) (icells all) ∧ InfS T3 w10 wc P a cap d most q2 out)
            case first =>
              by_cases h16 : x = 16
              · have u1 : ((x : Int) == 16) = true := by rw [beq_iff_eq]; omega
                have HG8 := Lib.hid ((if_pos h16).symm.trans HG7.out)
                clear HG7
                by_cases h0 : all.length = 0
                · have u2 : ((all.length : Int) == 0) = true := by rw [beq_iff_eq]; omega
                  have HG9 := Lib.hid ((if_pos h0).symm.trans HG8.out)
                  have HGE := Lib.hid (show R = .error 4 by have h := HG6.out; rw [← HG9.out] at h; exact h)
                  have hF2 := hbackFA _ hK3.frame
                  clear HG8 HG9 h0
                  generalize all.length = ln at *
                  go_wp2_with fail
                  refine (fail_any 4 _ _ rfl).mono ?_
                  rintro e w' ⟨rfl, rfl⟩
                  go_wp2_with fail
                  exact ⟨rfl, Outs.of_err HGE.out hF2⟩
                · have u2 : ((all.length : Int) == 0) = false := by rw [beq_eq_false_iff_ne]; omega
                  have HG9 := Lib.hid ((if_neg h0).symm.trans HG8.out)
                  clear HG8
                  obtain ⟨T5, hT35, hK5, hTall5, hback5, hbackF5⟩ := hK3.hold
                  have hrT : ∀ g, (Value.slice av all.length kv).ownBlock = some g → T5 g := fun g hg => by
                    obtain ⟨CG, hCG⟩ := hrow3.held g hg
                    refine hTall5 g CG _ _ hCG (fun e => ?_) (by decide)
                    obtain ⟨v9, h9⟩ := hK3
                    rw [e, h9.blk] at hCG
                    injection hCG with hCG
                    injection hCG with _ hCG
                    exact absurd hCG (by decide)
                  have hd5 := hd10.hold hK3.frame hT35
                  have hla : all.length ≤ 1000 := by omega
                  obtain ⟨IK, -⟩ := ints_at (w := w3) (a := av) (l := all) (by obtain ⟨a', c', e1, hc, -⟩ := hrow3.slice; injection e1 with e1; subst e1; exact hc) kv (by omega) ((all.length : Int) - 1) (all.length - 1) (by omega) (by omega)
                  have hel : ∀ y : MixT.Later T5 w3, y.1.cell? (elt av (all.length - 1)) = some (.int .i64 (all.getD (all.length - 1) 0 : Nat)) := fun y => by
                    have hr := hrow3.moved (FrameS.of_grow y.2 hK5.frame) hrT hT35
                    obtain ⟨a', c', e1, hc, -⟩ := hr.slice
                    injection e1 with e1
                    subst e1
                    exact (ints_at hc kv (by omega) ((all.length : Int) - 1) (all.length - 1) (by omega) (by omega)).2
                  have HCN := Lib.hid (fun (w2 : World) (hI2 : InfS T5 w3 w2 P a cap d most q1 out) => number_any2 (hd5.hold hI2.frame (fun _ h => h)) hI2.self hq1' 2 2 rfl (by decide))
                  generalize hxl : all.getD (all.length - 1) 0 = xl at *
                  obtain ⟨ln, hln⟩ : ∃ ln, ln = all.length := ⟨_, rfl⟩
                  have HLN := Lib.hid hln
                  have HRT := Lib.hid hrT
                  clear hrT
                  rw [← hln] at IK u2 hla
                  rw [← hln] at hel
                  rw [← hln]
                  have w1' : IntKind.i64.wrap ((ln : Int) - 1) = (ln : Int) - 1 := IntWalk.i64_in _ (by omega)
                  clear hln
                  go_wp2_with fail
                  refine MixT.wp_region_mix (N := T5) (D := []) (E := fun c w' => ∃ n, R = .error n ∧ c = thrown n ∧ FrameS S w0 w') [(0, 0), (1, 0), (2, 0), (3, 0), (4, 0), (5, 0), (6, 0), (7, 0), (8, 0), (9, 1), (10, 0), (11, 0), (12, 0)] (by kernel_rfl) ?hE4 (by kernel_rfl) ?_
                  case hE4 =>
                    rintro c a' w' hD ⟨n, hq, rfl, hF⟩
                    obtain ⟨at1, at2⟩ := a'
                    obtain rfl : at2 = [] := hD
                    exact ⟨rfl, Outs.of_err hq hF⟩
                  iterate 9 (refine MixT.mix_calm rfl (fun K hK => ?_); go_simp; (refine hK _ ?_; clear hK K))
                  refine MixT.mix_loud rfl rfl (fun w8 hw8 KK hKK => ?_)
                  have h8 := hK5.later hw8
                  clear hel IK w1'
                  go_wp2_with fail
                  refine Calls.mono (HCN.out _ h8) ?_
                  intro e w4 hO
                  cases hr : numR d 2 q1 with
                  | error k =>
                    have HG := HG9.out
                    rw [hr] at hO HG
                    obtain ⟨rfl, hF⟩ := hO
                    have hF2 := hbackFA _ (hbackF5 _ (h8.frame.trans hF))
                    have HGE := Lib.hid (show R = .error k by have h := HG6.out; rw [← HG] at h; exact h)
                    clear HG
                    go_wp2_with fail
                    exact ⟨rfl, k, HGE.out, rfl, hF2⟩
                  | ok y =>
                    obtain ⟨y, q2⟩ := y
                    rw [hr] at hO
                    obtain ⟨rfl, hI4⟩ := hO
                    obtain ⟨-, hq2, hy⟩ := numR_le hr
                    have HG := HG9.out
                    simp only [hr] at HG
                    have HGN := Lib.hid HG
                    clear HG HG9 hr HCN
                    go_wp2_with fail
                    refine hKK _ _ hI4.frame.grow ?_
                    clear hKK KK
                    have eln := HLN.out
                    subst eln
                    have hy4 : y < 4 := hy
                    have w9' : IntKind.i64.wrap (3 + (y : Int)) = 3 + (y : Int) := IntWalk.i64_in _ (by omega)
                    iterate 3 (refine MixT.mix_calm rfl (fun K hK => ?_); go_simp; (refine hK _ ?_; clear hK K))
                    refine MixT.mix_nil fun w6 hw6 => ?_
                    have hrow6 := (hrow3.moved (h8.frame.trans hI4.frame) HRT.out hT35).later hw6
                    have hK6 := (hback5 _ _ _ (hI4.base h8.frame)).later hw6
                    go_wp2_with fail
                    go_meet
                    exact ⟨3 + y, q2, xl, by first | rfl | trivial | (simp; omega), by first | rfl | trivial | simp, by first | go_num | trivial | simp, by omega, by omega, hq2, HGN.out, hrow6, hK6⟩
              · have u1 : ((x : Int) == 16) = false := by rw [beq_eq_false_iff_ne]; omega
                have HG8 := Lib.hid ((if_neg h16).symm.trans HG7.out)
                clear HG7
                by_cases h17 : x = 17
                · have u2 : ((x : Int) == 17) = true := by rw [beq_iff_eq]; omega
                  have HG9 := Lib.hid ((if_pos h17).symm.trans HG8.out)
                  clear HG8
                  have t9 := HG9
                  obtain ⟨T5, hT35, hK5, hTall5, hback5, hbackF5⟩ := hK3.hold
                  have hrT : ∀ g, (Value.slice av all.length kv).ownBlock = some g → T5 g := fun g hg => by
                    obtain ⟨CG, hCG⟩ := hrow3.held g hg
                    refine hTall5 g CG _ _ hCG (fun e => ?_) (by decide)
                    obtain ⟨v9, h9⟩ := hK3
                    rw [e, h9.blk] at hCG
                    injection hCG with hCG
                    injection hCG with _ hCG
                    exact absurd hCG (by decide)
                  have C1 := number_any2 (hd10.hold hK3.frame hT35) hK5 hq1' 3 3 rfl (by decide)
                  cases hr : numR d 3 q1 with
                  | error k =>
                    have HC := Lib.hid (Outs.err C1 hr)
                    have HG := t9.out
                    rw [hr] at HG
                    have HGE := Lib.hid (show R = .error k by have h := HG6.out; rw [← HG] at h; exact h)
                    clear C1 hr HG t9 hrT
                    go_wp2_with fail
                    refine Calls.mono HC.out ?_
                    rintro e w4 ⟨rfl, hF⟩
                    have hF2 := hbackFA _ (hbackF5 _ hF)
                    go_wp2_with fail
                    exact ⟨rfl, Outs.of_err HGE.out hF2⟩
                  | ok y =>
                    obtain ⟨y, q2⟩ := y
                    have HC := Lib.hid (Outs.good C1 hr)
                    obtain ⟨-, hq2, hy⟩ := numR_le hr
                    have HG := t9.out
                    simp only [hr] at HG
                    have HGN := Lib.hid HG
                    clear C1 hr HG t9
                    go_wp2_with fail
                    refine Calls.mono HC.out ?_
                    rintro e w4 ⟨rfl, hI4⟩
                    have hrow4 := hrow3.moved hI4.frame hrT hT35
                    have hK4 := hback5 _ _ _ hI4
                    have hy2 : y ≤ 128 := by omega
                    clear hrT hI4 hrow3 hK3 hK5 hTall5 hback5 hbackF5
                    go_wp2_with fail
                    go_meet
                    exact ⟨3 + y, q2, 0, by first | rfl | trivial | (simp; omega), by first | rfl | trivial | simp, by first | go_num | trivial | simp, by omega, by omega, hq2, HGN.out, hrow4, hK4⟩
                · have u2 : ((x : Int) == 17) = false := by rw [beq_eq_false_iff_ne]; omega
                  have HG9 := Lib.hid ((if_neg h17).symm.trans HG8.out)
                  clear HG8
                  by_cases h18 : x = 18
                  · have u3 : ((x : Int) == 18) = true := by rw [beq_iff_eq]; omega
                    have HG10 := Lib.hid ((if_pos h18).symm.trans HG9.out)
                    clear HG9
                    have t9 := HG10
                    obtain ⟨T5, hT35, hK5, hTall5, hback5, hbackF5⟩ := hK3.hold
                    have hrT : ∀ g, (Value.slice av all.length kv).ownBlock = some g → T5 g := fun g hg => by
                      obtain ⟨CG, hCG⟩ := hrow3.held g hg
                      refine hTall5 g CG _ _ hCG (fun e => ?_) (by decide)
                      obtain ⟨v9, h9⟩ := hK3
                      rw [e, h9.blk] at hCG
                      injection hCG with hCG
                      injection hCG with _ hCG
                      exact absurd hCG (by decide)
                    have C1 := number_any2 (hd10.hold hK3.frame hT35) hK5 hq1' 7 7 rfl (by decide)
                    cases hr : numR d 7 q1 with
                    | error k =>
                      have HC := Lib.hid (Outs.err C1 hr)
                      have HG := t9.out
                      rw [hr] at HG
                      have HGE := Lib.hid (show R = .error k by have h := HG6.out; rw [← HG] at h; exact h)
                      clear C1 hr HG t9 hrT
                      go_wp2_with fail
                      refine Calls.mono HC.out ?_
                      rintro e w4 ⟨rfl, hF⟩
                      have hF2 := hbackFA _ (hbackF5 _ hF)
                      go_wp2_with fail
                      exact ⟨rfl, Outs.of_err HGE.out hF2⟩
                    | ok y =>
                      obtain ⟨y, q2⟩ := y
                      have HC := Lib.hid (Outs.good C1 hr)
                      obtain ⟨-, hq2, hy⟩ := numR_le hr
                      have HG := t9.out
                      simp only [hr] at HG
                      have HGN := Lib.hid HG
                      clear C1 hr HG t9
                      go_wp2_with fail
                      refine Calls.mono HC.out ?_
                      rintro e w4 ⟨rfl, hI4⟩
                      have hrow4 := hrow3.moved hI4.frame hrT hT35
                      have hK4 := hback5 _ _ _ hI4
                      have hy2 : y ≤ 128 := by omega
                      clear hrT hI4 hrow3 hK3 hK5 hTall5 hback5 hbackF5
                      go_wp2_with fail
                      go_meet
                      exact ⟨11 + y, q2, 0, by first | rfl | trivial | (simp; omega), by first | rfl | trivial | simp, by first | go_num | trivial | simp, by omega, by omega, hq2, HGN.out, hrow4, hK4⟩
                  · have u3 : ((x : Int) == 18) = false := by rw [beq_eq_false_iff_ne]; omega
                    have HG10 := Lib.hid ((if_neg h18).symm.trans HG9.out)
                    clear HG9
                    go_wp2_with fail
                    go_meet
                    exact ⟨1, q1, x, by first | rfl | trivial | (simp; omega), by first | rfl | trivial | simp, by first | rfl | trivial | simp, by omega, by omega, hq1', by rw [if_neg (by omega)]; exact HG10.out, hrow3, hK3⟩
            case rest =>
              obtain ⟨n, q2, what, rfl, rfl, rfl, hn1, hn200, hq2, hstep, hrow4, hK4⟩ := hcut
              have HST := Lib.hid hstep
              clear hstep hrow3 hK3 HG7
              have hal : all.length ≤ 1000 := by omega
              go_wp2_with fail
              go_loopw [12, 95] (fun v i wx => ∃ k : Nat, i = .int .i64 (k : Int) ∧ k ≤ n ∧ Row T3 3 w10 wx v (icells (all ++ List.replicate k what)) ∧ InfS T3 w10 wx P a cap d most q2 out) (fun _ i _ => n - (intOf i).toNat)
              case atStart => exact ⟨0, rfl, by omega, by simpa using hrow4, hK4⟩
              case round =>
                clear hrow4 hK4
                obtain ⟨k, rfl, hk, hrow4, hK4⟩ := hrel
                have hlen : (icells (all ++ List.replicate k what)).length = all.length + k := by rw [icells_length]; simp
                by_cases hkn : k < n
                · have t1 : decide ((k : Int) < (n : Int)) = true := decide_eq_true (by omega)
                  have hnext : icells (all ++ List.replicate (k + 1) what) = icells (all ++ List.replicate k what) ++ [.int .i64 (what : Int)] := by
                    rw [List.replicate_succ', ← List.append_assoc]; simp [icells]
                  have HN := Lib.hid hnext
                  have HL := Lib.hid hlen
                  clear hnext hlen
                  go_wp2_with (at_builtin; refine wpList_append_fresh elemInt rfl (.tmp 97) (.tmp 99) rfl _ _ rfl hrow4 _ [.int .i64 (what : Int)] rfl 1 1 rfl rfl (by simp [Value.oneCell']) (by rw [HL.out]; simp only [List.length_singleton]; omega) (by rw [HL.out]; simp only [List.length_singleton]; omega) ?_; intro v5 w5 hrow5 hgr5; have hK5 := hK4.grown hrow4 hgr5)
                  go_roundw
                  case rel => exact ⟨k + 1, by go_num, by omega, by rw [HN.out]; exact hrow5, hK5⟩
                  case measure => simp [intOf]; omega
                · obtain rfl : k = n := by omega
                  have t1 : decide ((k : Int) < (k : Int)) = false := decide_eq_false (by omega)
                  obtain ⟨av5, kv5, hv5, -⟩ := hrow4.slice
                  rw [hlen] at hv5
                  obtain ⟨ln, hln⟩ : ∃ ln, ln = all.length + k := ⟨_, rfl⟩
                  rw [← hln] at hv5
                  subst hv5
                  by_cases hover : tot < ln
                  · have t2 : decide ((tot : Int) < (ln : Int)) = true := decide_eq_true (by omega)
                    have HG8 := Lib.hid (show R = .error 4 by have h := HG6.out; rw [← HST.out, if_pos (by omega)] at h; exact h)
                    have hF2 := hbackFA _ hK4.frame
                    clear hlen hln
                    go_wp2_with fail
                    refine (fail_any 4 _ _ rfl).mono ?_
                    rintro e w' ⟨rfl, rfl⟩
                    go_wp2_with fail
                    exact ⟨rfl, Outs.of_err HG8.out hF2⟩
                  · have t2 : decide ((tot : Int) < (ln : Int)) = false := decide_eq_false (by omega)
                    have HG8 := Lib.hid ((if_neg (by omega)).symm.trans HST.out)
                    have HLN := Lib.hid hln
                    clear hlen hln
                    go_wp2_with fail
                    have hlen9 : (all ++ List.replicate k what).length = ln := by rw [HLN.out]; simp
                    exact ⟨⟨f, q2, all ++ List.replicate k what, HG8.out, by rw [hlen9, HLN.out]; omega, by rw [hlen9]; omega, hq2, hrow4, hK4⟩, by show tot - ln < tot - all.length; rw [HLN.out]; have := HLN.out; omega⟩
        · have hle : all.length = tot := by omega
          have t1 : decide ((all.length : Int) < (tot : Int)) = false := decide_eq_false (by omega)
          have t2 : decide ((all.length : Int) < (na : Int) + 257 + ((nb : Int) + 1)) = false := decide_eq_false (by omega)
          rw [if_pos (by omega)] at hgo
          have HGE := Lib.hid (show R = toldE na all q by have h := HG6.out; rw [← hgo] at h; exact h)
          clear hgo HG6
          have h256 : 256 < all.length := by have := HTOT.out; omega
          have hla : all.length ≤ 1000 := by omega
          obtain ⟨IK, IC⟩ := ints_at hcv kv (by omega) 256 256 rfl h256
          obtain ⟨x, hx⟩ : ∃ x, x = all.getD 256 0 := ⟨_, rfl⟩
          rw [← hx] at IC
          have hF2 := hbackFA _ hK.frame
          by_cases hx0 : x = 0
          · have t3 : ((x : Int) == 0) = true := by rw [beq_iff_eq]; omega
            have HG9 := Lib.hid (show R = .error 4 by rw [HGE.out]; unfold toldE; rw [if_pos (.inl (hx ▸ hx0))])
            have hle' := Lib.hid hle
            clear hx hx0 hcv hle
            generalize all.length = ln at *
            go_wp2_with fail
            refine (fail_any 4 _ _ rfl).mono ?_
            rintro e w' ⟨rfl, rfl⟩
            go_wp2_with fail
            exact ⟨rfl, Outs.of_err HG9.out hF2⟩
          · have t3 : ((x : Int) == 0) = false := by rw [beq_eq_false_iff_ne]; omega
            have HX0 := Lib.hid (show ¬ all.getD 256 0 = 0 from hx ▸ hx0)
            clear hx hx0
            obtain ⟨ln, hln⟩ : ∃ ln, ln = all.length := ⟨_, rfl⟩
            rw [← hln] at IK t1 t2 hla h256 hle ⊢
            have HLN := Lib.hid hln
            have HLE := Lib.hid hle
            have t5 : decide (ln < tot) = false := decide_eq_false (by omega)
            clear hln hle
            go_wp2_with fail
            obtain ⟨a8, c8, e8, -, hkv, -, hnn⟩ := hrow.slice
            injection e8 with e8 e8a e8b
            subst e8 e8b
            rw [icells_length] at hkv
            have hln := HLN.out
            have hle := HLE.out
            have htot := HTOT.out
            have S1 : ∀ w : World, (Instr.slice 37 (.slice av ln kv) none (some (.int .i64 ((na : Int) + 257))) none).run Try.prog w = .ok (.slice av (na + 257) kv) w := fun w => by
              have h := run_slice_to (P := Try.prog) 37 Try.underlying37 av ln kv (na + 257) (by omega) hnn sizeOf_int w
              rw [show ((na + 257 : Nat) : Int) = (na : Int) + 257 by omega] at h
              exact h
            have S2 : ∀ w : World, (Instr.slice 37 (.slice av ln kv) (some (.int .i64 ((na : Int) + 257))) none none).run Try.prog w = .ok (.slice (subAt av kv (na + 257)) (ln - (na + 257)) (kv - (na + 257))) w := fun w => by
              have h := run_slice_from (P := Try.prog) 37 Try.underlying37 sizeOf_int av ln kv (na + 257) (by omega) w
              rw [show ((na + 257 : Nat) : Int) = (na : Int) + 257 by omega] at h
              exact h
            have hl1 : (all.take (na + 257)).length = na + 257 := by rw [List.length_take]; omega
            have hl2 : (all.drop (na + 257)).length = ln - (na + 257) := by rw [List.length_drop]; omega
            have M1 := fun (x : World) (hx : Below wr.heap.size wr x) => made_any x av kv (all.take (na + 257)) false ((hcv.takeI _).below hx) (by omega)
            have M2 := fun (x : World) (hx : Below wr.heap.size wr x) => made_any x (subAt av kv (na + 257)) (kv - (na + 257)) (all.drop (na + 257)) true ((hcv.dropI kv _ (by omega)).below hx) (by omega)
            rw [hl1] at M1
            rw [hl2] at M2
            have HM1 := Lib.hid M1
            have HM2 := Lib.hid M2
            have HNE := Lib.hid (show R = if good (all.take (na + 257)) false = false ∨ good (all.drop (na + 257)) true = false then .error 4 else .ok (all.take (na + 257), all.drop (na + 257), q) by
              rw [HGE.out]; unfold toldE
              by_cases hg : good (all.take (na + 257)) false = false ∨ good (all.drop (na + 257)) true = false
              · rw [if_pos (.inr hg), if_pos hg]
              · rw [if_neg (fun h => h.elim HX0.out hg), if_neg hg])
            clear M1 M2 hl1 hl2 hln hle htot HGE IC t3
            refine MixP.wp_region_mix (D := []) (E := fun c w' => ∃ n, R = .error n ∧ c = thrown n ∧ FrameS S w0 w') [(0, 0), (1, 0), (2, 0), (4, 0), (5, 0), (6, 0), (3, 1), (7, 1), (8, 2), (9, 2)] (by kernel_rfl) ?hE5 (by kernel_rfl) ?_
            case hE5 =>
              rintro c a' w' hD ⟨n, hq, rfl, hF⟩
              obtain ⟨at1, at2⟩ := a'
              obtain rfl : at2 = [] := hD
              exact ⟨rfl, Outs.of_err hq hF⟩
            iterate 6 (refine MixP.mix_calm rfl (fun K hK => ?_); go_simp; (refine hK _ ?_; clear hK K))
            refine MixP.mix_loud rfl rfl (fun w8 hw8 KK hKK => ?_)
            go_wp2_with fail
            refine Calls.mono (HM1.out _ hw8) ?_
            rintro e w9 ⟨hb9, (⟨hgd1, C1, rfl, hC1⟩ | ⟨hgd1, rfl⟩)⟩
            rotate_left
            · have HG9 := Lib.hid (show R = .error 4 by rw [HNE.out, if_pos (.inl hgd1)])
              have hF3 := hbackFA _ ((hK.frame.below hw8).below hb9)
              clear hgd1 HNE
              go_wp2_with fail
              exact ⟨rfl, 4, HG9.out, rfl, hF3⟩
            have HGD1 := Lib.hid hgd1
            clear hgd1
            go_wp2_with fail
            refine hKK _ _ hb9 ?_
            clear hKK KK
            have hw8' : Below wr.heap.size wr w8 := hw8
            have hb19 : Below wr.heap.size wr w9 := hw8'.trans (hb9.mono hw8'.size)
            refine MixP.mix_loud rfl rfl (fun w11 hw11 KK hKK => ?_)
            have hw11' : Below w9.heap.size w9 w11 := hw11
            have hb20 : Below wr.heap.size wr w11 := hb19.trans (hw11'.mono hb19.size)
            go_wp2_with fail
            refine Calls.mono (HM2.out _ hb20) ?_
            rintro e w12 ⟨hb12, (⟨hgd2, C2, rfl, hC2⟩ | ⟨hgd2, rfl⟩)⟩
            rotate_left
            · have HG9 := Lib.hid (show R = .error 4 by rw [HNE.out, if_pos (.inr hgd2)])
              have hF3 := hbackFA _ ((hK.frame.below hb20).below hb12)
              clear hgd2 HNE
              go_wp2_with fail
              exact ⟨rfl, 4, HG9.out, rfl, hF3⟩
            have HOK := Lib.hid (show R = .ok (all.take (na + 257), all.drop (na + 257), q) by rw [HNE.out, if_neg (fun h => h.elim (fun h => by rw [HGD1.out] at h; cases h) (fun h => by rw [hgd2] at h; cases h))])
            clear hgd2 HGD1 HNE HM1 HM2
            go_wp2_with fail
            refine hKK _ _ hb12 ?_
            clear hKK KK
            have hb21 : Below wr.heap.size wr w12 := hb20.trans (hb12.mono hb20.size)
            have hC1' : CodeIn (fun k => w8.heap.size ≤ k ∧ k < w9.heap.size) w12 (all.take (na + 257)) C1 := (hC1.same fun k hk => hw11'.block k hk.2).same fun k hk => hb12.block k (Nat.lt_of_lt_of_le hk.2 hw11'.size)
            have hC1s := hC1.size
            have hC2s := hC2.size
            have hC1o := code_one hC1
            have hC2o := code_one hC2
            refine MixP.mix_sync rfl rfl (fun w13 hw13 KK hKK => ?_)
            have hw13' : Below w12.heap.size w12 w13 := hw13
            have hb22 : Below wr.heap.size wr w13 := hb21.trans (hw13'.mono hb21.size)
            have hA13 := (hK.later hb22).frame.keep A hTA3 |>.2.trans hA10
            have hB13 := (hK.later hb22).frame.keep (A + 1) hTB3 |>.2.trans hB10
            refine wpList_store_row rfl 61 (.tmp 2) (.tmp 117) rfl A C1 rfl rfl _ _ hA13 (by rw [hC1s]; kernel_rfl) (by rw [hC1s]; rfl) hC1o ?_
            go_wp2_with fail
            have hA14 := setRow_heap w13 A _ C1 _ _ hA13
            have hB14 := (heap_setRow_other w13 A (A + 1) C1 (by omega)).trans hB13
            refine MixP.mix_sync rfl rfl (fun w15 hw15 KK hKK => ?_)
            have hw15' : Below (w13.setRow A C1).heap.size (w13.setRow A C1) w15 := hw15
            have hB15 := (hw15'.block (A + 1) (lt_of_block hB14)).trans hB14
            have hA15 := (hw15'.block A (lt_of_block hA14)).trans hA14
            refine wpList_store_row rfl 61 (.tmp 3) (.tmp 121) rfl (A + 1) C2 rfl rfl _ _ hB15 (by rw [hC2s]; kernel_rfl) (by rw [hC2s]; rfl) hC2o ?_
            go_wp2_with fail
            have hA16 := (heap_setRow_other w15 (A + 1) A C2 (by omega)).trans hA15
            have hB16 := setRow_heap w15 (A + 1) _ C2 _ _ hB15
            refine MixP.mix_nil fun w17 hw17 => ?_
            have hw17' : Below (w15.setRow (A + 1) C2).heap.size (w15.setRow (A + 1) C2) w17 := hw17
            have hA17 := (hw17'.block A (lt_of_block hA16)).trans hA16
            have hB17 := (hw17'.block (A + 1) (lt_of_block hB16)).trans hB16
            have hKS : InfS S w0 w13 P a cap d most q out := hbackA _ _ _ (hK.later hb22)
            obtain ⟨vo, hKo⟩ := hK
            obtain ⟨vq, hKq⟩ := hKS
            obtain rfl : vq = vo := by
              have e1 := hKq.blk
              rw [(hb22.block P (lt_of_block hKo.blk)).trans hKo.blk] at e1
              injection e1 with e1
              injection e1 with e1 _ _
              simpa using e1.symm
            have hSA1 : ¬ S A := fun h => by have := hSA _ h; omega
            have hSA2 : ¬ S (A + 1) := fun h => by have := hSA _ h; omega
            have hK14 := hKq.setRow_other hA13 (by decide) (by omega) hSA1 C1
            have hK16 := (hK14.later hw15').setRow_other hB15 (by decide) (by omega) hSA2 C2
            have hK17 := hK16.later hw17'
            have hs13 := hw13'.size
            have hs15 := hw15'.size
            have hs17 := hw17'.size
            rw [size_setRow] at hs15 hs17
            have hsame : ∀ k, wr.heap.size ≤ k → k < w12.heap.size → w17.heap[k]? = w12.heap[k]? := fun k hk1 hk2 => by
              have hAk := lt_of_block hB10
              have hFs := hKo.row.frame.size
              rw [hw17'.block k (by rw [size_setRow]; omega), heap_setRow_other _ _ _ _ (by omega), hw15'.block k (by rw [size_setRow]; omega), heap_setRow_other _ _ _ _ (by omega), hw13'.block k hk2]
            have hC17 := hC1'.same (w' := w17) fun k hk => hsame k (Nat.le_trans hw8'.size hk.1) (Nat.lt_of_lt_of_le hk.2 (Nat.le_trans hw11'.size hb12.size))
            have hD17 := hC2.same (w' := w17) fun k hk => hsame k (Nat.le_trans hb20.size hk.1) hk.2
            have hred := ready_of hK17 (lt_of_block hKo.blk) (fun g hg => hKo.row.lt g hg)
              (hC17.sub fun k hk => ⟨Nat.le_trans hw8'.size hk.1, by have := hk.2; have := hw11'.size; have := hb12.size; omega⟩)
              (hD17.sub fun k hk => ⟨Nat.le_trans hb20.size hk.1, by have := hk.2; omega⟩)
            go_wp2_with fail
            refine bodyPost_ret (results_codes rfl _ _ A (A + 1) _ _ C1 C2 _ _ rfl rfl hA17 hB17 hC1s hC2s) rfl ?_
            exact Outs.of_ok HOK.out ⟨C1, C2, rfl, hred⟩

end
end Go.Proofs.Ytaapnjhkflpiiaa
