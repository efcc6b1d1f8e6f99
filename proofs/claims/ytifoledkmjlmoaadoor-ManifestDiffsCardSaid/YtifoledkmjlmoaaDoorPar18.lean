/-
  manifest.Parse's closure: the next file of a text: the walk.
  A manifest's files out of a text: plain.
  manifest.Parse: the walk.
-/
import Derived.Test.YtifoledkmjlmoaaDoorCmp18
import Derived.Test.YtifoledkmjlmoaaDoorStrCut
import Derived.Test.YtifoledkmjlmoaaDoorSha18
import Derived.Test.YtifoledkmjlmoaaDoorBox
import Derived.Test.YtifoledkmjlmoaaDoorRes
import Derived.Test.YtifoledkmjlmoaaDoorRightM
namespace Go.Proofs.YtifoledkmjlmoaaDoor
open Go.RowKit Go.Mix Go.WideMaps

def cutOk (l : List UInt8) (c : UInt8) : Bool := decide (0 ≤ Lib.indexByte l c)
def cutA (l : List UInt8) (c : UInt8) : List UInt8 := if cutOk l c then l.take (Lib.indexByte l c).toNat else l
def cutB (l : List UInt8) (c : UInt8) : List UInt8 := if cutOk l c then l.drop ((Lib.indexByte l c).toNat + 1) else []
theorem cutV_eq (l : List UInt8) (c : UInt8) : cutV l c = .tuple #[.string (strOf (cutA l c)), .string (strOf (cutB l c)), .bool (cutOk l c)] := by
  unfold cutV cutA cutB cutOk
  by_cases h : Lib.indexByte l c < 0
  · rw [if_pos h, decide_eq_false (by omega)]; rfl
  · rw [if_neg h, decide_eq_true (by omega)]; rfl
theorem cutA_len (l : List UInt8) (c : UInt8) : (cutA l c).length ≤ l.length := by unfold cutA; split <;> simp [List.length_take, Nat.min_le_right]
theorem cutB_len (l : List UInt8) (c : UInt8) : (cutB l c).length ≤ l.length ∧ (cutOk l c = true → (cutB l c).length < l.length) := by
  unfold cutB
  constructor
  · split <;> simp
  · intro h
    rw [if_pos h]
    unfold cutOk at h
    have h0 := of_decide_eq_true h
    obtain ⟨h1, -⟩ := Lib.indexByte_some (l := l) (c := c) (o := (Lib.indexByte l c).toNat) (by omega)
    obtain ⟨h2, -⟩ := List.getElem?_eq_some_iff.1 h1
    rw [List.length_drop]; omega
/-- The next file of a text, and what is left. -/
noncomputable def stepP (s : List UInt8) : Option (MFile × List UInt8) :=
  if cutOk s 10 && cutOk (cutA s 10) 0 then match unhex ((cutB (cutA s 10) 0).take 40) with
    | some x => some (⟨cutA (cutA s 10) 0, x, (cutB (cutA s 10) 0).drop 40⟩, cutB s 10)
    | none => none
  else none
theorem shaE_cases (s : List UInt8) : (∃ x, unhex s = some x ∧ shaX s = x ∧ shaE s = 0 ∧ s.length = 40) ∨ (unhex s = none ∧ shaE s = 4) := by
  cases h : unhex s with
  | none => exact .inr ⟨rfl, by unfold shaE; rw [h]; rfl⟩
  | some x =>
    refine .inl ⟨x, rfl, by unfold shaX; rw [h]; rfl, by unfold shaE; rw [h]; rfl, ?_⟩
    rcases unhex_cases s with ⟨y, hy, _⟩ | ⟨_, hn⟩
    · rw [hy, hexL_len, y.2]
    · rw [h] at hn; cases hn

def NextPost (s : List UInt8) (w : World) (B : Nat) (e : Ending) (w' : World) : Prop :=
  ∃ r, w'.heap[B]? = some (.cells #[.string (strOf r)] 9 (0, 0)) ∧ w.grownBy w' (some B) ∧
    ((∃ f, stepP s = some (f, r) ∧ e = .returned (.tuple #[.agg (recA encM f), .bool true])) ∨ (stepP s = none ∧ e = .returned (.tuple #[.agg (recA encM mf0), .bool false])))
/-- The closure's blocks: the text's box B, the result's R. -/
structure NextAt (w : World) (B : Nat) (S : ByteArray) (R : Nat) (Z : Array Value) (x : World) : Prop where
  box : x.heap[B]? = some (.cells #[.string S] 9 (0, 0))
  res : x.heap[R]? = some (.cells Z 46 (0, 0))
  gr : w.grownBy x (some B)
theorem grownBy_below {w x y : World} {r : Option Nat} (h : w.grownBy x r) (g : Grow x y) : w.grownBy y r :=
  ⟨g.os.trans h.os, g.tape.trans h.tape, g.output.trans h.output, Nat.le_trans h.size g.size, fun k hk hne => (g.block k (Nat.lt_of_lt_of_le hk h.size)).trans (h.block k hk hne)⟩
theorem NextAt.below {w x y : World} {B R : Nat} {S : ByteArray} {Z : Array Value} (h : NextAt w B S R Z x) (g : Grow x y) : NextAt w B S R Z y :=
  ⟨blockR_below h.box g, blockR_below h.res g, grownBy_below h.gr g⟩
theorem NextAt.put {w x : World} {B R : Nat} {S : ByteArray} {Z : Array Value} (h : NextAt w B S R Z x) (hBR : B ≠ R) (T : ByteArray) : NextAt w B T R Z (x.setRow B #[.string T]) := by
  refine ⟨setRow_heap _ _ _ _ _ _ h.box, ?_, ⟨h.gr.os, h.gr.tape, h.gr.output, by rw [setRow_size]; exact h.gr.size, fun k hk hne => ?_⟩⟩
  · rw [setRow_other x B R _ (Ne.symm hBR)]; exact h.res
  · rw [setRow_other x B k _ (fun e => hne (by rw [e]))]; exact h.gr.block k hk hne
theorem NextAt.fin {w x : World} {B R : Nat} {S : ByteArray} {Z : Array Value} (h : NextAt w B S R Z x) (hBR : B ≠ R) (hR : w.heap.size ≤ R) (C : Array Value) : (x.setRow R C).heap[B]? = some (.cells #[.string S] 9 (0, 0)) ∧ w.grownBy (x.setRow R C) (some B) := by
  refine ⟨by rw [setRow_other x R B _ hBR]; exact h.box, ⟨h.gr.os, h.gr.tape, h.gr.output, by rw [setRow_size]; exact h.gr.size, fun k hk hne => ?_⟩⟩
  rw [setRow_other x R k _ (by omega)]; exact h.gr.block k hk hne

set_option maxRecDepth 100000 in
set_option maxHeartbeats 4000000 in
theorem next_any (s : List UInt8) (hs : s.length ≤ 1000000) (w : World) (B : Nat) (hbox : w.heap[B]? = some (.cells #[.string (strOf s)] 9 (0, 0))) :
    Calls Tryd.prog 26 #[.pointer (some ⟨B, 0, none⟩)] w (NextPost s w B) := by
  obtain ⟨Z, hZ⟩ : ∃ Z, Z = recA encM mf0 := ⟨_, rfl⟩
  have z : ∀ w, (zeroValue 46).run Tryd.prog w = .ok (.agg Z) w := fun w => by rw [hZ]; kernel_rfl
  obtain ⟨Z2, hZ2⟩ : ∃ Z, Z = idA id0 := ⟨_, rfl⟩
  have z2 : ∀ w, (zeroValue 44).run Tryd.prog w = .ok (.agg Z2) w := fun w => by rw [hZ2]; kernel_rfl
  have HZ := Lib.hid (And.intro hZ hZ2)
  clear hZ hZ2
  have hBlt : B < w.heap.size := lt_of_block hbox
  have hN0 : NextAt w B (strOf s) w.heap.size Z (w.alloc (.cells Z 46)) := ⟨by rw [Below.block ((Below.refl _ _).alloc (Nat.le_refl _) _) _ hBlt]; exact hbox, heap_alloc_last _ _ _ rfl, World.grownBy_alloc _ _ _⟩
  have HN0 := Lib.hid hN0
  have CC := fun W => cut_any s 10 (by omega) W
  have CD := fun W => cut_any (cutA s 10) 0 (by have := cutA_len s 10; omega) W
  rw [cutV_eq] at CC CD
  obtain ⟨one, hone⟩ : ∃ o, o = cutA s 10 := ⟨_, rfl⟩
  have hst : stepP s = (if cutOk s 10 && cutOk one 0 then match unhex ((cutB one 0).take 40) with
    | some x => some (⟨cutA one 0, x, (cutB one 0).drop 40⟩, cutB s 10)
    | none => none
  else none) := by rw [hone]; rfl
  have hol : one.length ≤ 1000000 := by rw [hone]; have := cutA_len s 10; omega
  rw [← hone] at CC CD
  obtain ⟨more, hmore⟩ : ∃ o, o = cutB one 0 := ⟨_, rfl⟩
  have hml : more.length ≤ 1000000 := by rw [hmore]; have := (cutB_len one 0).1; omega
  rw [← hmore] at CD hst
  obtain ⟨k, hk⟩ : ∃ k, k = min more.length 40 := ⟨_, rfl⟩
  have MR := min_run (more.length : Int) 40 k (by split <;> omega)
  have SL := fun W => str_to Tryd.underlying9 more (i := k) (by omega) W
  have htk : more.take k = more.take 40 := by
    rw [hk]
    rcases Nat.le_total more.length 40 with h | h
    · rw [Nat.min_eq_left h, List.take_of_length_le (Nat.le_refl _), List.take_of_length_le h]
    · rw [Nat.min_eq_right h]
  rw [htk] at SL
  have CS := fun W => shaParse_any (strOf (more.take 40)) W
  rw [show (strOf (more.take 40)).data.toList = more.take 40 from rfl] at CS
  have hsz := strOf_size more
  obtain ⟨b1, hb1⟩ : ∃ b, b = cutOk s 10 := ⟨_, rfl⟩
  obtain ⟨b2, hb2⟩ : ∃ b, b = cutOk one 0 := ⟨_, rfl⟩
  obtain ⟨rest, hrest⟩ : ∃ b, b = cutB s 10 := ⟨_, rfl⟩
  obtain ⟨path, hpath⟩ : ∃ b, b = cutA one 0 := ⟨_, rfl⟩
  rw [← hb1, ← hrest] at CC hst
  rw [← hb2, ← hpath] at CD hst
  have HST := Lib.hid hst
  have HXE := Lib.hid (shaE_cases (more.take 40))
  obtain ⟨X, hX⟩ : ∃ X, X = shaX (more.take 40) := ⟨_, rfl⟩
  obtain ⟨E, hE⟩ : ∃ X, X = shaE (more.take 40) := ⟨_, rfl⟩
  rw [← hX, ← hE] at CS
  have HX := Lib.hid (And.intro hX hE)
  clear hone hst hol hmore hk htk hb1 hb2 hrest hpath hX hE hs hN0 hbox
  obtain ⟨R, hR⟩ : ∃ R, R = w.heap.size := ⟨_, rfl⟩
  have HR := Lib.hid hR
  go_enter Tryd.func26, Tryd.ntmps26
  go_upto_region 1 with (fail)
  rw [← hR]
  have hN := HN0.out
  rw [← hR] at hN
  have HBR := Lib.hid (And.intro (show B ≠ R by omega) (show w.heap.size ≤ R by omega))
  clear HN0 hR hBlt
  generalize w.alloc (.cells Z 46) = wA at *
  have c0 : wA.cell? ⟨B, 0, none⟩ = some (.string (strOf s)) := by rw [cell_of_row _ _ _ _ _ _ hN.box]; rfl
  generalize strOf s = S at *
  have HN := Lib.hid hN
  clear hN
  go_wp2_with fail
  ((with_reducible refine Calls.mono (CC _) ?_))
  clear CC c0
  rintro e w3 ⟨rfl, hw3⟩
  have HN3 := Lib.hid (HN.out.below hw3)
  clear hw3
  go_wp2_with fail
  ((with_reducible refine Calls.mono (CD _) ?_))
  clear CD
  rintro e w4 ⟨rfl, hw4⟩
  have hN4 := HN3.out.below hw4
  have hbox4 : w4.heap[B]? = some (.cells ([Value.string S] : List Value).toArray 9 (0, 0)) := hN4.box
  have HN4 := Lib.hid hN4
  clear hw4 hN4
  go_upto_region 4 with (refine wpList_store_cell rfl 9 (.tmp 0) (.tmp 23) rfl rfl B 0 (.string (strOf rest)) rfl rfl rfl 9 [Value.string S] hbox4 (by simp) (by kernel_rfl) ?_)
  have hN5 : NextAt w B (strOf rest) R Z (w4.setRow B (([Value.string S] : List Value).take 0 ++ [Value.string (strOf rest)] ++ ([Value.string S] : List Value).drop (0 + 1)).toArray) := HN4.out.put HBR.out.1 _
  clear hbox4
  generalize w4.setRow B (([Value.string S] : List Value).take 0 ++ [Value.string (strOf rest)] ++ ([Value.string S] : List Value).drop (0 + 1)).toArray = w5 at *
  have HN5 := Lib.hid hN5
  clear hN5
  go_wp2_with fail
  ((with_reducible refine Calls.mono (CS _) ?_))
  clear CS
  rintro e w6 ⟨rfl, hw6⟩
  have HN6 := Lib.hid (HN5.out.below hw6)
  have hzb : (w6.alloc (.cells Z2 44)).heap[w6.heap.size]? = some (.cells Z2 44 (0, 0)) := heap_alloc_last _ _ _ rfl
  have zs2 : Z2.size = (idA X).size := by rw [HZ.out.2, idA_size, idA_size]
  have zi2 : (Tryd.prog.info? 44).map (·.size) = some (idA X).size := by rw [idA_size]; kernel_rfl
  have z12 := idA_one X
  have gA : Below w6.heap.size w6 ((w6.alloc (.cells Z2 44)).setRow w6.heap.size (idA X)) := below_setRow ((Below.refl _ _).alloc (Nat.le_refl _) _) (Nat.le_refl _) _
  have hbx : ((w6.alloc (.cells Z2 44)).setRow w6.heap.size (idA X)).heap[w6.heap.size]? = some (.cells (idA X) 44 (0, 0)) := setRow_heap _ _ _ _ _ _ hzb
  have HA := Lib.hid (And.intro gA hbx)
  clear hw6 gA hbx MR SL
  go_upto_region 5 with (refine wpList_store_row rfl 44 _ _ rfl w6.heap.size (idA X) rfl rfl 44 Z2 hzb zi2 zs2 z12 ?_)
  obtain ⟨gA, hbx⟩ := HA.out
  clear HA hzb zs2 zi2 z12
  obtain ⟨R2, hR2⟩ : ∃ R2, R2 = w6.heap.size := ⟨_, rfl⟩
  have HN7 := Lib.hid (HN6.out.below gA)
  generalize (w6.alloc (.cells Z2 44)).setRow w6.heap.size (idA X) = w7 at *
  rw [← hR2] at hbx ⊢
  clear gA hR2
  have hres := HN7.out.res
  have zi : (Tryd.prog.info? 46).map (·.size) = some Z.size := by rw [HZ.out.1, show (recA encM mf0).size = 22 by simp [recA, encM_len]]; exact tyM.ie
  have z1 : Z.all (·.oneCell') = true := by rw [HZ.out.1]; exact all_oneCell_toArray (encM_one _)
  have bz : ∀ W, (Instr.build 46 ([] : List (Nat × Value)).toArray).run Tryd.prog W = .ok (.agg Z) W := fun W => by rw [HZ.out.1]; exact buildM0 W
  have HBX := Lib.hid hbx
  clear hbx
  cases b1
  · have HSN : Hid (stepP s = none) := Lib.hid (by rw [HST.out]; rfl)
    go_wp2_with (first | (refine wpList_build_at rfl _ _ rfl [] _ rfl (bz _) ?_) | (refine wpList_store_row rfl 46 _ _ rfl R Z rfl rfl 46 Z hres zi rfl z1 ?_))
    refine bodyPost_ret (results_cell_tmp rfl _ _ R 46 Z (0, 0) _ rfl (setRow_heap _ _ _ _ _ _ hres) Tryd.underlying46 rfl zi) rfl ?_
    have hf := HN7.out.fin HBR.out.1 HBR.out.2 Z
    exact ⟨rest, hf.1, hf.2, .inr ⟨HSN.out, by rw [← HZ.out.1]; rfl⟩⟩
  cases b2
  · have HSN : Hid (stepP s = none) := Lib.hid (by rw [HST.out]; rfl)
    go_wp2_with (first | (refine wpList_build_at rfl _ _ rfl [] _ rfl (bz _) ?_) | (refine wpList_store_row rfl 46 _ _ rfl R Z rfl rfl 46 Z hres zi rfl z1 ?_))
    refine bodyPost_ret (results_cell_tmp rfl _ _ R 46 Z (0, 0) _ rfl (setRow_heap _ _ _ _ _ _ hres) Tryd.underlying46 rfl zi) rfl ?_
    have hf := HN7.out.fin HBR.out.1 HBR.out.2 Z
    exact ⟨rest, hf.1, hf.2, .inr ⟨HSN.out, by rw [← HZ.out.1]; rfl⟩⟩
  rcases HXE.out with ⟨x, hu, hx, he, h40⟩ | ⟨hu, he⟩
  case inr =>
    have hE4 : E = 4 := by rw [HX.out.2]; exact he
    have HU := Lib.hid hu
    subst hE4
    clear hu he
    have HSN : Hid (stepP s = none) := Lib.hid (by rw [HST.out]; rw [HU.out]; rfl)
    go_wp2_with (first | (refine wpList_build_at rfl _ _ rfl [] _ rfl (bz _) ?_) | (refine wpList_store_row rfl 46 _ _ rfl R Z rfl rfl 46 Z hres zi rfl z1 ?_))
    refine bodyPost_ret (results_cell_tmp rfl _ _ R 46 Z (0, 0) _ rfl (setRow_heap _ _ _ _ _ _ hres) Tryd.underlying46 rfl zi) rfl ?_
    have hf := HN7.out.fin HBR.out.1 HBR.out.2 Z
    exact ⟨rest, hf.1, hf.2, .inr ⟨HSN.out, by rw [← HZ.out.1]; rfl⟩⟩
  have hE0 : E = 0 := by rw [HX.out.2]; exact he
  have hX0 : X = x := by rw [HX.out.1]; exact hx
  have hm40 : 40 ≤ more.length := by rw [List.length_take] at h40; omega
  have HSS : Hid (stepP s = some (⟨path, X, more.drop 40⟩, rest)) := Lib.hid (by rw [HST.out, hu, hX0]; rfl)
  have SL3 := fun W => str_from Tryd.underlying9 more (i := 40) hm40 W
  have BM := fun W => buildM path X (more.drop 40) W
  have L9 : ∀ y : Later w7, (Instr.loadAt 44 (.pointer (some ⟨R2, 0, none⟩))).run Tryd.prog y.1 = .ok (.agg (idA X)) y.1 := fun y => load_id arrG (by kernel_rfl) X R2 0 y.1 (rangeR_below (fun j v hj => by
    rw [cell_of_row _ _ _ _ _ _ HBX.out, Nat.zero_add]
    simpa [idA] using hj) y.2)
  subst hE0
  obtain ⟨f, hf⟩ : ∃ f : MFile, f = ⟨path, X, more.drop 40⟩ := ⟨_, rfl⟩
  rw [← hf] at BM
  have zsf : Z.size = (recA encM f).size := by rw [HZ.out.1]; simp [recA, encM_len]
  have zif : (Tryd.prog.info? 46).map (·.size) = some (recA encM f).size := by rw [show (recA encM f).size = 22 by simp [recA, encM_len]]; exact tyM.ie
  have z1f : (recA encM f).all (·.oneCell') = true := all_oneCell_toArray (encM_one _)
  have HF := Lib.hid hf
  clear hf hu hx he h40 hX0 hm40 hsz zi z1 bz
  generalize strOf (more.drop 40) = TF at *
  generalize strOf path = TP at *
  generalize strOf more = TM at *
  generalize idA X = VX at *
  go_upto_region 7 with (fail)
  refine wp_region_mg [(0, 0), (1, 0), (2, 0), (3, 0), (4, 0), (5, 2), (6, 0)] (by kernel_rfl) (by kernel_rfl) ?_
  iterate 1 (refine mg_calm rfl (fun K hK => ?_); go_simp; (refine hK _ ?_; clear hK K))
  refine mg_load rfl rfl _ _ rfl _ _ rfl L9 ?_
  iterate 1 (refine mg_calm rfl (fun K hK => ?_); go_simp; (refine hK _ ?_; clear hK K))
  refine mg_slice rfl rfl _ _ _ _ _ rfl _ (some (.int .i64 40)) none none _ rfl rfl rfl rfl SL3 ?_
  refine mg_build rfl rfl _ _ rfl [(0, .string TP), (1, .agg VX), (2, .string TF)] _ rfl BM ?_
  refine mg_sync rfl rfl (fun w8 hw8 K hK => ?_)
  have HN8 := Lib.hid (HN7.out.below hw8)
  have hres8 := HN8.out.res
  clear hw8 L9 SL3 BM hres
  refine wpList_store_row rfl 46 _ _ rfl R (recA encM f) rfl rfl 46 Z hres8 zif zsf z1f ?_
  have hfin := HN8.out.fin HBR.out.1 HBR.out.2 (recA encM f)
  have hr9 := setRow_heap _ R _ (recA encM f) _ _ hres8
  generalize w8.setRow R (recA encM f) = w9 at *
  have H9 := Lib.hid (And.intro hfin hr9)
  clear hfin hr9 hres8
  go_wp2_with fail
  iterate 1 (refine mg_calm rfl (fun K hK => ?_); go_simp; (refine hK _ ?_; clear hK K))
  refine mg_nil fun w10 hw10 => ?_
  have hr10 := blockR_below H9.out.2 hw10
  have hb10 := blockR_below H9.out.1.1 hw10
  have hg10 := grownBy_below H9.out.1.2 hw10
  have H10 := Lib.hid (And.intro hb10 hg10)
  clear hw10 hb10 hg10
  go_wp2_with fail
  refine bodyPost_ret (results_cell_tmp rfl _ _ R 46 (recA encM f) (0, 0) _ rfl hr10 Tryd.underlying46 rfl zif) rfl ?_
  exact ⟨rest, H10.out.1, H10.out.2, .inl ⟨f, by rw [HF.out]; exact HSS.out, rfl⟩⟩
end Go.Proofs.YtifoledkmjlmoaaDoor
namespace Go.Proofs.YtifoledkmjlmoaaDoor
open Go.RowKit Go.Mix Go.WideMaps

noncomputable def readM : Nat → List UInt8 → Option (List MFile)
  | _, [] => some []
  | 0, _ :: _ => none
  | n + 1, c :: s => match stepP (c :: s) with
    | none => none
    | some (f, r) => (readM n r).map (f :: ·)
theorem stepP_len {s r : List UInt8} {f : MFile} (h : stepP s = some (f, r)) : r.length < s.length ∧ f.path.length ≤ s.length ∧ f.flag.length ≤ s.length := by
  unfold stepP at h
  split at h
  · next hc =>
    rw [Bool.and_eq_true] at hc
    split at h
    · simp only [Option.some.injEq, Prod.mk.injEq] at h
      obtain ⟨rfl, rfl⟩ := h
      have h1 := cutA_len s 10
      have h2 := cutA_len (cutA s 10) 0
      have h3 := (cutB_len (cutA s 10) 0).1
      refine ⟨(cutB_len s 10).2 hc.1, by show (cutA (cutA s 10) 0).length ≤ _; omega, by show ((cutB (cutA s 10) 0).drop 40).length ≤ _; rw [List.length_drop]; omega⟩
    · cases h
  · cases h
theorem readM_fuel : ∀ (n m : Nat) (s : List UInt8), s.length ≤ n → s.length ≤ m → readM n s = readM m s := by
  intro n
  induction n with
  | zero => intro m s h1 h2; cases s with
    | nil => unfold readM; rfl
    | cons => simp at h1
  | succ n ih =>
    intro m s h1 h2
    cases s with
    | nil => unfold readM; rfl
    | cons c s =>
      cases m with
      | zero => simp at h2
      | succ m =>
        simp only [readM]
        cases h : stepP (c :: s) with
        | none => rfl
        | some x =>
          obtain ⟨f, r⟩ := x
          have := (stepP_len h).1
          simp only [List.length_cons] at this h1 h2
          simp only
          rw [ih m r (by omega) (by omega)]
theorem readM_none {s : List UInt8} (h0 : s ≠ []) (h : stepP s = none) : readM s.length s = none := by
  cases s with
  | nil => exact absurd rfl h0
  | cons c s => simp only [List.length_cons, readM, h]
theorem stepP_nil {r : List UInt8} {f : MFile} : stepP [] ≠ some (f, r) := fun h => by have := (stepP_len h).1; simp at this
theorem readM_some {s r : List UInt8} {f : MFile} (h : stepP s = some (f, r)) : readM s.length s = (readM r.length r).map (f :: ·) := by
  cases s with
  | nil => exact absurd h stepP_nil
  | cons c s =>
    have h1 := (stepP_len h).1
    simp only [List.length_cons, readM, h]
    rw [readM_fuel s.length r.length r (by simpa using Nat.lt_succ_iff.1 h1) (Nat.le_refl _)]
end Go.Proofs.YtifoledkmjlmoaaDoor
namespace Go.Proofs.YtifoledkmjlmoaaDoor
open Go.RowKit Go.Mix Go.WideMaps

/-- The world with its first blocks alone. -/
def cutW (w : World) (k : Nat) : World := { w with heap := w.heap.extract 0 k }
theorem cutW_size {w : World} {k : Nat} (h : k ≤ w.heap.size) : (cutW w k).heap.size = k := by
  show (w.heap.extract 0 k).size = k
  rw [Array.size_extract]; omega
theorem cutW_below {w : World} {k : Nat} (h : k ≤ w.heap.size) : Below k (cutW w k) w := by
  refine ⟨rfl, rfl, rfl, by rw [cutW_size h]; exact h, fun j hj => ?_⟩
  show w.heap[j]? = (w.heap.extract 0 k)[j]?
  rw [Array.getElem?_extract_of_lt (by omega)]
  simp
def boxLen (w : World) (B : Nat) : Nat := match w.heap[B]? with
  | some (.cells c _ _) => match c[0]?.getD (.bool false) with
    | .string s => s.size
    | _ => 0
  | _ => 0
/-- Between two rounds of Parse's loop: the text's box, the files' list. -/
structure ParM (w : World) (B : Nat) (s : List UInt8) (v : Value) (pre : List MFile) (x : World) : Prop where
  box : x.heap[B]? = some (.cells #[.string (strOf s)] 9 (0, 0))
  own : x.ownsRow (B + 1) 46 22 v pre.length (flatR encM pre)
  bel : Below w.heap.size w x
theorem ParM.later {w x y : World} {B : Nat} {s : List UInt8} {v : Value} {pre : List MFile} (h : ParM w B s v pre x) (g : Below x.heap.size x y) : ParM w B s v pre y :=
  ⟨blockR_below h.box g, h.own.kept (row := none) ⟨g.os, g.tape, g.output, g.size, fun k hk _ => g.block k hk⟩ (by cases v.ownBlock <;> simp), h.bel.trans (g.mono h.bel.size)⟩
theorem ParM.next {w x y : World} {B : Nat} {s r : List UInt8} {v : Value} {pre : List MFile} (h : ParM w B s v pre x) (hB : w.heap.size ≤ B) (g : x.grownBy y (some B)) (hb : y.heap[B]? = some (.cells #[.string (strOf r)] 9 (0, 0))) : ParM w B r v pre y :=
  ⟨hb, h.own.kept g (.inr fun e => by have := (h.own.lt _ e).1; omega), h.bel.grown g h.bel.size (fun k e => by cases e; exact hB)⟩
theorem ParM.owner {w x : World} {B : Nat} {s : List UInt8} {v : Value} {pre : List MFile} (h : ParM w B s v pre x) : OwnR encM 22 46 (cutW x (B + 1)) x v pre := by
  have hk : B + 1 ≤ x.heap.size := lt_of_block h.box
  exact ⟨by rw [cutW_size hk]; exact h.own, by rw [cutW_size hk]; exact cutW_below hk⟩
theorem ParM.back {w x y : World} {B : Nat} {s : List UInt8} {v v' : Value} {pre l : List MFile} (h : ParM w B s v pre x) (hB : w.heap.size ≤ B) (ho : OwnR encM 22 46 (cutW x (B + 1)) y v' l) (g : x.grownBy y v.ownBlock) : ParM w B s v' l y := by
  have hk : B + 1 ≤ x.heap.size := lt_of_block h.box
  have h1 := ho.own
  rw [cutW_size hk] at h1
  have hlt : ∀ k, v.ownBlock = some k → B + 1 ≤ k := fun k e => (h.own.lt k e).1
  refine ⟨by rw [g.block B hk (fun e => by have := hlt _ e.symm; omega)]; exact h.box, h1, h.bel.grown g h.bel.size (fun k e => by have := hlt _ e; omega)⟩
theorem ParM.full {w x : World} {B : Nat} {s : List UInt8} {v : Value} {pre : List MFile} (h : ParM w B s v pre x) (hB : w.heap.size ≤ B) : OwnR encM 22 46 w x v pre :=
  ⟨⟨h.own.1, h.own.2.imp id fun ⟨g, c, cur, h1, h2, h3⟩ => ⟨g, c, cur, h1, by omega, h3⟩⟩, h.bel⟩

set_option maxRecDepth 100000 in
set_option maxHeartbeats 4000000 in
theorem parse_any {w : World} {b : List UInt8} {a : Option Addr} {cap : Nat} (hg : Sl w a cap b) (hlen : b.length ≤ 100000) :
    Calls Tryd.prog 15 #[.slice a b.length cap] w fun e w' =>
      (∃ l, readM b.length b = some l ∧ RightM l ∧ ∃ v, e = .returned (.tuple #[v, .int .i64 0]) ∧ OwnR encM 22 46 w w' v l) ∨
      ((readM b.length b = none ∨ ∃ l, readM b.length b = some l ∧ ¬ RightM l) ∧ e = .returned (.tuple #[.slice none 0 0, .int .i64 4]) ∧ Below w.heap.size w w') := by
  have ST := hg.str
  change (convert 26 9 (.slice a b.length cap)).run Tryd.prog w = .ok (.string (strOf b)) w at ST
  obtain ⟨Z, hZ⟩ : ∃ Z, Z = recA encM mf0 := ⟨_, rfl⟩
  have z : ∀ w, (zeroValue 46).run Tryd.prog w = .ok (.agg Z) w := fun w => by rw [hZ]; kernel_rfl
  have HZ := Lib.hid hZ
  obtain ⟨n, hn⟩ : ∃ n, n = b.length := ⟨_, rfl⟩
  have HN := Lib.hid (And.intro hn hlen)
  have hP0 : ParM w w.heap.size b (.slice none 0 0) [] (w.alloc (.cells #[.string (strOf b)] 9)) := ⟨heap_alloc_last _ _ _ rfl, World.ownsRow_nil _ _ _ _, (Below.refl _ _).alloc (Nat.le_refl _) _⟩
  have HP0 := Lib.hid hP0
  rw [← hn] at ST ⊢
  clear hZ hn hlen hP0 hg
  obtain ⟨B, hB⟩ : ∃ B, B = w.heap.size := ⟨_, rfl⟩
  have HB := Lib.hid hB
  obtain ⟨T, hT⟩ : ∃ T, T = strOf b := ⟨_, rfl⟩
  rw [← hT] at ST
  have HT := Lib.hid hT
  clear hT hB
  go_enter Tryd.func15, Tryd.ntmps15
  go_wp2_with fail
  have hP0 := HP0.out
  rw [← HT.out, ← HB.out] at hP0
  rw [← HB.out]
  generalize w.alloc (.cells #[.string T] 9) = w1 at *
  have HP1 := Lib.hid hP0
  clear hP0 HP0 ST
  have HBW := Lib.hid (show w.heap.size ≤ B by rw [HB.out]; exact Nat.le_refl _)
  go_loopw [6] (fun s6 wr => ∃ (pre : List MFile) (s : List UInt8), ParM w B s s6 pre wr ∧ pre.length + s.length ≤ n ∧ (∀ p ∈ pre, p.path.length ≤ n ∧ p.flag.length ≤ n) ∧ readM b.length b = (readM s.length s).map (pre ++ ·)) (fun _ wr => boxLen wr B)
  case atStart => exact ⟨[], b, HP1.out, by rw [HN.out.1]; simp, fun _ h => (by simp at h), by simp⟩
  case round =>
    obtain ⟨pre, s, hp, hl, hnm, hread⟩ := hrel
    obtain ⟨wo, hwo⟩ : ∃ wo : World, wo = wr := ⟨_, rfl⟩
    have hbl : boxLen wr B = s.length := by
      unfold boxLen
      rw [hp.box]
      exact strOf_size s
    have c0 : wr.cell? ⟨B, 0, none⟩ = some (.string (strOf s)) := by rw [cell_of_row _ _ _ _ _ _ hp.box]; rfl
    have HP := Lib.hid (And.intro hp (And.intro hl (And.intro hnm (And.intro hread hbl))))
    have hsn : s.length ≤ 1000000 := by have := HN.out.2; rw [← HN.out.1] at this; omega
    have CN := next_any s hsn wr B hp.box
    clear hp hl hnm hread hbl hwo hsn
    by_cases h0 : s = []
    · have E0 : (strOf s).toList.isEmpty = true := by rw [h0, ByteArray.toList_eq]; rfl
      have hread : readM b.length b = some pre := by rw [HP.out.2.2.2.1, h0]; simp [readM]
      obtain ⟨ad, c, rfl, hrs, -⟩ := HP.out.1.owner.rs tyM
      have CR := right_any hrs (by have := HN.out; have := HP.out.2.1; omega) (fun p hp => by have := HN.out; have := HP.out.2.2.1 p hp; omega)
      have HRD := Lib.hid hread
      clear hread hrs h0 CN
      generalize strOf s = S at *
      obtain ⟨m, hm⟩ : ∃ m, m = pre.length := ⟨_, rfl⟩
      have HM := Lib.hid hm
      rw [← hm] at CR ⊢
      clear hm
      go_wp2_with fail
      refine CR.mono ?_
      rintro e w9 ⟨rb, rfl, hrb, hw9⟩
      have H9 := Lib.hid (And.intro hrb hw9)
      clear CR hrb hw9 c0
      cases rb
      · go_wp2_with fail
        go_ret2
        refine .inr ⟨.inr ⟨pre, by rw [HN.out.1]; exact HRD.out, fun h => by have := H9.out.1.2 h; cases this⟩, rfl, HP.out.1.bel.trans (H9.out.2.mono HP.out.1.bel.size)⟩
      · go_wp2_with fail
        go_ret2
        exact .inl ⟨pre, by rw [HN.out.1]; exact HRD.out, H9.out.1.1 trivial, _, rfl, by rw [HM.out]; exact (HP.out.1.full HBW.out).later H9.out.2⟩
    · have E0 : (strOf s).toList.isEmpty = false := by
        rw [ByteArray.toList_eq]
        cases s with
        | nil => exact absurd rfl h0
        | cons => rfl
      have HS0 := Lib.hid h0
      clear h0
      obtain ⟨S, hS⟩ : ∃ S, S = strOf s := ⟨_, rfl⟩
      rw [← hS] at c0 E0
      clear hS
      have zs : ∀ f : MFile, Z.size = (recA encM f).size := fun f => by rw [HZ.out]; simp [recA, encM_len]
      have zi : ∀ f : MFile, (Tryd.prog.info? 46).map (·.size) = some (recA encM f).size := fun f => by rw [show (recA encM f).size = 22 by simp [recA, encM_len]]; exact tyM.ie
      have z1 : ∀ f : MFile, (recA encM f).all (·.oneCell') = true := fun f => all_oneCell_toArray (encM_one _)
      have HZZ := Lib.hid (And.intro zs (And.intro zi z1))
      clear zs zi z1
      go_wp2_with fail
      with_reducible refine Calls.mono CN ?_
      rintro e w2 hpost
      obtain ⟨f, ok, r, hv, hpo⟩ : ∃ (f : MFile) (ok : Bool) (r : List UInt8), e = .returned (.tuple #[.agg (recA encM f), .bool ok]) ∧ (w2.heap[B]? = some (.cells #[.string (strOf r)] 9 (0, 0)) ∧ wr.grownBy w2 (some B) ∧ ((ok = true ∧ stepP s = some (f, r)) ∨ (ok = false ∧ stepP s = none))) := by
        obtain ⟨r, h1, h2, h3⟩ := hpost
        rcases h3 with ⟨f, h4, h5⟩ | ⟨h4, h5⟩
        · exact ⟨f, true, r, h5, h1, h2, .inl ⟨rfl, h4⟩⟩
        · exact ⟨mf0, false, r, h5, h1, h2, .inr ⟨rfl, h4⟩⟩
      subst hv
      have hp2 := HP.out.1.next HBW.out hpo.2.1 hpo.1
      have H2 := Lib.hid (And.intro hp2 hpo.2.2)
      clear hpost hpo hp2 CN c0 E0
      have hzb : (w2.alloc (.cells Z 46)).heap[w2.heap.size]? = some (.cells Z 46 (0, 0)) := heap_alloc_last _ _ _ rfl
      have gA : Below w2.heap.size w2 ((w2.alloc (.cells Z 46)).setRow w2.heap.size (recA encM f)) := below_setRow ((Below.refl _ _).alloc (Nat.le_refl _) _) (Nat.le_refl _) _
      have hbx : ((w2.alloc (.cells Z 46)).setRow w2.heap.size (recA encM f)).heap[w2.heap.size]? = some (.cells (recA encM f) 46 (0, 0)) := setRow_heap _ _ _ _ _ _ hzb
      have zs := HZZ.out.1 f
      have zi := HZZ.out.2.1 f
      have z1 := HZZ.out.2.2 f
      have H3 := Lib.hid (And.intro (H2.out.1.later gA) hbx)
      clear gA hbx
      go_upto_region 6 with (refine wpList_store_row rfl 46 _ _ rfl w2.heap.size (recA encM f) rfl rfl 46 Z hzb zi zs z1 ?_)
      clear hzb zs zi z1
      obtain ⟨R, hR⟩ : ∃ R, R = w2.heap.size := ⟨_, rfl⟩
      have H3 := H3.out
      rw [← hR] at H3 ⊢
      generalize (w2.alloc (.cells Z 46)).setRow R (recA encM f) = w3 at *
      have H3 := Lib.hid H3
      clear hR
      cases ok
      · have hst : stepP s = none := by
          rcases H2.out.2 with ⟨h, _⟩ | ⟨_, h⟩
          · cases h
          · exact h
        have HST := Lib.hid hst
        clear hst
        go_wp2_with fail
        go_ret2
        refine .inr ⟨.inl ?_, rfl, H3.out.1.bel⟩
        rw [HN.out.1, HP.out.2.2.2.1, readM_none HS0.out HST.out]; rfl
      · have hst : stepP s = some (f, r) := by
          rcases H2.out.2 with ⟨_, h⟩ | ⟨h, _⟩
          · exact h
          · cases h
        have HST := Lib.hid hst
        clear hst
        have L6 := tyM.load f R 0 w3 (recBox H3.out.2)
        have S1 := tyM.slice1 f w3
        have hg1 : Below w3.heap.size w3 (w3.alloc (.cells (recA encM f) 46)) := (Below.refl _ _).alloc (Nat.le_refl _) _
        have hp4 := H3.out.1.later hg1
        have hp9 := RsAt.one (enc := encM) (L := 22) w3 46 f
        have hpl : pre.length + 1 ≤ 1000000000 := by have := HP.out.2.1; have := HN.out; omega
        have H4 := Lib.hid (And.intro hp4 (And.intro hp9 hpl))
        clear hg1 hp4 hp9 hpl
        generalize recA encM f = VF at *
        go_wp2_with (first | (refine wpList_load_at rfl _ _ rfl _ _ rfl L6 ?_) | (refine wpList_buildSlice_at rfl _ _ _ rfl [(0, .agg VF)] _ rfl S1 ?_) | (refine wpList_append_r tyM rfl (.tmp 21) (.tmp 23) rfl _ pre rfl H4.out.1.owner (some ⟨w3.heap.size, 0, none⟩) 1 1 [f] rfl rfl H4.out.2.1 H4.out.2.2 ?_; intro v8 w8 hb8 hg8 hn8; have H8 := Lib.hid (And.intro hb8 hg8); clear hb8 hg8 hn8 L6 S1))
        have hp8 := H4.out.1.back HBW.out H8.out.1 H8.out.2
        have hlen := stepP_len HST.out
        go_roundw
        case rel =>
          refine ⟨pre ++ [f], r, hp8, ?_, ?_, ?_⟩
          · have := HP.out.2.1; rw [List.length_append]; simp; omega
          · intro p hp
            rcases List.mem_append.1 hp with h | h
            · exact HP.out.2.2.1 p h
            · simp at h; rw [h]; have := HP.out.2.1; omega
          · rw [HP.out.2.2.2.1, readM_some HST.out, Option.map_map]
            congr 1
            funext l
            simp
        case measure =>
          rw [HP.out.2.2.2.2]
          unfold boxLen
          rw [hp8.box]
          have h8 := strOf_size r
          show (strOf r).size < _
          omega
end Go.Proofs.YtifoledkmjlmoaaDoor
