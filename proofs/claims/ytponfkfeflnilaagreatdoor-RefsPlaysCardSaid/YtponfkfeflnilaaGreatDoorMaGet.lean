/-
  refs.List, refs.Get: the walks.
  refs.Head: the walk.
-/
import Derived.Test.YtponfkfeflnilaaGreatDoorMaAll
namespace Go.Proofs.YtponfkfeflnilaaGreatDoor
open Go.RowKit Go.Mix Go.WideMaps Go.Maps

set_option maxRecDepth 100000 in
set_option maxHeartbeats 2000000 in
theorem lstNil_any (w : World) : Calls Tryz.prog 67 #[.map none] w fun e w' => e = .returned (.slice none 0 0) ∧ Below w.heap.size w w' := by
  have CK := callsIn_wide.1 (Tryz.keysOfI none w)
  have CS := callsIn_wide.1 (Tryz.sortedOfNilI w)
  go_enter Tryz.func67, Tryz.ntmps67
  go_wp2_with fail
  refine CK.mono ?_
  clear CK
  rintro e w2 ⟨rfl, rfl⟩
  go_wp2_with fail
  refine CS.mono ?_
  clear CS
  rintro e w3 ⟨v, ss, rfl, rfl, hrow, hnil, hb⟩
  have hv : v = .slice none 0 0 := hnil.2 rfl
  subst hv
  have g3 : Below w.heap.size w w3 := ((Below.refl _ _).alloc (Nat.le_refl _) _).trans (hb.mono (by simp))
  have H3 := Lib.hid g3
  clear hrow hnil hb g3
  go_wp2_with fail
  go_loopw [3, 10] (fun s3 s10 wr => s3 = .slice none 0 0 ∧ s10 = .int .i64 0 ∧ wr = w3) (fun _ _ _ => 0)
  case atStart => exact ⟨rfl, rfl, rfl⟩
  case round =>
    obtain ⟨rfl, rfl, rfl⟩ := hrel
    go_wp2_with fail
    go_ret
    exact ⟨rfl, H3.out⟩

def errO {α : Type} (o : Option α) : Int := if o.isSome then 0 else 4
set_option maxRecDepth 100000 in
set_option maxHeartbeats 2000000 in
theorem List_any {own : Owns} {w : World} {p Z : Nat} {S : StP} {front : Bytes} (h : StoreAt own w p S) (hr : RefsIn Z S (frontL front)) (hm : MaxIs w) (hf : front.length ≤ 1000) :
    Calls Tryz.prog 26 #[ptr p, .string (strOf front)] w fun e w' => ∃ v, e = .returned (.tuple #[v, .int .i64 (errO (allK S (frontL front)))]) ∧ OwnR encP 21 88 w w' v ((allK S (frontL front)).getD []) := by
  have C1 := at_any p front (by omega) w
  have HH := Lib.hid (And.intro h (And.intro hr hm))
  clear h hr hm hf
  obtain ⟨F, hF⟩ : ∃ F, F = strOf front := ⟨_, rfl⟩
  rw [← hF] at C1 ⊢
  clear hF
  go_enter Tryz.func26, Tryz.ntmps26
  go_wp2_with fail
  refine C1.mono ?_
  clear C1
  rintro e w1 ⟨rfl, hb1⟩
  have C2 := all_any (HH.out.1.below hb1) HH.out.2.1 (HH.out.2.2.below hb1)
  have H1 := Lib.hid hb1
  clear hb1
  obtain ⟨PV, hPV⟩ : ∃ P, P = placeA p (frontL front) := ⟨_, rfl⟩
  rw [← hPV] at C2 ⊢
  clear hPV
  go_wp2_with fail
  refine C2.mono ?_
  clear C2
  rintro e w2 hpost
  rcases hpost with ⟨L, hL, M, rfl, hmap, -, hb2⟩ | ⟨hL, rfl, hb2⟩
  · obtain ⟨q1, q2, q3⟩ := all_short HH.out.2.1 hL
    have C3 := lst_any hmap q1 (by omega) (fun r hm => by have := (q3 r hm).2; omega)
    have H2 := Lib.hid (And.intro hL (H1.out.trans (hb2.mono H1.out.size)))
    clear hL hmap hb2 q1 q2 q3
    go_wp2_with fail
    refine C3.mono ?_
    clear C3
    rintro e w3 ⟨v, rfl, ho⟩
    have H3 := Lib.hid (ho.rebase H2.out.2)
    clear ho
    go_wp2_with fail
    go_ret2
    rw [H2.out.1]
    exact ⟨v, rfl, H3.out⟩
  · have C3 := lstNil_any w2
    have H2 := Lib.hid (And.intro hL (H1.out.trans (hb2.mono H1.out.size)))
    clear hL hb2
    go_wp2_with fail
    refine C3.mono ?_
    clear C3
    rintro e w3 ⟨rfl, hb3⟩
    have H3 := Lib.hid (H2.out.2.trans (hb3.mono H2.out.2.size))
    clear hb3
    go_wp2_with fail
    go_ret2
    rw [H2.out.1]
    exact ⟨_, rfl, OwnR.nil H3.out⟩

/-- One ref's id, or why there is none. -/
noncomputable def getK (S : StP) (f name : Bytes) : Id20 × Int := if rightN name then (match allK S f with
  | none => (id0, 4)
  | some L => match getP L name with
    | none => (id0, 6)
    | some x => (x, 0)) else (id0, 1)
/-- The result's box. -/
structure ResId (w0 : World) (R : Nat) (Z : Array Value) (w : World) : Prop where
  box : w.heap[R]? = some (.cells Z 42 (0, 0))
  fr : Below w0.heap.size w0 w
theorem ResId.below {w0 w w' : World} {R : Nat} {Z : Array Value} (h : ResId w0 R Z w) (g : Below w.heap.size w w') : ResId w0 R Z w' := ⟨blockR_below h.box g, h.fr.trans (g.mono h.fr.size)⟩

set_option maxRecDepth 100000 in
set_option maxHeartbeats 4000000 in
theorem Get_any {own : Owns} {w : World} {p Z : Nat} {S : StP} {front : Bytes} (h : StoreAt own w p S) (hr : RefsIn Z S (frontL front)) (hm : MaxIs w) (hf : front.length ≤ 1000) (name : Bytes) (hn : name.length ≤ 1000000) :
    Calls Tryz.prog 27 #[ptr p, .string (strOf front), .string (strOf name)] w fun e w' => e = .returned (.tuple #[.agg (idA (getK S (frontL front) name).1), .int .i64 (getK S (frontL front) name).2]) ∧ Below w.heap.size w w' := by
  obtain ⟨Z0, hZ0⟩ : ∃ Z, Z = idA id0 := ⟨_, rfl⟩
  have z : ∀ w, (zeroValue 42).run Tryz.prog w = .ok (.agg Z0) w := fun w => by rw [hZ0]; kernel_rfl
  have b0 : ∀ w, (Instr.build 42 #[]).run Tryz.prog w = .ok (.agg Z0) w := fun w => by rw [hZ0]; kernel_rfl
  have ziZ : (Tryz.prog.info? 42).map (·.size) = some Z0.size := by rw [hZ0, idA_size]; kernel_rfl
  have z1Z : Z0.all (·.oneCell') = true := by rw [hZ0]; exact idA_one id0
  have HZ := Lib.hid hZ0
  have r1 : ResId w w.heap.size Z0 (w.alloc (.cells Z0 42)) := ⟨heap_alloc_last _ _ _ rfl, (Below.refl _ _).alloc (Nat.le_refl _) _⟩
  have hgk : getK S (frontL front) name = if rightN name then (match allK S (frontL front) with | none => (id0, (4 : Int)) | some L => match getP L name with | none => (id0, 6) | some x => (x, 0)) else (id0, 1) := rfl
  obtain ⟨GK, hGK⟩ : ∃ G, G = getK S (frontL front) name := ⟨_, rfl⟩
  rw [← hGK] at hgk ⊢
  have C0 := rightN_any name hn (w.alloc (.cells Z0 42)) (hm.below r1.fr)
  obtain ⟨R0, hR0⟩ : ∃ R, R = rightN name := ⟨_, rfl⟩
  rw [← hR0] at C0 hgk
  obtain ⟨R, hR⟩ : ∃ R, R = w.heap.size := ⟨_, rfl⟩
  have HH := Lib.hid (And.intro h (And.intro hr (And.intro hm (And.intro hf hn))))
  have HG := Lib.hid hgk
  have H1 := Lib.hid (And.intro r1 trivial)
  have HRW := Lib.hid (Nat.le_of_eq hR.symm)
  obtain ⟨F, hF⟩ : ∃ F, F = strOf front := ⟨_, rfl⟩
  obtain ⟨NM, hNM⟩ : ∃ F, F = strOf name := ⟨_, rfl⟩
  have HF := Lib.hid (And.intro hF hNM)
  rw [← hNM] at C0
  rw [← hF, ← hNM]
  clear h hr hm hf hn hgk r1 hGK hR0 hF hNM hZ0
  go_enter Tryz.func27, Tryz.ntmps27
  go_upto_region 1 with (fail)
  rw [← hR] at H1 ⊢
  clear hR
  generalize w.alloc (.cells Z0 42) = w1 at *
  go_wp2_with fail
  refine C0.mono ?_
  clear C0
  rintro e w2 ⟨rfl, hb2⟩
  have r2 := H1.out.1.below hb2
  cases R0
  case false =>
    have hz := r2.box
    have hfin := setRow_heap _ _ _ Z0 _ _ hz
    have hfr := below_setRow r2.fr HRW.out Z0
    have HE := Lib.hid (And.intro hfin hfr)
    clear r2 hb2 hfin hfr
    go_wp2_with (first | (refine wpList_build_at rfl _ _ rfl [] _ rfl (b0 _) ?_) | (refine wpList_store_row rfl 42 _ _ rfl R Z0 rfl rfl 42 Z0 hz ziZ rfl z1Z ?_))
    refine bodyPost_ret (results_cell_tmp rfl _ _ R 42 Z0 (0, 0) _ rfl HE.out.1 Tryz.underlying42 rfl ziZ) rfl ?_
    rw [HG.out]
    refine ⟨?_, HE.out.2⟩
    show Ending.returned (.tuple #[.agg Z0, .int .i64 1]) = _
    rw [HZ.out]; try rfl
  have C1 := at_any p front (by have := HH.out.2.2.2.1; omega) w2
  rw [← HF.out.1] at C1
  have H2 := Lib.hid r2
  clear r2 hb2
  go_wp2_with fail
  refine C1.mono ?_
  clear C1
  rintro e w3 ⟨rfl, hb3⟩
  have r3 := H2.out.below hb3
  have C2 := all_any (HH.out.1.below r3.fr) HH.out.2.1 (HH.out.2.2.1.below r3.fr)
  have H3 := Lib.hid r3
  obtain ⟨PV, hPV⟩ : ∃ P, P = placeA p (frontL front) := ⟨_, rfl⟩
  rw [← hPV] at C2 ⊢
  clear hPV r3 hb3
  go_wp2_with fail
  refine C2.mono ?_
  clear C2
  rintro e w4 hpost
  have hgk := HG.out
  rcases hpost with ⟨L, hL, M, rfl, hmap, -, hb4⟩ | ⟨hL, rfl, hb4⟩
  case inr =>
    rw [hL] at hgk
    have r4 := H3.out.below hb4
    have hz := r4.box
    have hfin := setRow_heap _ _ _ Z0 _ _ hz
    have hfr := below_setRow r4.fr HRW.out Z0
    have HE := Lib.hid (And.intro hfin (And.intro hfr hgk))
    clear r4 hb4 hfin hfr hL hgk
    go_wp2_with (first | (refine wpList_build_at rfl _ _ rfl [] _ rfl (b0 _) ?_) | (refine wpList_store_row rfl 42 _ _ rfl R Z0 rfl rfl 42 Z0 hz ziZ rfl z1Z ?_))
    refine bodyPost_ret (results_cell_tmp rfl _ _ R 42 Z0 (0, 0) _ rfl HE.out.1 Tryz.underlying42 rfl ziZ) rfl ?_
    rw [HE.out.2.2]
    refine ⟨?_, HE.out.2.1⟩
    show Ending.returned (.tuple #[.agg Z0, .int .i64 4]) = _
    rw [HZ.out]; try rfl
  replace hgk : GK = match getP L name with | none => (id0, (6 : Int)) | some x => (x, 0) := by rw [hL] at hgk; simpa using hgk
  have r4 := H3.out.below hb4
  have LK := hmap.look_ok name (by have := HH.out.2.2.2.2; omega)
  rw [← HF.out.2] at LK
  obtain ⟨ox, hox⟩ : ∃ ox, ox = getP L name := ⟨_, rfl⟩
  rw [← hox] at LK hgk
  obtain ⟨x, hx⟩ : ∃ x, x = ox.getD id0 := ⟨_, rfl⟩
  rw [← hx] at LK
  have hz7 : (w4.alloc (.cells Z0 42)).heap[w4.heap.size]? = some (.cells Z0 42 (0, 0)) := heap_alloc_last _ _ _ rfl
  have hg7 : Below w4.heap.size w4 ((w4.alloc (.cells Z0 42)).setRow w4.heap.size (idA x)) := below_setRow ((Below.refl _ _).alloc (Nat.le_refl _) _) (Nat.le_refl _) _
  have hk7 : ((w4.alloc (.cells Z0 42)).setRow w4.heap.size (idA x)).heap[w4.heap.size]? = some (.cells (idA x) 42 (0, 0)) := setRow_heap _ _ _ _ _ _ hz7
  have zs : Z0.size = (idA x).size := by rw [HZ.out]; simp [idA, idc_len]
  have zi : (Tryz.prog.info? 42).map (·.size) = some (idA x).size := by rw [show (idA x).size = 20 by simp [idA, idc_len]]; kernel_rfl
  have z1 : (idA x).all (·.oneCell') = true := all_oneCell_toArray (bcells_one _)
  have r7 := r4.below hg7
  have H7 := Lib.hid (And.intro r7 (And.intro hk7 (And.intro hgk hx)))
  clear r4 hb4 hL hgk hmap hox r7 hg7 hk7 hx
  go_upto_region 7 with (refine wpList_store_row rfl 42 _ _ rfl w4.heap.size (idA x) rfl rfl 42 Z0 hz7 zi zs z1 ?_)
  clear LK hz7
  obtain ⟨X7, hX7⟩ : ∃ X, X = w4.heap.size := ⟨_, rfl⟩
  have H8 := H7.out
  rw [← hX7] at H8 ⊢
  clear hX7 H7
  generalize (w4.alloc (.cells Z0 42)).setRow X7 (idA x) = w5 at *
  obtain ⟨r5, hk7, hgk, hx⟩ := H8
  cases ox with
  | none =>
    have hz := r5.box
    have hfin := setRow_heap _ _ _ Z0 _ _ hz
    have hfr := below_setRow r5.fr HRW.out Z0
    have HE := Lib.hid (And.intro hfin (And.intro hfr hgk))
    clear r5 hfin hfr hgk hk7 hx
    go_wp2_with (first | (refine wpList_build_at rfl _ _ rfl [] _ rfl (b0 _) ?_) | (refine wpList_store_row rfl 42 _ _ rfl R Z0 rfl rfl 42 Z0 hz ziZ rfl z1Z ?_))
    refine bodyPost_ret (results_cell_tmp rfl _ _ R 42 Z0 (0, 0) _ rfl HE.out.1 Tryz.underlying42 rfl ziZ) rfl ?_
    rw [HE.out.2.2]
    refine ⟨?_, HE.out.2.1⟩
    show Ending.returned (.tuple #[.agg Z0, .int .i64 6]) = _
    rw [HZ.out]; try rfl
  | some y =>
    have hxy : x = y := hx
    rw [← hxy] at hgk
    clear hxy hx
    have hz := r5.box
    have hfin := setRow_heap _ _ _ (idA x) _ _ hz
    have hfr := below_setRow r5.fr HRW.out (idA x)
    have LI := load_id arrG (by kernel_rfl) x X7 0 w5 (idBox hk7)
    have HE := Lib.hid (And.intro hfin (And.intro hfr hgk))
    clear r5 hfin hfr hgk hk7
    go_wp2_with (first | (refine wpList_load_at rfl _ _ rfl _ _ rfl LI ?_) | (refine wpList_store_row rfl 42 _ _ rfl R (idA x) rfl rfl 42 Z0 hz zi zs z1 ?_))
    refine bodyPost_ret (results_cell_tmp rfl _ _ R 42 (idA x) (0, 0) _ rfl HE.out.1 Tryz.underlying42 rfl zi) rfl ?_
    rw [HE.out.2.2]
    exact ⟨rfl, HE.out.2.1⟩
end Go.Proofs.YtponfkfeflnilaaGreatDoor
namespace Go.Proofs.YtponfkfeflnilaaGreatDoor
open Go.RowKit Go.Mix Go.WideMaps Go.Maps

def headT : Bytes := [72, 69, 65, 68]
def refcT : Bytes := [114, 101, 102, 58, 32]
/-- What a HEAD of these bytes says. -/
noncomputable def headB (b : Bytes) : Bytes × Id20 × Int :=
  if refcT.isPrefixOf b then
    (if ([10] : Bytes).isSuffixOf (b.drop 5) && rightN ((b.drop 5).take ((b.drop 5).length - 1)) then ((b.drop 5).take ((b.drop 5).length - 1), id0, 0) else ([], id0, 4))
  else match fileK b with
    | some x => ([], x, 0)
    | none => ([], id0, 4)
noncomputable def headK (l : Files) (f : Bytes) : Bytes × Id20 × Int := match getF l (f ++ headT) with
  | none => ([], id0, 6)
  | some g => headB g.now

theorem results_tmp_cell_tmp {P : Program} {fn : Func} {s p t : Tmp} {ty : TypeId} (h : fn.results = #[.tmp s, .cell p ty, .tmp t]) (tmps : Array Value) (w : World) (g : Nat) (te : TypeId) (cs : Array Value) (fr : Nat × Nat) (d : TypeDesc)
    (hp : tmps.getD p undef = .pointer (some ⟨g, 0, none⟩)) (hg : w.heap[g]? = some (.cells cs te fr))
    (hu : P.underlying ty = some d) (hd : (match d with | .struct _ | .array _ _ => true | _ => false) = true) (hi : (P.info? ty).map (·.size) = some cs.size) :
    (results fn tmps).run P w = .ok (.tuple #[tmps.getD s undef, .agg cs, tmps.getD t undef]) w := by
  have hp' : tmps[p]?.getD undef = .pointer (some ⟨g, 0, none⟩) := by simpa using hp
  simp [results, h, hp', asAddr, run_loadVar_row w g te ty cs fr d hg hu hd hi]

theorem mg_pureH {P : Program} {ops : Array Oper} {Q : Act → World → Prop} {i : Nat} {r : List (Nat × Nat)} {o : Oper} {a : Act} {w : World} (ho : ops[i]? = some o)
    (h : ∀ K : Act → Prop, (∀ a, MG P ops Q r a w → K a) → pureStep P ops o K a) : MG P ops Q ((i, 3) :: r) a w :=
  ⟨mix_pure ho fun K hK => h K fun a h => hK a h.out⟩

set_option maxRecDepth 100000 in
set_option maxHeartbeats 4000000 in
theorem Head_any {own : Owns} {w : World} {p Z : Nat} {S : StP} {front : Bytes} (h : StoreAt own w p S) (ok : OkS Z S) (hZ : Z ≤ 1000000) (hm : MaxIs w) (hf : front.length ≤ 1000) :
    Calls Tryz.prog 28 #[ptr p, .string (strOf front)] w fun e w' => e = .returned (.tuple #[.string (strOf (headK S.files (frontL front)).1), .agg (idA (headK S.files (frontL front)).2.1), .int .i64 (headK S.files (frontL front)).2.2]) ∧ Below w.heap.size w w' := by
  obtain ⟨Z0, hZ0⟩ : ∃ Z, Z = idA id0 := ⟨_, rfl⟩
  have z : ∀ w, (zeroValue 42).run Tryz.prog w = .ok (.agg Z0) w := fun w => by rw [hZ0]; kernel_rfl
  have b0 : ∀ w, (Instr.build 42 #[]).run Tryz.prog w = .ok (.agg Z0) w := fun w => by rw [hZ0]; kernel_rfl
  have zL : ∀ w, (zeroValue 106).run Tryz.prog w = .ok (.agg #[.pointer none, .string ByteArray.empty]) w := fun w => by kernel_rfl
  have ziZ : (Tryz.prog.info? 42).map (·.size) = some Z0.size := by rw [hZ0, idA_size]; kernel_rfl
  have z1Z : Z0.all (·.oneCell') = true := by rw [hZ0]; exact idA_one id0
  have HZ := Lib.hid hZ0
  have r1 : ResId w w.heap.size Z0 (w.alloc (.cells Z0 42)) := ⟨heap_alloc_last _ _ _ rfl, (Below.refl _ _).alloc (Nat.le_refl _) _⟩
  obtain ⟨fl, hfl⟩ : ∃ f, f = frontL front := ⟨_, rfl⟩
  have hfll : fl.length ≤ 1001 := by rw [hfl]; unfold frontL; split <;> simp <;> omega
  obtain ⟨GK, hGK⟩ : ∃ G, G = headK S.files fl := ⟨_, rfl⟩
  have C1 := at_any p front (by omega) (w.alloc (.cells Z0 42))
  rw [← hfl] at C1 ⊢
  rw [← hGK]
  obtain ⟨R, hR⟩ : ∃ R, R = w.heap.size := ⟨_, rfl⟩
  have HH := Lib.hid (And.intro h (And.intro ok (And.intro hZ hm)))
  have HG := Lib.hid hGK
  have H1 := Lib.hid (And.intro r1 trivial)
  have HRW := Lib.hid (Nat.le_of_eq hR.symm)
  obtain ⟨F, hF⟩ : ∃ F, F = strOf front := ⟨_, rfl⟩
  rw [← hF] at C1 ⊢
  have A1 := fun W => str_add fl headT (by omega) (by decide) W
  rw [show strOf headT = ⟨#[72, 69, 65, 68]⟩ from rfl] at A1
  clear h ok hZ hm hf r1 hGK hF hZ0 hfl
  go_enter Tryz.func28, Tryz.ntmps28
  go_upto_region 1 with (fail)
  rw [← hR] at H1 ⊢
  clear hR
  generalize w.alloc (.cells Z0 42) = w1 at *
  go_wp2_with fail
  refine C1.mono ?_
  clear C1
  rintro e w2 ⟨rfl, hb2⟩
  have hzb : (w2.alloc (.cells #[.pointer none, .string ByteArray.empty] 106)).heap[w2.heap.size]? = some (.cells #[.pointer none, .string ByteArray.empty] 106 (0, 0)) := heap_alloc_last _ _ _ rfl
  have zi : (Tryz.prog.info? 106).map (·.size) = some (placeA p fl).size := by kernel_rfl
  have zs : (#[.pointer none, .string ByteArray.empty] : Array Value).size = (placeA p fl).size := rfl
  have z1 : (placeA p fl).all (·.oneCell') = true := all_oneCell_toArray (cs := [ptr p, .string (strOf fl)]) (fun u hu => by
    rcases List.mem_cons.1 hu with rfl | hu
    · rfl
    · rw [List.mem_singleton] at hu; subst hu; rfl)
  have gA : Below w2.heap.size w2 ((w2.alloc (.cells #[.pointer none, .string ByteArray.empty] 106)).setRow w2.heap.size (placeA p fl)) := below_setRow ((Below.refl _ _).alloc (Nat.le_refl _) _) (Nat.le_refl _) _
  have hr := setRow_heap _ _ _ (placeA p fl) _ _ hzb
  have HA := Lib.hid (And.intro gA (And.intro hr ((H1.out.1.below hb2).below gA)))
  clear gA hr hb2
  go_upto_region 2 with (refine wpList_store_row rfl 106 _ _ rfl w2.heap.size (placeA p fl) rfl rfl 106 _ hzb zi zs z1 ?_)
  have H3 := HA.out
  obtain ⟨X, hX⟩ : ∃ X, X = w2.heap.size := ⟨_, rfl⟩
  rw [← hX] at H3 ⊢
  clear HA hzb hX
  generalize (w2.alloc (.cells #[.pointer none, .string ByteArray.empty] 106)).setRow X (placeA p fl) = w3 at *
  obtain ⟨-, hr3, r3⟩ := H3
  have c0 : w3.cell? ⟨X, 0, none⟩ = some (ptr p) := by rw [cell_of_row _ _ _ _ _ _ hr3]; rfl
  have c1 : w3.cell? ⟨X, 1, none⟩ = some (.string (strOf fl)) := by rw [cell_of_row _ _ _ _ _ _ hr3]; rfl
  have CR := read_at (HH.out.1.below r3.fr) HH.out.2.1 (by have := HH.out.2.2.1; omega) (fl ++ headT) (by rw [List.length_append]; show fl.length + 4 ≤ _; omega)
  obtain ⟨FS, hFS⟩ : ∃ F, F = strOf fl := ⟨_, rfl⟩
  obtain ⟨P1, hP1⟩ : ∃ F, F = strOf (fl ++ headT) := ⟨_, rfl⟩
  rw [← hFS] at c1 A1
  rw [← hP1] at A1 CR
  have H3 := Lib.hid r3
  have HRR := Lib.hid (fun (e : Ending) (w' : World) (hh : ReadIs S.files (fl ++ headT) w3 e w') => hh.now)
  clear hr3 r3 hFS hP1
  go_wp2_with fail
  refine CR.mono ?_
  clear CR
  rintro e w4 hrd
  obtain ⟨a, c, x, rfl, hs, hx, hb⟩ := HRR.out _ _ hrd
  have r4 := H3.out.below hb
  have hgk := HG.out
  unfold headK at hgk
  have hnow : nowO S.files (fl ++ headT) = ((getF S.files (fl ++ headT)).map FileP.now).getD [] := rfl
  clear hrd c0 c1 A1
  cases hq : getF S.files (fl ++ headT) with
  | none =>
    rw [hq] at hgk hx
    obtain rfl : x = 6 := hx
    have hz := r4.box
    have hfin := setRow_heap _ _ _ Z0 _ _ hz
    have hfr := below_setRow r4.fr HRW.out Z0
    have HE := Lib.hid (And.intro hfin (And.intro hfr hgk))
    generalize (nowO S.files (fl ++ headT)).length = n at *
    clear r4 hfin hfr hgk hs hb hq hnow
    go_wp2_with (first | (refine wpList_build_at rfl _ _ rfl [] _ rfl (b0 _) ?_) | (refine wpList_store_row rfl 42 _ _ rfl R Z0 rfl rfl 42 Z0 hz ziZ rfl z1Z ?_))
    refine bodyPost_ret (results_tmp_cell_tmp rfl _ _ R 42 Z0 (0, 0) _ rfl HE.out.1 Tryz.underlying42 rfl ziZ) rfl ?_
    rw [HE.out.2.2]
    refine ⟨?_, HE.out.2.1⟩
    show Ending.returned (.tuple #[.string ⟨#[]⟩, .agg Z0, .int .i64 6]) = _
    rw [HZ.out]; try rfl
  | some g =>
    rw [hq] at hgk hx hnow
    obtain rfl : x = 0 := hx
    change GK = headB g.now at hgk
    change nowO S.files (fl ++ headT) = g.now at hnow
    rw [hnow] at hs ⊢
    have hbl : g.now.length ≤ 1000000 := by rw [← hnow]; exact Nat.le_trans (HH.out.2.1.now_len _) HH.out.2.2.1
    obtain ⟨b, hb'⟩ : ∃ b, b = g.now := ⟨_, rfl⟩
    rw [← hb'] at hs hgk hbl ⊢
    have CF := fun (W : World) (gW : Below w4.heap.size w4 W) => file_any (hs.below gW) hbl
    have ST := hs.str
    change (convert 24 9 (.slice a b.length c)).run Tryz.prog w4 = .ok (.string (strOf b)) w4 at ST
    obtain ⟨n, hn⟩ : ∃ n, n = b.length := ⟨_, rfl⟩
    rw [← hn] at ST CF ⊢
    have C1 : ∀ W, Calls Tryz.prog 39 #[.string (strOf b), .string ⟨#[114, 101, 102, 58, 32]⟩] W fun e w' => e = .returned (.tuple #[.string (strOf (Lib.trimPrefix b refcT)), .bool (refcT.isPrefixOf b)]) ∧ w' = W := fun W => Tryz.strings_CutPrefix (strOf b) ⟨#[114, 101, 102, 58, 32]⟩ W
    have htr : refcT.isPrefixOf b = true → Lib.trimPrefix b refcT = b.drop 5 := fun h => by unfold Lib.trimPrefix Lib.hasPrefix; rw [h]; rfl
    unfold headB at hgk
    obtain ⟨b1, hb1⟩ : ∃ x, x = refcT.isPrefixOf b := ⟨_, rfl⟩
    rw [← hb1] at C1 htr hgk
    obtain ⟨T1, hT1⟩ : ∃ x, x = Lib.trimPrefix b refcT := ⟨_, rfl⟩
    rw [← hT1] at C1 htr
    have hTl : T1.length ≤ 1000000 := by rw [hT1]; unfold Lib.trimPrefix; split <;> first | omega | (simp; omega)
    have H4 := Lib.hid (And.intro r4 (And.intro htr (And.intro hgk hTl)))
    obtain ⟨BS, hBS⟩ : ∃ x, x = strOf b := ⟨_, rfl⟩
    rw [← hBS] at ST C1
    obtain ⟨TS, hTS⟩ : ∃ x, x = strOf T1 := ⟨_, rfl⟩
    rw [← hTS] at C1
    have HTS := Lib.hid hTS
    have HCF := Lib.hid CF
    clear hs hb hq hnow hb' hn hb1 hT1 hbl htr hgk hTl r4 hBS hTS CF
    go_wp2_with fail
    refine (C1 _).mono ?_
    rintro e w5 ⟨rfl, rfl⟩
    clear C1 ST
    have hgk := H4.out.2.2.1
    cases b1
    case false =>
      have CF := HCF.out w5 (Below.refl _ _)
      obtain ⟨K, hK⟩ : ∃ K, K = fileK b := ⟨_, rfl⟩
      have hfe : fileE b = if K.isSome then 0 else 4 := by rw [hK]; rfl
      rw [← hK, hfe] at CF
      rw [← hK] at hgk
      have hgk2 : GK = ([], K.getD id0, if K.isSome then 0 else 4) := by
        simp only [Bool.false_eq_true, if_false] at hgk
        rw [hgk]; cases K <;> rfl
      obtain ⟨E, hE⟩ : ∃ E : Int, E = if K.isSome then 0 else 4 := ⟨_, rfl⟩
      rw [← hE] at CF hgk2
      obtain ⟨y, hy⟩ : ∃ y, y = K.getD id0 := ⟨_, rfl⟩
      rw [← hy] at CF hgk2
      have HGK := Lib.hid hgk2
      clear hgk hgk2 hK hfe hE hy HCF
      go_wp2_with fail
      refine CF.mono ?_
      clear CF
      rintro e w6 ⟨rfl, hb6⟩
      have r6 := H4.out.1.below hb6
      have hz7 : (w6.alloc (.cells Z0 42)).heap[w6.heap.size]? = some (.cells Z0 42 (0, 0)) := heap_alloc_last _ _ _ rfl
      have hg7 : Below w6.heap.size w6 ((w6.alloc (.cells Z0 42)).setRow w6.heap.size (idA y)) := below_setRow ((Below.refl _ _).alloc (Nat.le_refl _) _) (Nat.le_refl _) _
      have hk7 : ((w6.alloc (.cells Z0 42)).setRow w6.heap.size (idA y)).heap[w6.heap.size]? = some (.cells (idA y) 42 (0, 0)) := setRow_heap _ _ _ _ _ _ hz7
      have zsy : Z0.size = (idA y).size := by rw [HZ.out]; simp [idA, idc_len]
      have ziy : (Tryz.prog.info? 42).map (·.size) = some (idA y).size := by rw [show (idA y).size = 20 by simp [idA, idc_len]]; kernel_rfl
      have z1y : (idA y).all (·.oneCell') = true := all_oneCell_toArray (bcells_one _)
      have H7 := Lib.hid (And.intro (r6.below hg7) hk7)
      clear r6 hb6 hg7 hk7
      go_upto_region 12 with (refine wpList_store_row rfl 42 _ _ rfl w6.heap.size (idA y) rfl rfl 42 Z0 hz7 ziy zsy z1y ?_)
      have H8 := H7.out
      obtain ⟨X7, hX7⟩ : ∃ X, X = w6.heap.size := ⟨_, rfl⟩
      rw [← hX7] at H8 ⊢
      clear hX7 H7 hz7
      generalize (w6.alloc (.cells Z0 42)).setRow X7 (idA y) = w7 at *
      obtain ⟨r7, hk7⟩ := H8
      have LI : ∀ y2 : Later w7, (Instr.loadAt 42 (.pointer (some ⟨X7, 0, none⟩))).run Tryz.prog y2.1 = .ok (.agg (idA y)) y2.1 := fun y2 => load_id arrG (by kernel_rfl) y X7 0 y2.1 (rangeR_below (idBox hk7) y2.2)
      have H7 := Lib.hid r7
      clear r7 hk7
      refine wp_region_mg [(0, 0), (1, 3), (2, 0), (3, 2), (4, 0)] (by kernel_rfl) (by kernel_rfl) ?_
      refine mg_load rfl rfl _ _ rfl _ _ rfl LI ?_
      refine mg_pureH rfl (fun K hK => ?_)
      go_simp
      refine hK _ ?_
      clear hK K
      iterate 1 (refine mg_calm rfl (fun K hK => ?_); go_simp; (refine hK _ ?_; clear hK K))
      refine mg_sync rfl rfl (fun w8 hw8 K hK => ?_)
      have r8 := H7.out.below hw8
      have hz := r8.box
      have hfin := setRow_heap _ _ _ (idA y) _ _ hz
      have hfr := below_setRow r8.fr HRW.out (idA y)
      have HE := Lib.hid (And.intro hfin hfr)
      clear r8 hw8 hfin hfr LI
      refine wpList_store_row rfl 42 _ _ rfl R (idA y) rfl rfl 42 Z0 hz ziy zsy z1y ?_
      go_wp2_with fail
      iterate 1 (refine mg_calm rfl (fun K hK => ?_); go_simp; (refine hK _ ?_; clear hK K))
      refine mg_nil fun w10 hw10 => ?_
      have hfin := blockR_below HE.out.1 hw10
      have hfr := HE.out.2.trans (Below.mono hw10 HE.out.2.size)
      have HE2 := Lib.hid (And.intro hfin hfr)
      clear hw10 hfin hfr hz
      go_wp2_with fail
      refine bodyPost_ret (results_tmp_cell_tmp rfl _ _ R 42 (idA y) (0, 0) _ rfl HE2.out.1 Tryz.underlying42 rfl ziy) rfl ?_
      rw [HGK.out]
      exact ⟨rfl, HE2.out.2⟩
    have hT1 : T1 = b.drop 5 := H4.out.2.1 (by first | rfl | trivial)
    simp only [if_true] at hgk
    rw [← hT1] at hgk
    have C2 : ∀ W, Calls Tryz.prog 69 #[.string (strOf T1), .string ⟨#[10]⟩] W fun e w' => e = .returned (.tuple #[.string (strOf (Lib.trimSuffix T1 [10])), .bool (([10] : Bytes).isSuffixOf T1)]) ∧ w' = W := fun W => Tryz.strings_CutSuffix (strOf T1) ⟨#[10]⟩ W (by rw [strOf_size]; have := H4.out.2.2.2; omega)
    have htr2 : ([10] : Bytes).isSuffixOf T1 = true → Lib.trimSuffix T1 [10] = T1.take (T1.length - 1) := fun h => by unfold Lib.trimSuffix Lib.hasSuffix; rw [h]; rfl
    obtain ⟨b2, hb2⟩ : ∃ x, x = ([10] : Bytes).isSuffixOf T1 := ⟨_, rfl⟩
    rw [← hb2] at C2 htr2 hgk
    obtain ⟨T2, hT2⟩ : ∃ x, x = Lib.trimSuffix T1 [10] := ⟨_, rfl⟩
    rw [← hT2] at C2 htr2
    have hT2l : T2.length ≤ 1000000 := by have := H4.out.2.2.2; rw [hT2]; unfold Lib.trimSuffix; split <;> first | omega | (simp; omega)
    rw [← HTS.out] at C2
    obtain ⟨T2S, hT2S⟩ : ∃ x, x = strOf T2 := ⟨_, rfl⟩
    rw [← hT2S] at C2
    have CN := rightN_any T2 hT2l w5 (HH.out.2.2.2.below H4.out.1.fr)
    rw [← hT2S] at CN
    obtain ⟨R2, hR2⟩ : ∃ x, x = rightN T2 := ⟨_, rfl⟩
    rw [← hR2] at CN
    have H9 := Lib.hid (And.intro hgk (And.intro htr2 (And.intro hT2S hR2)))
    clear hgk hT1 htr2 hb2 hT2 hT2l hT2S hR2 HCF
    go_wp2_with fail
    refine (C2 _).mono ?_
    rintro e w6 ⟨rfl, rfl⟩
    clear C2
    have hgk := H9.out.1
    cases b2
    case false =>
      have hg2 : GK = ([], id0, 4) := by simpa using hgk
      have hz := H4.out.1.box
      have hfin := setRow_heap _ _ _ Z0 _ _ hz
      have hfr := below_setRow H4.out.1.fr HRW.out Z0
      have HE := Lib.hid (And.intro hfin (And.intro hfr hg2))
      clear hfin hfr hgk hg2 CN
      go_wp2_with (first | (refine wpList_build_at rfl _ _ rfl [] _ rfl (b0 _) ?_) | (refine wpList_store_row rfl 42 _ _ rfl R Z0 rfl rfl 42 Z0 hz ziZ rfl z1Z ?_))
      refine bodyPost_ret (results_tmp_cell_tmp rfl _ _ R 42 Z0 (0, 0) _ rfl HE.out.1 Tryz.underlying42 rfl ziZ) rfl ?_
      rw [HE.out.2.2]
      refine ⟨?_, HE.out.2.1⟩
      show Ending.returned (.tuple #[.string ⟨#[]⟩, .agg Z0, .int .i64 4]) = _
      rw [HZ.out]; try rfl
    have hT2 : T2 = T1.take (T1.length - 1) := H9.out.2.1 (by first | rfl | trivial)
    rw [← hT2, ← H9.out.2.2.2] at hgk
    go_wp2_with fail
    refine CN.mono ?_
    clear CN
    rintro e w7 ⟨rfl, hb7⟩
    have r7 := H4.out.1.below hb7
    cases R2
    case false =>
      have hg2 : GK = ([], id0, 4) := by simpa using hgk
      have hz := r7.box
      have hfin := setRow_heap _ _ _ Z0 _ _ hz
      have hfr := below_setRow r7.fr HRW.out Z0
      have HE := Lib.hid (And.intro hfin (And.intro hfr hg2))
      clear hfin hfr hgk hg2 r7 hb7 hT2
      go_wp2_with (first | (refine wpList_build_at rfl _ _ rfl [] _ rfl (b0 _) ?_) | (refine wpList_store_row rfl 42 _ _ rfl R Z0 rfl rfl 42 Z0 hz ziZ rfl z1Z ?_))
      refine bodyPost_ret (results_tmp_cell_tmp rfl _ _ R 42 Z0 (0, 0) _ rfl HE.out.1 Tryz.underlying42 rfl ziZ) rfl ?_
      rw [HE.out.2.2]
      refine ⟨?_, HE.out.2.1⟩
      show Ending.returned (.tuple #[.string ⟨#[]⟩, .agg Z0, .int .i64 4]) = _
      rw [HZ.out]; try rfl
    have hg2 : GK = (T2, id0, 0) := by simpa using hgk
    have hz := r7.box
    have hfin := setRow_heap _ _ _ Z0 _ _ hz
    have hfr := below_setRow r7.fr HRW.out Z0
    have HE := Lib.hid (And.intro hfin (And.intro hfr hg2))
    clear hfin hfr hgk hg2 r7 hb7 hT2
    go_wp2_with (first | (refine wpList_build_at rfl _ _ rfl [] _ rfl (b0 _) ?_) | (refine wpList_store_row rfl 42 _ _ rfl R Z0 rfl rfl 42 Z0 hz ziZ rfl z1Z ?_))
    refine bodyPost_ret (results_tmp_cell_tmp rfl _ _ R 42 Z0 (0, 0) _ rfl HE.out.1 Tryz.underlying42 rfl ziZ) rfl ?_
    rw [HE.out.2.2]
    refine ⟨?_, HE.out.2.1⟩
    show Ending.returned (.tuple #[.string T2S, .agg Z0, .int .i64 0]) = _
    rw [HZ.out, H9.out.2.2.1]
end Go.Proofs.YtponfkfeflnilaaGreatDoor
