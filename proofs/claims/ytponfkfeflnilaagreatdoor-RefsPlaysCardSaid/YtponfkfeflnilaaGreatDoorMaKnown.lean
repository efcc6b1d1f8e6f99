/-
  law14's known: plain.
  law14's known: the walk.
  The wrap of a law, the world's shape handed on; MaxLen's cell out of it.
-/
import Derived.Test.YtponfkfeflnilaaGreatDoorMaDel
import Derived.Test.YtponfkfeflnilaaGreatDoorMaNam
import Derived.HandedShaped
import Derived.Shelf.Vars
namespace Go.Proofs.YtponfkfeflnilaaGreatDoor
open Go.RowKit Go.Mix Go.WideMaps Go.Maps

theorem fileK_hex (x : Id20) : fileK (hexL x.1 ++ [10]) = some x := by
  unfold fileK
  have h1 : ([10] : Bytes).isSuffixOf (hexL x.1 ++ [10]) = true := by
    rw [List.isSuffixOf_iff_suffix]; exact List.suffix_append _ _
  rw [if_pos h1, List.length_append]
  show unhex ((hexL x.1 ++ [10]).take ((hexL x.1).length + 1 - 1)) = _
  rw [Nat.add_sub_cancel, List.take_left]
  exact unhex_some rfl
theorem allK_of {S : StP} {f : Bytes} {a b : List RefP} (h1 : packK S.files f = some a) (h2 : looseK S f = some b) : allK S f = some (putsP [] (a ++ b)) := by
  unfold allK; rw [h1, h2]

def idK (n : UInt8) : Id20 := ⟨n :: List.replicate 19 0, rfl⟩
def gT : Bytes := [103, 47]
def naT : Bytes := [114, 101, 102, 115, 47, 104, 101, 97, 100, 115, 47, 97]
def nbT : Bytes := [114, 101, 102, 115, 47, 104, 101, 97, 100, 115, 47, 98]
def hxT (n : UInt8) : Bytes := hexL (idK n).1 ++ [10]
def ra (n : UInt8) : RefP := ⟨naT, idK n⟩
def rb (n : UInt8) : RefP := ⟨nbT, idK n⟩
def pkT : Bytes := textP [ra 1, rb 2]
def k0 : StP := newS 1048576
def k1 : StP := ⟨1048576, 41, [(gT ++ naT, ⟨hxT 1, hxT 1, []⟩)], false, false, 0⟩
def k2 : StP := ⟨1048576, 82, [(gT ++ naT, ⟨hxT 1, hxT 1, []⟩), (gT ++ nbT, ⟨hxT 2, hxT 2, []⟩)], false, false, 0⟩
def k2p : StP := ⟨1048576, 190, [(gT ++ packedT, ⟨pkT, pkT, []⟩), (gT ++ naT, ⟨hxT 1, hxT 1, []⟩), (gT ++ nbT, ⟨hxT 2, hxT 2, []⟩)], false, false, 0⟩
def k3 : StP := ⟨1048576, 108, [(gT ++ packedT, ⟨pkT, pkT, []⟩)], false, false, 0⟩
def k4 : StP := ⟨1048576, 149, [(gT ++ packedT, ⟨pkT, pkT, []⟩), (gT ++ naT, ⟨hxT 3, hxT 3, []⟩)], false, false, 0⟩
def pk5 : Bytes := textP [ra 1]
def k5 : StP := ⟨1048576, 95, [(gT ++ packedT, ⟨pk5, pk5, []⟩), (gT ++ naT, ⟨hxT 3, hxT 3, []⟩)], false, false, 0⟩
set_option maxRecDepth 100000
theorem lay1 : layS k0 gT naT (hxT 1) = (k1, 0) := by kernel_rfl
theorem lay2 : layS k1 gT nbT (hxT 2) = (k2, 0) := by kernel_rfl
theorem lay2p : layS k2 gT packedT pkT = (k2p, 0) := by kernel_rfl
theorem rm3 : rmAll gT [ra 1, rb 2] k2p = (k3, 0) := by kernel_rfl
theorem lay4 : layS k3 gT naT (hxT 3) = (k4, 0) := by kernel_rfl
theorem lay5 : layS k4 gT packedT pk5 = (k5, 0) := by kernel_rfl
theorem rm5 : rmS k5 (gT ++ nbT) = (k5, 0) := by kernel_rfl
theorem right_a : rightN naT = true := by kernel_rfl
theorem right_b : rightN nbT = true := by kernel_rfl

theorem ord2 : OrdP [ra 1, rb 2] := fun i hi => by
  match i, hi with
  | 0, _ => show stepN _ 0 = true; kernel_rfl
  | 1, _ => show stepN _ 1 = true; kernel_rfl
theorem ord1 : OrdP [ra 1] := fun i hi => by
  match i, hi with
  | 0, _ => show stepN _ 0 = true; kernel_rfl
theorem loose_of {S : StP} {f : Bytes} {l : List Bytes} {r : List RefP} (h : listS S (f ++ refsT) = l) (h2 : allSome (looseOne S.files f) l = some r) : looseK S f = some r := by
  unfold looseK; rw [h, h2]
theorem one_of {l : Files} {f p b : Bytes} {x : Id20} (h1 : nowO l p = b) (h2 : b = hexL x.1 ++ [10]) (h3 : rightN (p.drop f.length) = true) : looseOne l f p = some ⟨p.drop f.length, x⟩ := by
  unfold looseOne
  rw [h1, h2, fileK_hex]
  simp only
  rw [if_pos h3]
theorem all0 : allK k0 gT = some [] := by
  have h1 : packK k0.files gT = some [] := parsePk_nil
  have h2 : looseK k0 gT = some [] := loose_of (l := []) rfl rfl
  rw [allK_of h1 h2]; rfl
theorem loose1 : looseK k1 gT = some [ra 1] := by
  refine loose_of (l := [gT ++ naT]) (by kernel_rfl) ?_
  have h := one_of (l := k1.files) (f := gT) (p := gT ++ naT) (b := hxT 1) (x := idK 1) (by kernel_rfl) rfl right_a
  simp only [allSome, h]; rfl
theorem all1 : allK k1 gT = some [ra 1] := by
  have h1 : packK k1.files gT = some [] := parsePk_nil
  exact (allK_of h1 loose1).trans (by kernel_rfl)
theorem loose2 : looseK k2 gT = some [ra 1, rb 2] := by
  refine loose_of (l := [gT ++ naT, gT ++ nbT]) (by kernel_rfl) ?_
  have h := one_of (l := k2.files) (f := gT) (p := gT ++ naT) (b := hxT 1) (x := idK 1) (by kernel_rfl) rfl right_a
  have h2 := one_of (l := k2.files) (f := gT) (p := gT ++ nbT) (b := hxT 2) (x := idK 2) (by kernel_rfl) rfl right_b
  simp only [allSome, h, h2]; rfl
theorem all2 : allK k2 gT = some [ra 1, rb 2] := by
  have h1 : packK k2.files gT = some [] := parsePk_nil
  exact (allK_of h1 loose2).trans (by kernel_rfl)
theorem loose2p : looseK k2p gT = some [ra 1, rb 2] := by
  refine loose_of (l := [gT ++ naT, gT ++ nbT]) (by kernel_rfl) ?_
  have h := one_of (l := k2p.files) (f := gT) (p := gT ++ naT) (b := hxT 1) (x := idK 1) (by kernel_rfl) rfl right_a
  have h2 := one_of (l := k2p.files) (f := gT) (p := gT ++ nbT) (b := hxT 2) (x := idK 2) (by kernel_rfl) rfl right_b
  simp only [allSome, h, h2]; rfl
theorem pack3 : packK k3.files gT = some [ra 1, rb 2] := parsePk_text ord2
theorem all3 : allK k3 gT = some [ra 1, rb 2] := by
  have h2 : looseK k3 gT = some [] := loose_of (l := []) (by kernel_rfl) rfl
  exact (allK_of pack3 h2).trans (by kernel_rfl)
theorem pack4 : packK k4.files gT = some [ra 1, rb 2] := parsePk_text ord2
theorem loose4 : looseK k4 gT = some [ra 3] := by
  refine loose_of (l := [gT ++ naT]) (by kernel_rfl) ?_
  have h := one_of (l := k4.files) (f := gT) (p := gT ++ naT) (b := hxT 3) (x := idK 3) (by kernel_rfl) rfl right_a
  simp only [allSome, h]; rfl
theorem all4 : allK k4 gT = some [ra 3, rb 2] := by
  exact (allK_of pack4 loose4).trans (by kernel_rfl)
theorem all5 : allK k5 gT = some [ra 3] := by
  have h1 : packK k5.files gT = some [ra 1] := parsePk_text ord1
  have h2 : looseK k5 gT = some [ra 3] := by
    refine loose_of (l := [gT ++ naT]) (by kernel_rfl) ?_
    have h := one_of (l := k5.files) (f := gT) (p := gT ++ naT) (b := hxT 3) (x := idK 3) (by kernel_rfl) rfl right_a
    simp only [allSome, h]; rfl
  exact (allK_of h1 h2).trans (by kernel_rfl)
theorem set1 : setK k0 gT naT (idK 1) = (k1, 0) := by
  unfold setK
  rw [if_pos right_a, all0]
  exact lay1
theorem set2 : setK k1 gT nbT (idK 2) = (k2, 0) := by
  unfold setK
  rw [if_pos right_b, all1]
  have h : clashP [ra 1] nbT = false := by kernel_rfl
  simp only [h]
  exact lay2
theorem packS3 : packS k2 gT = (k3, 0) := by
  unfold packS
  rw [all2]
  have h : layS k2 gT packedT (textP [ra 1, rb 2]) = (k2p, 0) := lay2p
  simp only [h]
  rw [if_neg (by simp), andS_ok, loose2p]
  exact rm3
theorem set4 : setK k3 gT naT (idK 3) = (k4, 0) := by
  unfold setK
  rw [if_pos right_a, all3]
  have h : clashP [ra 1, rb 2] naT = false := by kernel_rfl
  simp only [h]
  exact lay4
theorem get4 : getK k4 gT naT = (idK 3, 0) := by
  unfold getK
  rw [if_pos right_a, all4]
  have h : getP [ra 3, rb 2] naT = some (idK 3) := by kernel_rfl
  simp only [h]
theorem drop5 : dropS k4 gT nbT = (k5, 0) := by
  unfold dropS
  rw [if_pos right_b, all4]
  have h : getP [ra 3, rb 2] nbT = some (idK 2) := by kernel_rfl
  simp only [h]
  have hp : pkL k4 gT = [ra 1, rb 2] := by unfold pkL; rw [pack4]; rfl
  have h2 : dropPk k4 gT nbT = (k5, 0) := by
    unfold dropPk
    rw [hp]
    have h3 : ([ra 1, rb 2] : List RefP).any (hasN nbT) = true := by kernel_rfl
    have h4 : ([ra 1, rb 2] : List RefP).filter (fun r => !hasN nbT r) = [ra 1] := by kernel_rfl
    rw [if_pos h3, h4]
    exact lay5
  rw [h2, andS_ok]
  exact rm5

theorem okk0 : OkS 0 k0 := OkS.new 1048576 ⟨by decide, by decide⟩
theorem okk1 : OkS 1000 k1 := by have := okk0.lay gT naT (hxT 1); rw [lay1] at this; exact this.mono (by decide)
theorem okk2 : OkS 2000 k2 := by have := okk1.lay gT nbT (hxT 2); rw [lay2] at this; exact this.mono (by decide)
theorem okk2p : OkS 3000 k2p := by have := okk2.lay gT packedT pkT; rw [lay2p] at this; exact this.mono (by decide)
theorem OkS.rmAll {Z : Nat} (f : Bytes) : ∀ (l : List RefP) {S : StP}, OkS Z S → OkS Z (rmAll f l S).1
  | [], _, h => h
  | _ :: l, _, h => and_step (P := OkS Z) (h.remove _) (fun _ h => OkS.rmAll f l h) fun _ h => h
theorem okk3 : OkS 3000 k3 := by have := OkS.rmAll gT [ra 1, rb 2] okk2p; rw [rm3] at this; exact this
theorem okk4 : OkS 4000 k4 := by have := okk3.lay gT naT (hxT 3); rw [lay4] at this; exact this.mono (by decide)
theorem okk5 : OkS 5000 k5 := by have := okk4.lay gT packedT pk5; rw [lay5] at this; exact this.mono (by decide)
theorem ri0 : RefsIn 0 k0 gT := ⟨okk0, by decide, by decide, Nat.le_of_ble_eq_true (by kernel_rfl), Nat.le_of_ble_eq_true (by kernel_rfl)⟩
theorem ri1 : RefsIn 1000 k1 gT := ⟨okk1, by decide, by decide, Nat.le_of_ble_eq_true (by kernel_rfl), Nat.le_of_ble_eq_true (by kernel_rfl)⟩
theorem ri2 : RefsIn 2000 k2 gT := ⟨okk2, by decide, by decide, Nat.le_of_ble_eq_true (by kernel_rfl), Nat.le_of_ble_eq_true (by kernel_rfl)⟩
theorem ri2p : RefsIn 3000 k2p gT := ⟨okk2p, by decide, by decide, Nat.le_of_ble_eq_true (by kernel_rfl), Nat.le_of_ble_eq_true (by kernel_rfl)⟩
theorem ri3 : RefsIn 3000 k3 gT := ⟨okk3, by decide, by decide, Nat.le_of_ble_eq_true (by kernel_rfl), Nat.le_of_ble_eq_true (by kernel_rfl)⟩
theorem ri4 : RefsIn 4000 k4 gT := ⟨okk4, by decide, by decide, Nat.le_of_ble_eq_true (by kernel_rfl), Nat.le_of_ble_eq_true (by kernel_rfl)⟩
theorem ri5 : RefsIn 5000 k5 gT := ⟨okk5, by decide, by decide, Nat.le_of_ble_eq_true (by kernel_rfl), Nat.le_of_ble_eq_true (by kernel_rfl)⟩
end Go.Proofs.YtponfkfeflnilaaGreatDoor
namespace Go.Proofs.YtponfkfeflnilaaGreatDoor
open Go.RowKit Go.Mix Go.WideMaps Go.Maps

theorem Live.max {B p : Nat} {w0 w : World} {own : Owns} {S : StP} (h : Live B w0 own w p S) (hm : MaxIs w0) (hB : 0 < B) : MaxAt own w := by
  refine ⟨?_, h.not_old hB⟩
  obtain ⟨m, hm⟩ := hm
  exact ⟨m, by rw [← hm]; exact World.cell?_of_block (a := ⟨_, 0, none⟩) (h.frame.block _ hB)⟩
theorem wpList_build_g {P : Program} {ops : Array Oper} {rest : List Oper} {o : Oper} {a : Act} {w : World} {Q : Exit → Act → World → Prop} (hw : Region.wanted o (yielded ops a.tmps) = true)
    (ty : TypeId) (ps : Array (Nat × Operand)) (hop : o.op = .build ty ps) (PS : List (Nat × Value)) (v : Value) (hx : (ps.toList.map fun p => (p.1, a.eval p.2)) = PS) (hl : (Instr.build ty PS.toArray).run P w = .ok v w)
    (h : wpList P ops Q rest (a.put o.dst v) w) : wpList P ops Q (o :: rest) a w := by
  unfold wpList
  rw [if_pos hw]
  refine .inl ?_
  unfold Oper.wp execOp
  simp only [hop, parts_map hx, Sem.run_bind, Sem.run_pure, Result.andThen_ok, hl]
  exact h
set_option maxRecDepth 100000 in
theorem eqI : EqlAt Tryz.prog 42 (fun x : Id20 => .agg (idA x)) (fun x y => decide (x = y)) :=
  ⟨fun x y w => by rw [run_eql_struct, eq_id_run arrG]; rfl, GuardAt.agg _ (by kernel_rfl)⟩
def dotsT : Bytes := [114, 101, 102, 115, 47, 97, 46, 46, 98]

set_option maxRecDepth 100000 in
set_option maxHeartbeats 8000000 in
theorem known_any (w : World) (hm : MaxIs w) :
    Calls Tryz.prog 9 #[] w fun e w' => e = .returned (.bool true) ∧ Below w.heap.size w w' := by
  have b1 : ∀ w, (Instr.build 42 [(0, .int .u8 1)].toArray).run Tryz.prog w = .ok (.agg (idA (idK 1))) w := fun w => by kernel_rfl
  have b2 : ∀ w, (Instr.build 42 [(0, .int .u8 2)].toArray).run Tryz.prog w = .ok (.agg (idA (idK 2))) w := fun w => by kernel_rfl
  have b3 : ∀ w, (Instr.build 42 [(0, .int .u8 3)].toArray).run Tryz.prog w = .ok (.agg (idA (idK 3))) w := fun w => by kernel_rfl
  obtain ⟨Z, hZ⟩ : ∃ Z, Z = idA id0 := ⟨_, rfl⟩
  have z : ∀ w, (zeroValue 42).run Tryz.prog w = .ok (.agg Z) w := fun w => by rw [hZ]; kernel_rfl
  have HZ := Lib.hid hZ
  have HM := Lib.hid (And.intro hm hm.lt)
  have hfr : frontL [103] = gT := rfl
  clear hZ hm
  go_enter Tryz.func9, Tryz.ntmps9
  go_wp2_with fail
  refine (new_live 1048576 w).mono ?_
  rintro e w1 ⟨p, own1, rfl, l1⟩
  have C1 := Set_any l1.at_ (by rw [hfr]; exact ri0) (l1.max HM.out.1 HM.out.2).is (front := [103]) (by decide) naT (by decide) (idK 1)
  rw [hfr, show newS 1048576 = k0 from rfl, set1] at C1
  change Calls _ _ #[ptr p, .string ⟨#[103]⟩, .string ⟨#[114, 101, 102, 115, 47, 104, 101, 97, 100, 115, 47, 97]⟩, _] _ _ at C1
  have H1 := Lib.hid l1
  clear l1
  go_wp2_with (first | (refine wpList_build_at rfl _ _ rfl [(0, .int .u8 1)] _ rfl (b1 _) ?_))
  refine C1.mono ?_
  clear C1
  rintro e w2 hl
  obtain ⟨rfl, own2, l2⟩ := H1.out.left hl
  have C2 := Set_any l2.at_ (by rw [hfr]; exact ri1) (l2.max HM.out.1 HM.out.2).is (front := [103]) (by decide) nbT (by decide) (idK 2)
  rw [hfr, set2] at C2
  change Calls _ _ #[ptr p, .string ⟨#[103]⟩, .string ⟨#[114, 101, 102, 115, 47, 104, 101, 97, 100, 115, 47, 98]⟩, _] _ _ at C2
  have H2 := Lib.hid l2
  clear l2 hl H1
  go_wp2_with (first | (refine wpList_build_at rfl _ _ rfl [(0, .int .u8 2)] _ rfl (b2 _) ?_))
  refine C2.mono ?_
  clear C2
  rintro e w3 hl
  obtain ⟨rfl, own3, l3⟩ := H2.out.left hl
  have C3 := Pack_any (Z1 := 3000) l3.at_ (by rw [hfr]; exact ri2) (l3.max HM.out.1 HM.out.2) (front := [103]) (by decide) (fun L hL => by
    rw [hfr, all2] at hL
    injection hL with hL
    rw [← hL, hfr]
    have h : layS k2 gT packedT (textP [ra 1, rb 2]) = (k2p, 0) := lay2p
    rw [h]
    exact ri2p)
  rw [hfr, packS3] at C3
  change Calls _ _ #[ptr p, .string ⟨#[103]⟩] _ _ at C3
  have H3 := Lib.hid l3
  clear l3 hl H2
  go_wp2_with fail
  refine C3.mono ?_
  clear C3
  rintro e w4 hl
  obtain ⟨rfl, own4, l4⟩ := H3.out.left hl
  have C4 := Set_any l4.at_ (by rw [hfr]; exact ri3) (l4.max HM.out.1 HM.out.2).is (front := [103]) (by decide) naT (by decide) (idK 3)
  rw [hfr, set4] at C4
  change Calls _ _ #[ptr p, .string ⟨#[103]⟩, .string ⟨#[114, 101, 102, 115, 47, 104, 101, 97, 100, 115, 47, 97]⟩, _] _ _ at C4
  have H4 := Lib.hid l4
  clear l4 hl H3
  go_wp2_with (first | (refine wpList_build_at rfl _ _ rfl [(0, .int .u8 3)] _ rfl (b3 _) ?_))
  refine C4.mono ?_
  clear C4
  rintro e w5 hl
  obtain ⟨rfl, own5, l5⟩ := H4.out.left hl
  have C5 := Get_any l5.at_ (by rw [hfr]; exact ri4) (l5.max HM.out.1 HM.out.2).is (front := [103]) (by decide) naT (by decide)
  rw [hfr, get4] at C5
  change Calls _ _ #[ptr p, .string ⟨#[103]⟩, .string ⟨#[114, 101, 102, 115, 47, 104, 101, 97, 100, 115, 47, 97]⟩] _ _ at C5
  have H5 := Lib.hid l5
  clear l5 hl H4
  go_wp2_with fail
  refine C5.mono ?_
  clear C5
  rintro e w6 ⟨rfl, hb6⟩
  have hz7 : (w6.alloc (.cells Z 42)).heap[w6.heap.size]? = some (.cells Z 42 (0, 0)) := heap_alloc_last _ _ _ rfl
  have hg7 : Below w6.heap.size w6 ((w6.alloc (.cells Z 42)).setRow w6.heap.size (idA (idK 3))) := below_setRow ((Below.refl _ _).alloc (Nat.le_refl _) _) (Nat.le_refl _) _
  have hk7 : ((w6.alloc (.cells Z 42)).setRow w6.heap.size (idA (idK 3))).heap[w6.heap.size]? = some (.cells (idA (idK 3)) 42 (0, 0)) := setRow_heap _ _ _ _ _ _ hz7
  have zs : Z.size = (idA (idK 3)).size := by rw [HZ.out]; simp [idA, idc_len]
  have zi : (Tryz.prog.info? 42).map (·.size) = some (idA (idK 3)).size := by kernel_rfl
  have z1 : (idA (idK 3)).all (·.oneCell') = true := all_oneCell_toArray (bcells_one _)
  have hno : own5 w6.heap.size = none := H5.out.not_new hb6.size
  have l7 := H5.out.below (Grow.trans hb6 hg7)
  have H6 := Lib.hid (And.intro l7 (And.intro hk7 hno))
  have C7 := Drop_any l7.at_ (by rw [hfr]; exact ri4) (l7.max HM.out.1 HM.out.2) (front := [103]) (by decide) nbT (by decide)
  rw [hfr, drop5] at C7
  change Calls _ _ #[ptr p, .string ⟨#[103]⟩, .string ⟨#[114, 101, 102, 115, 47, 104, 101, 97, 100, 115, 47, 98]⟩] _ _ at C7
  have E := eqI.1 (idK 3) (idK 3)
  have G := fun op a b => eqI.2 op a b (idK 3) (idK 3)
  simp only [decide_true] at E G
  obtain ⟨V3, hV3⟩ : ∃ V, V = idA (idK 3) := ⟨_, rfl⟩
  rw [← hV3] at C7 hk7 zs zi z1 E G b3 H6 ⊢
  obtain ⟨X6, hX6⟩ : ∃ X, X = w6.heap.size := ⟨_, rfl⟩
  have HV := Lib.hid hV3
  clear hV3 l7 hb6 hg7 hk7 hno H5
  go_upto_region 7 with (refine wpList_store_row rfl 42 _ _ rfl w6.heap.size V3 rfl rfl 42 Z hz7 zi zs z1 ?_)
  rw [← hX6] at H6 C7 ⊢
  clear hz7 zi zs z1 hX6
  generalize (w6.alloc (.cells Z 42)).setRow X6 V3 = w7 at *
  go_wp2_with fail
  refine C7.mono ?_
  clear C7
  rintro e w8 ⟨rfl, own8, hst8, ht8⟩
  have l8 := H6.out.1.turn hst8 ht8
  have hb8 := (turn_block ht8 H6.out.2.2 (lt_of_block H6.out.2.1)).1.trans H6.out.2.1
  have C8 := List_any l8.at_ (by rw [hfr]; exact ri5) (l8.max HM.out.1 HM.out.2).is (front := [103]) (by decide)
  rw [hfr, all5] at C8
  change Calls _ _ #[ptr p, .string ⟨#[103]⟩] _ (fun e w' => ∃ v, e = .returned (.tuple #[v, .int .i64 0]) ∧ OwnR encP 21 88 w8 w' v [ra 3]) at C8
  have H8 := Lib.hid (And.intro l8 hb8)
  clear hst8 ht8 l8 hb8 H6
  go_wp2_with fail
  refine C8.mono ?_
  clear C8
  rintro e w9 ⟨v, rfl, ho⟩
  obtain ⟨a, c, rfl, -, -⟩ := ho.rs tyP
  have l9 := H8.out.1.below ho.frame
  have hb9 := blockR_below H8.out.2 ho.frame
  have C9 := rightN_any naT (by decide) w9 (l9.max HM.out.1 HM.out.2).is
  rw [right_a] at C9
  change Calls _ _ #[.string ⟨#[114, 101, 102, 115, 47, 104, 101, 97, 100, 115, 47, 97]⟩] _ _ at C9
  have L9 := load_id arrG (by kernel_rfl) (idK 3) X6 0 w9 (idBox (by rw [HV.out] at hb9; exact hb9))
  rw [← HV.out] at L9
  have H9 := Lib.hid l9
  clear ho l9 hb9 H8
  change Calls _ _ _ _ _ at C9
  go_wp2_with (first | (refine wpList_load_g rfl _ _ rfl _ _ rfl L9 ?_) | (refine wpList_build_g rfl _ _ rfl [(0, .int .u8 3)] _ rfl (b3 _) ?_))
  refine C9.mono ?_
  clear C9 L9
  rintro e w10 ⟨rfl, hb10⟩
  have l10 := H9.out.below hb10
  have C10 := rightN_any dotsT (by decide) w10 (l10.max HM.out.1 HM.out.2).is
  rw [show rightN dotsT = false by kernel_rfl] at C10
  change Calls _ _ #[.string ⟨#[114, 101, 102, 115, 47, 97, 46, 46, 98]⟩] _ _ at C10
  have H10 := Lib.hid l10
  clear l10 hb10 H9
  go_wp2_with fail
  refine C10.mono ?_
  clear C10
  rintro e w11 ⟨rfl, hb11⟩
  have H11 := Lib.hid (H10.out.below hb11).frame
  clear hb11
  go_wp2_with fail
  go_ret
  exact ⟨rfl, H11.out⟩
end Go.Proofs.YtponfkfeflnilaaGreatDoor
namespace Go.Proofs.YtponfkfeflnilaaGreatDoor
open Go.RowKit Go.Proofs

theorem returnsInHanded_and_shaped {H : Type} {enc : TypeId × Value → H} {a : Assume} {C : Checked} {os : Os} {f : FuncId} {fn : Func} {s : ChangeSpec} {conds : List PathCond} {apart fresh handsOn again : Bool} {X : World → Array Value → Prop}
    (hX : ∀ (w w' : World) (args : Array Value), w.heap = w'.heap → X w args → X w' args)
    (own : ownKnob C.prog.godebug = none) (started : os.Started) (noInit : C.prog.inits.idxOf? f = none) (hfn : C.prog.funcs[f]? = some fn)
    (witness : ∃ (w : World) (tape : Tape) (i : Input), w.os = os ∧ (w.forCall tape i).Shaped C.prog ∧ i.vars = [] ∧ Input.okWide C.prog (w.forCall tape i) .any w.heap.size f i ∧
      ((s.pre enc C.prog fn conds apart (w.forCall tape i).memory i.args ∧ X (w.forCall tape i).memory i.args) ∧ sizedMet enc C.prog fn (OpenSpec.ofChange s) apart (w.forCall tape i).memory i.args) ∧ a.holds C.prog (lone (Frame.enter C.prog f i.args .normal) [] (w.forCall tape i)))
    (contract : ∀ (W : World) (base : Nat) (args : Array Value) (ds gs : List (DataW H)) (before : List MemPlace),
      (∀ (j : Nat) t v, fn.params[j]? = some t → args[j]? = some v → Value.okWide C.prog W .any base t v) →
      DataW.Whole enc C.prog fn.params.toList s.vars apart W args.toList ds gs before →
      conds.all (PathCond.test C.prog ⟨fn.params.toList, ds, s.plain.varTypes C.prog, gs⟩) = true →
      W.ShapedOpen C.prog → X W args →
      Calls C.prog f args W fun e W' => ∃ v, e = .returned v ∧ s.post enc C.prog fn apart fresh handsOn again W args v W') :
    ReturnsInHanded a C os f .any (fun w args => (s.pre enc C.prog fn conds apart w args ∧ X w args) ∧ sizedMet enc C.prog fn (OpenSpec.ofChange s) apart w args) (s.post enc C.prog fn apart fresh handsOn again) := by
  refine returnsInHanded_of_calls own started noInit witness ?_
  intro w tape i _ hsh _ hok hpre _
  obtain ⟨_, _, _, fn', hfn', _, _, _, _, hval⟩ := hok
  obtain rfl : fn' = fn := Option.some.inj (hfn'.symm.trans hfn)
  obtain ⟨⟨⟨ds, gs, before, hw, hc⟩, hx⟩, -⟩ := hpre
  have hw' := DataW.Whole.of_heap (w' := w.forCall tape i) (by rfl) hw
  refine (contract (w.forCall tape i) w.heap.size i.args ds gs before hval hw' hc hsh (hX _ _ _ (by rfl) hx)).mono fun e W' ⟨v, he, hp⟩ => ?_
  subst he
  exact ChangeSpec.post_blind hp
theorem maxIs_shaped {W : World} (h : W.ShapedOpen Tryz.prog) : MaxIs W :=
  cell_of_shapedOpen_int (P := Tryz.prog) (g := 0) (t := 3) (zero := #[.int .i64 0]) h (of_decide_eq_true (by kernel_rfl)) (by kernel_rfl) rfl (by kernel_rfl) (by kernel_rfl) Tryz.underlying3
end Go.Proofs.YtponfkfeflnilaaGreatDoor
