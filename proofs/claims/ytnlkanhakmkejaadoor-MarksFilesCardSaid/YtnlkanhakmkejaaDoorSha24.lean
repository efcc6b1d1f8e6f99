/-
  strings.Builder's writers at this program: the library's contracts, laid by hand (the type of 'any', which the shelf's own laying misses, among the numbers).
  Sums as text: sha.Hex and the document's Hex.
  Texts that are sums: the plain law.
  sha.Parse: the walk.
-/
import Derived.Shelf.Strings.Builder1
import Derived.Test.YtnlkanhakmkejaaDoorBase
import Derived.Test.YtnlkanhakmkejaaDoorShelfT
import Derived.Test.YtnlkanhakmkejaaDoorShelfB
import Derived.Test.YtnlkanhakmkejaaDoorPr24
import Derived.Test.YtnlkanhakmkejaaDoorAdd24
namespace Go.Proofs.YtnlkanhakmkejaaDoor
open Go.RowKit Go.Shelf Go.Proofs

def lays167_ren : Go.Shelf.Ren := ⟨fun | 167 => 56 | 240 => 55 | 276 => 68 | n => n, fun | 0 => 0 | 3 => 3 | 4 => 4 | 5 => 5 | 9 => 9 | 20 => 20 | 37 => 51 | 70 => 78 | 72 => 80 | 75 => 82 | 80 => 86 | 164 => 117 | n => n, fun | n => n⟩
theorem lays167 : Go.Proofs.Lays.n167 Tryd.prog lays167_ren where
  mixed := by kernel_rfl
  f167 := Tryd.func56.trans (congrArg some (by kernel_rfl))
  f240 := Tryd.func55.trans (congrArg some (by kernel_rfl))
  f276 := Tryd.func68.trans (congrArg some (by kernel_rfl))
  t0 := Tryd.underlying0
  a0 := Tryd.isAgg0
  z0 := Tryd.sizeOf0
  v0 := Tryd.zeroValue0
  t4 := Tryd.underlying4
  a4 := Tryd.isAgg4
  z4 := Tryd.sizeOf4
  v4 := Tryd.zeroValue4
  t5 := Tryd.underlying5
  a5 := Tryd.isAgg5
  z5 := Tryd.sizeOf5
  v5 := Tryd.zeroValue5
  t9 := Tryd.underlying9
  a9 := Tryd.isAgg9
  z9 := Tryd.sizeOf9
  v9 := Tryd.zeroValue9
  t20 := Tryd.underlying20
  a20 := Tryd.isAgg20
  z20 := Tryd.sizeOf20
  v20 := Tryd.zeroValue20
  t37 := Tryd.underlying51
  a37 := Tryd.isAgg51
  z37 := Tryd.sizeOf51
  v37 := Tryd.zeroValue51
  t70 := Tryd.underlying78
  a70 := Tryd.isAgg78
  z70 := Tryd.sizeOf78
  v70 := Tryd.zeroValue78
  t72 := Tryd.underlying80
  a72 := Tryd.isAgg80
  z72 := Tryd.sizeOf80
  v72 := Tryd.zeroValue80
  t75 := Tryd.underlying82
  a75 := Tryd.isAgg82
  z75 := Tryd.sizeOf82
  v75 := Tryd.zeroValue82
  t164 := Tryd.underlying117
  a164 := Tryd.isAgg117
  z164 := Tryd.sizeOf117
  v164 := Tryd.zeroValue117
theorem bldExtra167 : Builder.Extra Tryd.prog lays167_ren where
  sizeBuilder := by kernel_rfl
  liesBuilder := by kernel_rfl
  t5 := Tryd.underlying5
  a5 := Tryd.isAgg5
  z5 := Tryd.sizeOf5
  v5 := Tryd.zeroValue5
  infoByte := by kernel_rfl
  cellsByte := by kernel_rfl
  sizeByte := by kernel_rfl
  neB5 := by decide
def lays166_ren : Go.Shelf.Ren := ⟨fun | 166 => 31 | 240 => 55 | 276 => 68 | n => n, fun | 0 => 0 | 3 => 3 | 4 => 4 | 5 => 5 | 9 => 9 | 20 => 20 | 37 => 51 | 70 => 78 | 72 => 80 | 75 => 82 | 80 => 86 | 164 => 117 | n => n, fun | n => n⟩
theorem lays166 : Go.Proofs.Lays.n166 Tryd.prog lays166_ren where
  mixed := by kernel_rfl
  f166 := Tryd.func31.trans (congrArg some (by kernel_rfl))
  f240 := Tryd.func55.trans (congrArg some (by kernel_rfl))
  f276 := Tryd.func68.trans (congrArg some (by kernel_rfl))
  t0 := Tryd.underlying0
  a0 := Tryd.isAgg0
  z0 := Tryd.sizeOf0
  v0 := Tryd.zeroValue0
  t3 := Tryd.underlying3
  a3 := Tryd.isAgg3
  z3 := Tryd.sizeOf3
  v3 := Tryd.zeroValue3
  t4 := Tryd.underlying4
  a4 := Tryd.isAgg4
  z4 := Tryd.sizeOf4
  v4 := Tryd.zeroValue4
  t9 := Tryd.underlying9
  a9 := Tryd.isAgg9
  z9 := Tryd.sizeOf9
  v9 := Tryd.zeroValue9
  t20 := Tryd.underlying20
  a20 := Tryd.isAgg20
  z20 := Tryd.sizeOf20
  v20 := Tryd.zeroValue20
  t37 := Tryd.underlying51
  a37 := Tryd.isAgg51
  z37 := Tryd.sizeOf51
  v37 := Tryd.zeroValue51
  t70 := Tryd.underlying78
  a70 := Tryd.isAgg78
  z70 := Tryd.sizeOf78
  v70 := Tryd.zeroValue78
  t72 := Tryd.underlying80
  a72 := Tryd.isAgg80
  z72 := Tryd.sizeOf80
  v72 := Tryd.zeroValue80
  t75 := Tryd.underlying82
  a75 := Tryd.isAgg82
  z75 := Tryd.sizeOf82
  v75 := Tryd.zeroValue82
  t164 := Tryd.underlying117
  a164 := Tryd.isAgg117
  z164 := Tryd.sizeOf117
  v164 := Tryd.zeroValue117
theorem bldExtra166 : Builder.Extra Tryd.prog lays166_ren where
  sizeBuilder := by kernel_rfl
  liesBuilder := by kernel_rfl
  t5 := Tryd.underlying5
  a5 := Tryd.isAgg5
  z5 := Tryd.sizeOf5
  v5 := Tryd.zeroValue5
  infoByte := by kernel_rfl
  cellsByte := by kernel_rfl
  sizeByte := by kernel_rfl
  neB5 := by decide

abbrev Bld (B b : Nat) (bs : List UInt8) (w : World) : Prop := Lib.IsBuilder 80 5 B b (Lib.byteCells bs) w

theorem bld_new (w : World) : Bld w.heap.size w.heap.size [] (w.alloc (.cells #[.pointer none, .slice none 0 0] 80)) := Lib.fresh_isBuilder _ _ w

theorem Bld.later {B b : Nat} {bs : List UInt8} {w w' : World} (h : Bld B b bs w) (g : Below w.heap.size w w') : Bld B b bs w' := by
  have key : ∀ p, Lib.BuilderAt 80 5 B b p (Lib.byteCells bs) w → Lib.BuilderAt 80 5 B b p (Lib.byteCells bs) w' := fun p hp => by
    have hlt := hp.lt
    obtain ⟨hB, v, hb, hown, hne⟩ := hp
    refine ⟨hB, v, (g.block b hlt).trans hb, ?_, hne⟩
    refine World.ownsRow.kept hown (row := none) ⟨g.os, g.tape, g.output, g.size, fun k hk _ => g.block k hk⟩ ?_
    cases hv : v.ownBlock <;> simp
  exact h.imp (key _) (key _)

theorem bld_byte (B b : Nat) (bs : List UInt8) (c : UInt8) (w : World) (h : Bld B b bs w) (hlen : bs.length + 1 ≤ 140737488355328) (hBw : B ≤ w.heap.size) :
    Calls Tryd.prog 56 #[.pointer (some ⟨b, 0, none⟩), .int .u8 (c.toNat : Int)] w fun e w' => e = .returned .nilIface ∧ Bld B b (bs ++ [c]) w' ∧ Below B w w' :=
  (Any.Builder_WriteByte lays167 bldExtra167 B b (Lib.byteCells bs) (c.toNat : Int) w h (by simpa [Lib.byteCells] using hlen) hBw).mono fun e w' ⟨he, h1, h2⟩ =>
    ⟨he, .inr (by have e1 : Lib.byteCells (bs ++ [c]) = Lib.byteCells bs ++ [.int .u8 (c.toNat : Int)] := by simp [Lib.byteCells]
                  rw [e1]; exact h1), h2⟩

theorem bld_str (B b : Nat) (bs : List UInt8) (s : ByteArray) (w : World) (h : Bld B b bs w) (hlen : bs.length + s.size ≤ 140737488355328) (hBw : B ≤ w.heap.size) :
    Calls Tryd.prog 31 #[.pointer (some ⟨b, 0, none⟩), .string s] w fun e w' => e = .returned (.tuple #[.int .i64 s.size, .nilIface]) ∧ Bld B b (bs ++ s.data.toList) w' ∧ Below B w w' :=
  (Any.Builder_WriteString lays166 bldExtra166 B b (Lib.byteCells bs) s w h (by simpa [Lib.byteCells] using hlen) hBw).mono fun e w' ⟨he, h1, h2⟩ =>
    ⟨he, .inr (by have e1 : Lib.byteCells (bs ++ s.data.toList) = Lib.byteCells bs ++ Lib.strCells s := by simp [Lib.byteCells, Lib.strCells]
                  rw [e1]; exact h1), h2⟩

theorem range_boxB (w : World) (C : List Value) (t : TypeId) (j : Nat) (v : Value) (hj : C[j]? = some v) : (w.alloc (.cells C.toArray t)).cell? ⟨w.heap.size, 0 + j, none⟩ = some v := by
  have hb : (w.alloc (.cells C.toArray t)).heap[w.heap.size]? = some (.cells C.toArray t (0, 0)) := heap_alloc_last w _ _ rfl
  rw [cell_of_row _ _ _ _ _ _ hb, Nat.zero_add]
  simpa using hj
end Go.Proofs.YtnlkanhakmkejaaDoor
namespace Go.Proofs.YtnlkanhakmkejaaDoor
open Go.RowKit Go.Mix Go.WideMaps Go.Proofs

/-- A digit to the base 16. -/
def hexd (n : Nat) : UInt8 := if n < 10 then UInt8.ofNat (48 + n) else UInt8.ofNat (87 + n)
def hexL (l : List UInt8) : List UInt8 := l.flatMap fun b => [hexd (b.toNat / 16), hexd (b.toNat % 16)]
def hexS (x : Id20) : ByteArray := ⟨(hexL x.1).toArray⟩
theorem hexL_len : ∀ l : List UInt8, (hexL l).length = 2 * l.length
  | [] => rfl
  | _ :: l => by have := hexL_len l; simp only [hexL, List.flatMap_cons, List.length_append, List.length_cons, List.length_nil] at this ⊢; omega
theorem hexL_succ {l : List UInt8} {i : Nat} (h : i < l.length) : hexL (l.take (i + 1)) = hexL (l.take i) ++ [hexd (l[i].toNat / 16)] ++ [hexd (l[i].toNat % 16)] := by
  rw [List.take_add_one, List.getElem?_eq_getElem h]
  unfold hexL
  rw [List.flatMap_append, List.append_assoc]
  rfl

theorem index_id {k : TypeId} (A : ArrKey Tryd.prog k 5 20) (x : Id20) {i : Nat} (hi : i < x.1.length) (W : World) : (Instr.index k (.agg (idA x)) (.int .i64 (i : Int))).run Tryd.prog W = .ok (.int .u8 (x.1[i].toNat : Int)) W := by
  have hx := x.2
  have h20 : i < 20 := by omega
  have hz : ∀ w : World, (sizeOf 5).run Tryd.prog w = .ok 1 w := fun w => by kernel_rfl
  have ha : ∀ w : World, (isAgg 5).run Tryd.prog w = .ok false w := fun w => by kernel_rfl
  have hc : (0 ≤ (i : Int) ∧ (i : Int) < 20) := by omega
  simp [Instr.index, run_underlying A.hu, asIntOf, hc, hz, ha, go_sem]
  rw [if_pos h20]
  have e : (idA x)[i]? = some (.int .u8 (x.1[i].toNat : Int)) := by simp [idA, idc, bcells, hi]
  rw [e]
  rfl

def digS : ByteArray := ⟨#[48, 49, 50, 51, 52, 53, 54, 55, 56, 57, 97, 98, 99, 100, 101, 102]⟩
theorem digs_at : ∀ n : Fin 16, (digS[n.val]'(by have := n.2; simp [digS, ByteArray.size])) = hexd n.val := by decide
theorem index_dig {k : TypeId} (hu : Tryd.prog.underlying k = some .string) {n : Nat} (hn : n < 16) (W : World) : (Instr.index k (.string ⟨#[48, 49, 50, 51, 52, 53, 54, 55, 56, 57, 97, 98, 99, 100, 101, 102]⟩) (.int .u8 (n : Int))).run Tryd.prog W = .ok (.int .u8 ((hexd n).toNat : Int)) W := by
  have h : 0 ≤ (n : Int) ∧ (n : Int) < (digS.size : Int) := by simp [digS, ByteArray.size]; omega
  rw [show (⟨#[48, 49, 50, 51, 52, 53, 54, 55, 56, 57, 97, 98, 99, 100, 101, 102]⟩ : ByteArray) = digS from rfl, run_index_string _ _ _ _ _ hu, dif_pos h]
  have := digs_at ⟨n, hn⟩
  simp only [Int.toNat_natCast] at this ⊢
  rw [this]

theorem wpList_index_at {P : Program} {ops : Array Oper} {rest : List Oper} {o : Oper} {a : Act} {w : World} {Q : Exit → Act → World → Prop} (hgd : o.guard = none)
    (ty : TypeId) (x i : Operand) (hop : o.op = .index ty x i) (X I v : Value) (hx : a.eval x = X) (hi : a.eval i = I) (hl : (Instr.index ty X I).run P w = .ok v w)
    (h : wpList P ops Q rest (a.put o.dst v) w) : wpList P ops Q (o :: rest) a w :=
  wpList_plain hgd fun _ hK => by
    unfold Oper.wp execOp
    simp only [hop, hx, hi, Sem.run_bind, Sem.run_pure, Result.andThen_ok, hl]
    exact hK _ _ h

set_option maxRecDepth 100000 in
set_option maxHeartbeats 2000000 in
theorem hex_any (x : Id20) (w : World) : Calls Tryd.prog 32 #[.agg (idA x)] w fun e w' => e = .returned (.string (hexS x)) ∧ Below w.heap.size w w' := by
  have hr := range_boxB w (idc x) 46
  have L : ∀ y : World, Below (w.alloc (.cells (idA x) 46)).heap.size (w.alloc (.cells (idA x) 46)) y → (Instr.loadAt 46 (.pointer (some ⟨w.heap.size, 0, none⟩))).run Tryd.prog y = .ok (.agg (idA x)) y := fun y hy => tyG.loadId x _ _ _ (fun j v hj => (hy.cell (p := ⟨w.heap.size, 0 + j, none⟩) (by simp)).trans (hr j v hj))
  have L1 := L _ ((Below.refl _ _).alloc (Nat.le_refl _) (.cells #[.pointer none, .slice none 0 0] 80))
  clear L hr
  go_enter Tryd.func32, Tryd.ntmps32
  go_wp2_with (refine wpList_load_at rfl _ _ rfl _ _ rfl L1 ?_)
  go_loopw [7] (fun s7 wr => ∃ i : Nat, s7 = .int .i64 (i : Int) ∧ i ≤ 20 ∧ Bld (w.heap.size + 1) (w.heap.size + 1) (hexL (x.1.take i)) wr ∧ Below w.heap.size w wr) (fun s7 _ => 20 - (intOf s7).toNat)
  case atStart =>
    have h1 : (w.alloc (.cells (idA x) 46)).heap.size = w.heap.size + 1 := by simp
    have := bld_new (w.alloc (.cells (idA x) 46))
    rw [h1] at this
    exact ⟨0, rfl, by omega, this, ((Below.refl _ _).alloc (Nat.le_refl _) _).alloc (by simp) _⟩
  case round =>
    obtain ⟨i, rfl, hi, hbl, hb⟩ := hrel
    have hx := x.2
    by_cases hi20 : i < 20
    · have t1 : decide ((i : Int) < 20) = true := decide_eq_true (by omega)
      have t1' : decide (i < 20) = true := decide_eq_true (by omega)
      have hil : i < x.1.length := by omega
      have IX := fun W => index_id arrG x hil W
      have HS := Lib.hid (hexL_succ hil)
      generalize x.1[i] = c at *
      have hc := c.toNat_lt
      have D1 : ∀ W : World, (Instr.index 9 (.string ⟨#[48, 49, 50, 51, 52, 53, 54, 55, 56, 57, 97, 98, 99, 100, 101, 102]⟩) (.int .u8 ((c.toNat : Int) / 16))).run Tryd.prog W = .ok (.int .u8 ((hexd (c.toNat / 16)).toNat : Int)) W := fun W => by
        have := index_dig Tryd.underlying9 (n := c.toNat / 16) (by omega) W
        simpa using this
      have D2 : ∀ W : World, (Instr.index 9 (.string ⟨#[48, 49, 50, 51, 52, 53, 54, 55, 56, 57, 97, 98, 99, 100, 101, 102]⟩) (.int .u8 ((c.toNat : Int) % 16))).run Tryd.prog W = .ok (.int .u8 ((hexd (c.toNat % 16)).toNat : Int)) W := fun W => by
        have := index_dig Tryd.underlying9 (n := c.toNat % 16) (by omega) W
        simpa using this
      have hl : (hexL (x.1.take i)).length ≤ 40 := by rw [hexL_len, List.length_take]; omega
      have C1 := bld_byte _ _ _ (hexd (c.toNat / 16)) _ hbl (by omega) (by have := hb.size; have := hbl.elim (·.lt) (·.lt); omega)
      have HD2 := Lib.hid D2
      have HB := Lib.hid hb
      have HL := Lib.hid hl
      generalize hexL (x.1.take i) = acc at *
      generalize hexd (c.toNat / 16) = h1 at *
      generalize hexd (c.toNat % 16) = h2 at *
      clear D2 hbl hb hl hil
      go_wp2_with (refine wpList_index_at rfl _ _ _ rfl _ _ _ rfl rfl (D1 _) ?_)
      refine C1.mono ?_
      rintro e w2 ⟨rfl, hbl2, hb2⟩
      have hlt2 := hbl2.elim (·.lt) (·.lt)
      have C2 := bld_byte _ _ _ h2 _ hbl2 (by have := HL.out; simp; omega) (by omega)
      have D2 := HD2.out
      have HB2 := Lib.hid (HB.out.trans (hb2.mono (Nat.le_succ _)))
      clear hbl2 hb2 C1 D1 hlt2
      go_wp2_with (refine wpList_index_at rfl _ _ _ rfl _ _ _ rfl rfl (D2 _) ?_)
      refine C2.mono ?_
      rintro e w3 ⟨rfl, hbl3, hb3⟩
      rw [← HS.out] at hbl3
      have HB3 := Lib.hid (HB2.out.trans (hb3.mono (Nat.le_succ _)))
      clear C2 D2 hb3
      go_wp2_with fail
      go_roundw
      case rel => exact ⟨i + 1, by go_num, by omega, hbl3, HB3.out⟩
      case measure => simp [intOf]; omega
    · obtain rfl : i = 20 := by omega
      have t1 : decide (((20 : Nat) : Int) < 20) = false := rfl
      rw [List.take_of_length_le (by omega)] at hbl
      have C := Tryd.Builder_String_any _ _ _ _ hbl (by have := hbl.elim (·.lt) (·.lt); omega)
      have HB := Lib.hid hb
      clear hb hbl
      go_wp2_with fail
      refine C.mono ?_
      rintro e w2 ⟨rfl, hb2⟩
      have HB2 := Lib.hid (HB.out.trans (hb2.mono (Nat.le_succ _)))
      clear C hb2
      go_wp2_with fail
      go_ret
      exact ⟨rfl, HB2.out⟩
end Go.Proofs.YtnlkanhakmkejaaDoor
namespace Go.Proofs.YtnlkanhakmkejaaDoor
open Go.RowKit Go.Mix Go.WideMaps Go.Proofs

theorem hexd_inj : ∀ a b : Fin 16, hexd a.val = hexd b.val → a = b := by decide
theorem hexd_eq {a b : Nat} (ha : a < 16) (hb : b < 16) (h : hexd a = hexd b) : a = b := by
  have := hexd_inj ⟨a, ha⟩ ⟨b, hb⟩ h
  exact congrArg Fin.val this
theorem hexL_inj : ∀ l m : List UInt8, hexL l = hexL m → l = m
  | [], [], _ => rfl
  | [], _ :: _, h => by simp [hexL] at h
  | _ :: _, [], h => by simp [hexL] at h
  | a :: l, b :: m, h => by
    simp only [hexL, List.flatMap_cons, List.cons_append, List.nil_append, List.cons.injEq] at h
    obtain ⟨h1, h2, h3⟩ := h
    have e1 := hexd_eq (by have := a.toNat_lt; omega) (by have := b.toNat_lt; omega) h1
    have e2 := hexd_eq (by omega) (by omega) h2
    have : a = b := UInt8.toNat_inj.1 (by omega)
    rw [this, hexL_inj l m h3]

/-- The sum that a text is, if it is one. -/
noncomputable def unhex (s : List UInt8) : Option Id20 := open Classical in if h : ∃ x : Id20, s = hexL x.1 then some h.choose else none
theorem unhex_some {s : List UInt8} {x : Id20} (h : s = hexL x.1) : unhex s = some x := by
  have hx : ∃ x : Id20, s = hexL x.1 := ⟨x, h⟩
  unfold unhex
  rw [dif_pos hx]
  congr 1
  exact Subtype.ext (hexL_inj _ _ (hx.choose_spec.symm.trans h))
theorem unhex_none {s : List UInt8} (h : ∀ x : Id20, s ≠ hexL x.1) : unhex s = none := by
  unfold unhex
  rw [dif_neg fun ⟨x, hx⟩ => h x hx]
theorem unhex_cases (s : List UInt8) : (∃ x : Id20, s = hexL x.1 ∧ unhex s = some x) ∨ ((∀ x : Id20, s ≠ hexL x.1) ∧ unhex s = none) := by
  by_cases h : ∃ x : Id20, s = hexL x.1
  · obtain ⟨x, hx⟩ := h; exact .inl ⟨x, hx, unhex_some hx⟩
  · have h2 : ∀ x : Id20, s ≠ hexL x.1 := fun x hx => h ⟨x, hx⟩
    exact .inr ⟨h2, unhex_none h2⟩

theorem mem_hexL : ∀ {l : List UInt8} {c : UInt8}, c ∈ hexL l → ∃ d, d < 16 ∧ c = hexd d
  | [], _, h => by simp [hexL] at h
  | b :: l, c, h => by
    simp only [hexL, List.flatMap_cons, List.cons_append, List.nil_append, List.mem_cons] at h
    have hb := b.toNat_lt
    rcases h with h | h | h
    · exact ⟨_, by omega, h⟩
    · exact ⟨_, by omega, h⟩
    · exact mem_hexL h

/-- The byte k of what the digits ds make. -/
def nibs (ds : List Nat) (k : Nat) : Nat := if 2 * k + 1 < ds.length then 16 * ds.getD (2 * k) 0 + ds.getD (2 * k + 1) 0 else if 2 * k < ds.length then ds.getD (2 * k) 0 else 0
def accN (ds : List Nat) : List UInt8 := (List.range 20).map fun k => UInt8.ofNat (nibs ds k)
theorem accN_len (ds : List Nat) : (accN ds).length = 20 := by simp [accN]
theorem accN_get {ds : List Nat} {k : Nat} (h : k < (accN ds).length) : (accN ds)[k] = UInt8.ofNat (nibs ds k) := by simp [accN]
theorem accN_nil : accN [] = List.replicate 20 0 := by decide
theorem getD_lt {ds : List Nat} (h : ∀ d ∈ ds, d < 16) (k : Nat) : ds.getD k 0 < 16 := by
  rw [List.getD_eq_getElem?_getD]
  by_cases hk : k < ds.length
  · rw [List.getElem?_eq_getElem hk]; exact h _ (List.getElem_mem hk)
  · rw [List.getElem?_eq_none (by omega)]; decide
theorem nibs_lt {ds : List Nat} (h : ∀ d ∈ ds, d < 16) (k : Nat) : nibs ds k < 256 := by
  have h1 := getD_lt h (2 * k)
  have h2 := getD_lt h (2 * k + 1)
  unfold nibs; split
  · omega
  · split <;> omega
theorem getD_app {ds : List Nat} {n k : Nat} (h : k < ds.length) : (ds ++ [n]).getD k 0 = ds.getD k 0 := by
  rw [List.getD_eq_getElem?_getD, List.getElem?_append_left h, ← List.getD_eq_getElem?_getD]
theorem getD_last (ds : List Nat) (n : Nat) : (ds ++ [n]).getD ds.length 0 = n := by
  rw [List.getD_eq_getElem?_getD, List.getElem?_append_right (Nat.le_refl _)]; simp
/-- A digit more. -/
theorem nibs_half {ds : List Nat} (h : ∀ d ∈ ds, d < 16) : nibs ds (ds.length / 2) < 16 := by
  have h1 := getD_lt h (2 * (ds.length / 2))
  unfold nibs
  rw [if_neg (by omega)]
  split <;> omega
theorem accN_step {ds : List Nat} {n : Nat} :
    accN (ds ++ [n]) = (accN ds).set (ds.length / 2) (UInt8.ofNat (16 * nibs ds (ds.length / 2) + n)) := by
  refine List.ext_getElem (by simp [accN_len]) fun k h1 h2 => ?_
  rw [accN_get h1, List.getElem_set]
  have hk : k < 20 := by rw [accN_len] at h1; exact h1
  by_cases e : ds.length / 2 = k
  · rw [if_pos e]
    subst e
    congr 1
    rcases Nat.mod_two_eq_zero_or_one ds.length with hp | hp
    · have e2 : 2 * (ds.length / 2) = ds.length := by omega
      unfold nibs
      rw [e2, if_neg (by simp), if_pos (by simp), if_neg (by omega), if_neg (by omega), getD_last]; omega
    · have e2 : 2 * (ds.length / 2) + 1 = ds.length := by omega
      unfold nibs
      rw [e2, if_pos (by simp), if_neg (by omega), if_pos (by omega), getD_last, getD_app (by omega)]
  · rw [if_neg e, accN_get (by rw [accN_len]; exact hk)]
    congr 1
    unfold nibs
    simp only [List.length_append, List.length_singleton]
    by_cases c1 : 2 * k + 1 < ds.length
    · rw [if_pos (by omega), if_pos c1, getD_app (by omega), getD_app c1]
    · rw [if_neg (by omega), if_neg c1, if_neg (by omega), if_neg (by omega)]
theorem accN_zero {ds : List Nat} {k : Nat} (h : ds.length ≤ 2 * k) : nibs ds k = 0 := by
  unfold nibs; rw [if_neg (by omega), if_neg (by omega)]

theorem hexL_get : ∀ {l : List UInt8} {k : Nat} (h : k < l.length), (hexL l)[2 * k]? = some (hexd (l[k].toNat / 16)) ∧ (hexL l)[2 * k + 1]? = some (hexd (l[k].toNat % 16))
  | [], _, h => absurd h (Nat.not_lt_zero _)
  | b :: l, 0, _ => ⟨rfl, rfl⟩
  | b :: l, k + 1, h => by
    have := hexL_get (l := l) (k := k) (by simpa using h)
    have e : hexL (b :: l) = [hexd (b.toNat / 16), hexd (b.toNat % 16)] ++ hexL l := by simp [hexL]
    rw [e, show 2 * (k + 1) = 2 + 2 * k by omega, show 2 + 2 * k + 1 = 2 + (2 * k + 1) by omega]
    refine ⟨?_, ?_⟩
    · rw [List.getElem?_append_right (by simp)]; simpa using this.1
    · rw [List.getElem?_append_right (by simp)]
      simp only [List.length_cons, List.length_nil, List.getElem_cons_succ]
      rw [show 2 + (2 * k + 1) - (0 + 1 + 1) = 2 * k + 1 by omega]
      exact this.2
theorem hexL_acc {ds : List Nat} (h : ∀ d ∈ ds, d < 16) (hl : ds.length = 40) : hexL (accN ds) = ds.map hexd := by
  refine List.ext_getElem? fun j => ?_
  by_cases hj : j < 40
  · have hk : j / 2 < (accN ds).length := by rw [accN_len]; omega
    obtain ⟨g1, g2⟩ := hexL_get hk
    have e := accN_get hk
    have h1 := getD_lt h (2 * (j / 2))
    have h2 := getD_lt h (2 * (j / 2) + 1)
    have en : nibs ds (j / 2) = 16 * ds.getD (2 * (j / 2)) 0 + ds.getD (2 * (j / 2) + 1) 0 := by unfold nibs; rw [if_pos (by omega)]
    have et : ((accN ds)[j / 2]).toNat = 16 * ds.getD (2 * (j / 2)) 0 + ds.getD (2 * (j / 2) + 1) 0 := by
      rw [e, UInt8.toNat_ofNat', en]; omega
    have hm : (ds.map hexd)[j]? = some (hexd (ds.getD j 0)) := by
      rw [List.getElem?_map, List.getD_eq_getElem?_getD, List.getElem?_eq_getElem (by omega)]; rfl
    rw [hm]
    rcases Nat.mod_two_eq_zero_or_one j with hp | hp
    · have e2 : 2 * (j / 2) = j := by omega
      rw [e2] at g1 h1 et h2
      rw [g1, et]
      congr 2; omega
    · have e2 : 2 * (j / 2) + 1 = j := by omega
      rw [e2] at g2 h2 et
      rw [g2, et]
      congr 2; omega
  · rw [List.getElem?_eq_none (by rw [hexL_len, accN_len]; omega), List.getElem?_eq_none (by simp; omega)]

theorem take_at {α : Type} {l : List α} {i : Nat} (h : i < l.length) : l.take (i + 1) = l.take i ++ [l[i]] := by
  rw [List.take_add_one, List.getElem?_eq_getElem h]; rfl

def digL : List UInt8 := [48, 49, 50, 51, 52, 53, 54, 55, 56, 57, 97, 98, 99, 100, 101, 102]
theorem dig_all : ∀ c : Fin 256, (Lib.indexByte digL (UInt8.ofNat c.val) = -1 ∧ ∀ d : Fin 16, hexd d.val ≠ UInt8.ofNat c.val) ∨ ∃ d : Fin 16, Lib.indexByte digL (UInt8.ofNat c.val) = (d.val : Int) ∧ hexd d.val = UInt8.ofNat c.val := by decide +kernel
theorem dig_cases (c : UInt8) : (Lib.indexByte digL c = -1 ∧ ∀ d, d < 16 → hexd d ≠ c) ∨ ∃ d : Nat, d < 16 ∧ Lib.indexByte digL c = (d : Int) ∧ hexd d = c := by
  have h := dig_all ⟨c.toNat, c.toNat_lt⟩
  simp only [UInt8.ofNat_toNat] at h
  rcases h with ⟨h1, h2⟩ | ⟨d, h1, h2⟩
  · exact .inl ⟨h1, fun d hd => h2 ⟨d, hd⟩⟩
  · exact .inr ⟨d.val, d.2, h1, h2⟩
end Go.Proofs.YtnlkanhakmkejaaDoor
namespace Go.Proofs.YtnlkanhakmkejaaDoor
open Go.RowKit Go.Mix Go.WideMaps Go.Proofs

noncomputable def shaX (s : List UInt8) : Id20 := (unhex s).getD id0
noncomputable def shaE (s : List UInt8) : Int := if (unhex s).isSome then 0 else 4

theorem bcells_set (l : List UInt8) (k : Nat) (c : UInt8) : bcells (l.set k c) = (bcells l).set k (.int .u8 (c.toNat : Int)) := by
  unfold bcells; rw [List.map_set]

/-- An array of bytes in a block of its own. -/
def ArrB (w : World) (b : Nat) (t : TypeId) (l : List UInt8) : Prop := w.heap[b]? = some (.cells (bcells l).toArray t (0, 0))
theorem ArrB.cell {w : World} {b k : Nat} {t : TypeId} {l : List UInt8} (h : ArrB w b t l) (hk : k < l.length) : w.cell? ⟨b, k, none⟩ = some (.int .u8 (l[k].toNat : Int)) := by
  rw [Lib.cell_of_heap h]; simp [bcells, hk]
theorem ArrB.free {w : World} {b k : Nat} {t : TypeId} {l : List UInt8} (h : ArrB w b t l) : w.frozen? ⟨b, k, none⟩ = false := Lib.frozen_of_heap h k
theorem ArrB.set {w : World} {b : Nat} {t : TypeId} {l : List UInt8} (h : ArrB w b t l) (k : Nat) (c : UInt8) : ArrB (w.setCell ⟨b, k, none⟩ (.int .u8 (c.toNat : Int))) b t (l.set k c) := by
  unfold ArrB at *
  simp [World.setCell, Array.getElem?_modify, h, bcells_set]

theorem str_index {k : TypeId} (hu : Tryd.prog.underlying k = some .string) (s : ByteArray) {i : Nat} (hi : i < s.data.toList.length) (W : World) : (Instr.index k (.string s) (.int .i64 (i : Int))).run Tryd.prog W = .ok (.int .u8 ((s.data.toList[i]).toNat : Int)) W := by
  have hs : s.size = s.data.toList.length := Array.length_toList.symm
  have h : 0 ≤ (i : Int) ∧ (i : Int) < (s.size : Int) := by omega
  rw [run_index_string _ _ _ _ _ hu, dif_pos h]
  simp only [Int.toNat_natCast]
  rfl

theorem or_digit : ∀ v d : Fin 16, bits .or .u8 ((v.val : Int) * 16) (d.val : Int) = ((UInt8.ofNat (16 * v.val + d.val)).toNat : Int) := by decide +kernel
theorem unhex_len {l : List UInt8} (h : l.length ≠ 40) : unhex l = none := unhex_none fun x hx => h (by rw [hx, hexL_len, x.2])
theorem unhex_dig {l : List UInt8} {c : UInt8} (hc : c ∈ l) (h : ∀ d, d < 16 → hexd d ≠ c) : unhex l = none := unhex_none fun x hx => by
  rw [hx] at hc
  obtain ⟨d, hd, e⟩ := mem_hexL hc
  exact h d hd e.symm
theorem unhex_acc {l : List UInt8} {ds : List Nat} (h : ∀ d ∈ ds, d < 16) (hl : ds.length = 40) (e : l = ds.map hexd) : unhex l = some ⟨accN ds, accN_len ds⟩ := unhex_some (by rw [e, ← hexL_acc h hl])

set_option maxRecDepth 100000 in
set_option maxHeartbeats 2000000 in
theorem shaParse_any (s : ByteArray) (w : World) : Calls Tryd.prog 46 #[.string s] w fun e w' => e = .returned (.tuple #[.agg (idA (shaX s.data.toList)), .int .i64 (shaE s.data.toList)]) ∧ Below w.heap.size w w' := by
  obtain ⟨l, hl⟩ : ∃ l, l = s.data.toList := ⟨_, rfl⟩
  have hsz : s.size = l.length := by rw [hl]; exact Array.length_toList.symm
  have SX : ∀ (i : Nat) (hi : i < l.length) (W : World), (Instr.index 9 (.string s) (.int .i64 (i : Int))).run Tryd.prog W = .ok (.int .u8 ((l[i]).toNat : Int)) W := fun i hi W => by subst hl; exact str_index Tryd.underlying9 s hi W
  have HSX := Lib.hid SX
  rw [← hl]
  obtain ⟨Z, hZ⟩ : ∃ Z, Z = idA id0 := ⟨_, rfl⟩
  have z : ∀ w, (zeroValue 46).run Tryd.prog w = .ok (.agg Z) w := fun w => by rw [hZ]; kernel_rfl
  have bz : ∀ w, (Instr.build 46 ([] : List (Nat × Value)).toArray).run Tryd.prog w = .ok (.agg Z) w := fun w => by rw [hZ]; kernel_rfl
  have HZ := Lib.hid hZ
  have zi : (Tryd.prog.info? 46).map (·.size) = some Z.size := by rw [hZ, show (idA id0).size = 20 by simp [idA, idc_len]]; exact tyG.fi
  have z1 : Z.all (·.oneCell') = true := by rw [hZ]; exact all_oneCell_toArray (bcells_one _)
  have HZI := Lib.hid (And.intro zi z1)
  have HL := Lib.hid (And.intro hl hsz)
  clear SX hZ zi z1 hl hsz
  go_enter Tryd.func46, Tryd.ntmps46
  by_cases h40 : l.length = 40
  · have hk0 : ((w.alloc (.cells Z 46)).alloc (.cells Z 46)).heap[w.heap.size]? = some (.cells Z 46 (0, 0)) := by
      rw [Below.block ((Below.refl _ _).alloc (Nat.le_refl _) _) _ (by simp)]; exact heap_alloc_last _ _ _ rfl
    have hk1 : ArrB ((w.alloc (.cells Z 46)).alloc (.cells Z 46)) (w.heap.size + 1) 46 (accN []) := by
      unfold ArrB; rw [accN_nil]
      have := heap_alloc_last (w.alloc (.cells Z 46)) (.cells Z 46) (w.heap.size + 1) (by simp)
      rw [this, HZ.out]; rfl
    have hb0 : Below w.heap.size w ((w.alloc (.cells Z 46)).alloc (.cells Z 46)) := ((Below.refl _ _).alloc (Nat.le_refl _) _).alloc (by simp) _
    have hs40 : s.size = 40 := by rw [HL.out.2, h40]
    go_wp2_with fail
    go_loopw [13] (fun s13 wr => ∃ (i : Nat) (ds : List Nat), s13 = .int .i64 (i : Int) ∧ i ≤ 40 ∧ ds.length = i ∧ (∀ d ∈ ds, d < 16) ∧ l.take i = ds.map hexd ∧ ArrB wr (w.heap.size + 1) 46 (accN ds) ∧ wr.heap[w.heap.size]? = some (.cells Z 46 (0, 0)) ∧ Below w.heap.size w wr) (fun s13 _ => 40 - (intOf s13).toNat)
    case atStart => exact ⟨0, [], rfl, by omega, rfl, by simp, by simp, hk1, hk0, hb0⟩
    case round =>
      clear hk0 hk1 hb0
      obtain ⟨i, ds, rfl, hi, hdl, hd16, htk, harr, hres, hb⟩ := hrel
      have HD := Lib.hid (And.intro hdl (And.intro hd16 htk))
      have HA := Lib.hid harr
      have HR := Lib.hid hres
      have HB := Lib.hid hb
      clear hdl hd16 htk harr hres hb
      by_cases hi40 : i < 40
      · have t1 : decide ((i : Int) < 40) = true := decide_eq_true (by omega)
        have t1' : decide (i < 40) = true := decide_eq_true (by omega)
        have hil : i < l.length := by omega
        have IX := HSX.out i hil
        have HC := Lib.hid (dig_cases l[i])
        have HT := Lib.hid (take_at hil)
        have HM := Lib.hid (List.getElem_mem hil)
        have C1 := Tryd.strings_IndexByte ⟨#[48, 49, 50, 51, 52, 53, 54, 55, 56, 57, 97, 98, 99, 100, 101, 102]⟩ (l[i].toNat : Int)
        simp only [Int.toNat_natCast, Nat.toUInt8_eq, UInt8.ofNat_toNat] at C1
        change ∀ w, Calls _ _ _ w fun e w' => e = .returned (.int .i64 (Lib.indexByte digL l[i])) ∧ w' = w at C1
        generalize l[i] = c at *
        go_wp2_with (refine wpList_index_at rfl _ _ _ rfl _ _ _ rfl rfl (IX _) ?_)
        refine (C1 _).mono ?_
        rintro e w2 ⟨rfl, rfl⟩
        rcases HC.out with ⟨hn, hno⟩ | ⟨d, hd, hn, hc⟩
        · rw [hn]
          have hno2 : unhex l = none := unhex_dig (by have := HM.out; exact this) hno
          have hX : shaX l = id0 ∧ shaE l = 4 := by unfold shaX shaE; rw [hno2]; exact ⟨rfl, rfl⟩
          have HX := Lib.hid hX
          have hres := HR.out
          have zi := HZI.out.1
          have z1 := HZI.out.2
          clear hno hno2 hX C1 IX hn
          go_wp2_with (first | (refine wpList_build_at rfl _ _ rfl [] _ rfl (bz _) ?_) | (refine wpList_store_row rfl 46 _ _ rfl w.heap.size Z rfl rfl 46 Z hres zi rfl z1 ?_))
          refine bodyPost_ret (results_cell_tmp rfl _ _ w.heap.size 46 Z (0, 0) _ rfl (setRow_heap _ _ _ _ _ _ hres) Tryd.underlying46 rfl zi) rfl ?_
          rw [HX.out.1, HX.out.2, ← HZ.out]
          exact ⟨rfl, below_setRow HB.out (Nat.le_refl _) _⟩
        · rw [hn]
          have t2 : decide ((d : Int) < 0) = false := decide_eq_false (by omega)
          have hv := nibs_half HD.out.2.1
          rw [HD.out.1] at hv
          have cell := HA.out.cell (k := i / 2) (by rw [accN_len]; omega)
          have fr := HA.out.free (k := i / 2)
          rw [accN_get, UInt8.toNat_ofNat', Nat.mod_eq_of_lt (by omega)] at cell
          have HV := Lib.hid (show accN (ds ++ [d]) = (accN ds).set (i / 2) (UInt8.ofNat (16 * nibs ds (i / 2) + d)) by rw [accN_step, HD.out.1])
          generalize nibs ds (i / 2) = v at *
          go_wp2_with fail
          have ho := or_digit ⟨v, hv⟩ ⟨d, hd⟩
          simp only [] at ho
          rw [ho]
          have harr2 := HA.out.set (i / 2) (UInt8.ofNat (16 * v + d))
          rw [← HV.out] at harr2
          refine ⟨⟨i + 1, ds ++ [d], by go_num, by omega, by rw [List.length_append, HD.out.1]; rfl, ?_, ?_, harr2, ?_, HB.out.setCell (by simp) _⟩, ?_⟩
          · intro x hx
            rcases List.mem_append.1 hx with h | h
            · exact HD.out.2.1 x h
            · rw [List.mem_singleton] at h; omega
          · rw [HT.out, HD.out.2.2, List.map_append, ← hc]; rfl
          · rw [Below.heap_setCell _ _ _ _ (by simp)]; exact HR.out
          · simp [intOf]; omega
      · obtain rfl : i = 40 := by omega
        have t1 : decide (((40 : Nat) : Int) < 40) = false := rfl
        have hlt : l = ds.map hexd := by rw [← HD.out.2.2, List.take_of_length_le (by omega)]
        have hX := unhex_acc HD.out.2.1 HD.out.1 hlt
        have hX2 : shaX l = ⟨accN ds, accN_len ds⟩ ∧ shaE l = 0 := by unfold shaX shaE; rw [hX]; exact ⟨rfl, rfl⟩
        have HX := Lib.hid hX2
        obtain ⟨V, hV⟩ : ∃ V, V = idA ⟨accN ds, accN_len ds⟩ := ⟨_, rfl⟩
        have hres := HR.out
        have harr : wr.heap[w.heap.size + 1]? = some (.cells V 46 (0, 0)) := by rw [hV]; exact HA.out
        have vi : (Tryd.prog.info? 46).map (·.size) = some V.size := by rw [hV, show (idA ⟨accN ds, accN_len ds⟩).size = 20 by simp [idA, idc_len]]; exact tyG.fi
        have v1 : V.all (·.oneCell') = true := by rw [hV]; exact all_oneCell_toArray (bcells_one _)
        have zs : Z.size = V.size := by rw [hV, HZ.out]; simp [idA, idc_len]
        have L : (Instr.loadAt 46 (.pointer (some ⟨w.heap.size + 1, 0, none⟩))).run Tryd.prog wr = .ok (.agg V) wr := by
          simp only [Instr.loadAt, Instr.sureAddr, Sem.run_bind, Sem.run_pure, Result.andThen_ok]
          exact run_loadVar_row _ _ 46 _ _ (0, 0) _ harr Tryd.underlying46 rfl vi
        have HVV := Lib.hid hV
        clear hX hX2 hV hlt
        go_wp2_with (first | (refine wpList_load_at rfl _ _ rfl _ _ rfl L ?_) | (refine wpList_store_row rfl 46 _ _ rfl w.heap.size V rfl rfl 46 Z hres vi zs v1 ?_))
        refine bodyPost_ret (results_cell_tmp rfl _ _ w.heap.size 46 V (0, 0) _ rfl (setRow_heap _ _ _ _ _ _ hres) Tryd.underlying46 rfl vi) rfl ?_
        rw [HX.out.1, HX.out.2, ← HVV.out]
        exact ⟨rfl, below_setRow HB.out (Nat.le_refl _) _⟩
  · have hk0 : ((w.alloc (.cells Z 46)).alloc (.cells Z 46)).heap[w.heap.size]? = some (.cells Z 46 (0, 0)) := by
      rw [Below.block ((Below.refl _ _).alloc (Nat.le_refl _) _) _ (by simp)]; exact heap_alloc_last _ _ _ rfl
    have hb0 : Below w.heap.size w ((w.alloc (.cells Z 46)).alloc (.cells Z 46)) := ((Below.refl _ _).alloc (Nat.le_refl _) _).alloc (by simp) _
    have tt : ((s.size : Int) != 40) = true := by rw [bne_iff_ne]; have := HL.out.2; omega
    have tt' : (s.size != 40) = true := by rw [bne_iff_ne]; have := HL.out.2; omega
    have hno2 := unhex_len h40
    have hX : shaX l = id0 ∧ shaE l = 4 := by unfold shaX shaE; rw [hno2]; exact ⟨rfl, rfl⟩
    have HX := Lib.hid hX
    have zi := HZI.out.1
    have z1 := HZI.out.2
    have HB0 := Lib.hid hb0
    clear hno2 hX hb0
    go_wp2_with (first | (refine wpList_build_at rfl _ _ rfl [] _ rfl (bz _) ?_) | (refine wpList_store_row rfl 46 _ _ rfl w.heap.size Z rfl rfl 46 Z hk0 zi rfl z1 ?_))
    refine bodyPost_ret (results_cell_tmp rfl _ _ w.heap.size 46 Z (0, 0) _ rfl (setRow_heap _ _ _ _ _ _ hk0) Tryd.underlying46 rfl zi) rfl ?_
    rw [HX.out.1, HX.out.2, ← HZ.out]
    exact ⟨rfl, below_setRow HB0.out (Nat.le_refl _) _⟩
end Go.Proofs.YtnlkanhakmkejaaDoor
