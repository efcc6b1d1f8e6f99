/-
  strings.Builder's writers at this program: the library's contracts, laid by hand (the type of 'any', which the shelf's own laying misses, among the numbers).
  A function's results of which one lies in a block.
  'append(b, text...)', b bytes of the call's own.
  Sums as text: sha.Hex and the document's Hex.
  Texts that are sums: the plain law.
  sha.Parse: the walk.
  The document's Hex: the walk.
  The document's Parse of a sum: the walk.
  strings.Cut at a separator of one byte: the walk.
-/
import Derived.Shelf.Strings.Builder1
import Derived.Test.YtponfkfeflnilaaGreatDoorMaBas
import Derived.Test.YtponfkfeflnilaaGreatDoorMaRec
import Derived.Lib.AppendStr
import Derived.Test.YtponfkfeflnilaaGreatDoorShelfT
import Derived.Lib.IndexLaws
import Derived.OwnWalk
namespace Go.Proofs.YtponfkfeflnilaaGreatDoor
open Go.RowKit Go.Shelf Go.Proofs

def lays167_ren : Go.Shelf.Ren := ⟨fun | 167 => 100 | 240 => 83 | 276 => 113 | n => n, fun | 0 => 0 | 3 => 3 | 4 => 4 | 5 => 5 | 9 => 9 | 20 => 20 | 37 => 24 | 70 => 92 | 72 => 94 | 75 => 96 | 80 => 100 | 164 => 155 | n => n, fun | n => n⟩
theorem lays167 : Go.Proofs.Lays.n167 Tryz.prog lays167_ren where
  mixed := by kernel_rfl
  f167 := Tryz.func100.trans (congrArg some (by kernel_rfl))
  f240 := Tryz.func83.trans (congrArg some (by kernel_rfl))
  f276 := Tryz.func113.trans (congrArg some (by kernel_rfl))
  t0 := Tryz.underlying0
  a0 := Tryz.isAgg0
  z0 := Tryz.sizeOf0
  v0 := Tryz.zeroValue0
  t4 := Tryz.underlying4
  a4 := Tryz.isAgg4
  z4 := Tryz.sizeOf4
  v4 := Tryz.zeroValue4
  t5 := Tryz.underlying5
  a5 := Tryz.isAgg5
  z5 := Tryz.sizeOf5
  v5 := Tryz.zeroValue5
  t9 := Tryz.underlying9
  a9 := Tryz.isAgg9
  z9 := Tryz.sizeOf9
  v9 := Tryz.zeroValue9
  t20 := Tryz.underlying20
  a20 := Tryz.isAgg20
  z20 := Tryz.sizeOf20
  v20 := Tryz.zeroValue20
  t37 := Tryz.underlying24
  a37 := Tryz.isAgg24
  z37 := Tryz.sizeOf24
  v37 := Tryz.zeroValue24
  t70 := Tryz.underlying92
  a70 := Tryz.isAgg92
  z70 := Tryz.sizeOf92
  v70 := Tryz.zeroValue92
  t72 := Tryz.underlying94
  a72 := Tryz.isAgg94
  z72 := Tryz.sizeOf94
  v72 := Tryz.zeroValue94
  t75 := Tryz.underlying96
  a75 := Tryz.isAgg96
  z75 := Tryz.sizeOf96
  v75 := Tryz.zeroValue96
  t164 := Tryz.underlying155
  a164 := Tryz.isAgg155
  z164 := Tryz.sizeOf155
  v164 := Tryz.zeroValue155
theorem bldExtra167 : Builder.Extra Tryz.prog lays167_ren where
  sizeBuilder := by kernel_rfl
  liesBuilder := by kernel_rfl
  t5 := Tryz.underlying5
  a5 := Tryz.isAgg5
  z5 := Tryz.sizeOf5
  v5 := Tryz.zeroValue5
  infoByte := by kernel_rfl
  cellsByte := by kernel_rfl
  sizeByte := by kernel_rfl
  neB5 := by decide
def lays166_ren : Go.Shelf.Ren := ⟨fun | 166 => 49 | 240 => 83 | 276 => 113 | n => n, fun | 0 => 0 | 3 => 3 | 4 => 4 | 5 => 5 | 9 => 9 | 20 => 20 | 37 => 24 | 70 => 92 | 72 => 94 | 75 => 96 | 80 => 100 | 164 => 155 | n => n, fun | n => n⟩
theorem lays166 : Go.Proofs.Lays.n166 Tryz.prog lays166_ren where
  mixed := by kernel_rfl
  f166 := Tryz.func49.trans (congrArg some (by kernel_rfl))
  f240 := Tryz.func83.trans (congrArg some (by kernel_rfl))
  f276 := Tryz.func113.trans (congrArg some (by kernel_rfl))
  t0 := Tryz.underlying0
  a0 := Tryz.isAgg0
  z0 := Tryz.sizeOf0
  v0 := Tryz.zeroValue0
  t3 := Tryz.underlying3
  a3 := Tryz.isAgg3
  z3 := Tryz.sizeOf3
  v3 := Tryz.zeroValue3
  t4 := Tryz.underlying4
  a4 := Tryz.isAgg4
  z4 := Tryz.sizeOf4
  v4 := Tryz.zeroValue4
  t9 := Tryz.underlying9
  a9 := Tryz.isAgg9
  z9 := Tryz.sizeOf9
  v9 := Tryz.zeroValue9
  t20 := Tryz.underlying20
  a20 := Tryz.isAgg20
  z20 := Tryz.sizeOf20
  v20 := Tryz.zeroValue20
  t37 := Tryz.underlying24
  a37 := Tryz.isAgg24
  z37 := Tryz.sizeOf24
  v37 := Tryz.zeroValue24
  t70 := Tryz.underlying92
  a70 := Tryz.isAgg92
  z70 := Tryz.sizeOf92
  v70 := Tryz.zeroValue92
  t72 := Tryz.underlying94
  a72 := Tryz.isAgg94
  z72 := Tryz.sizeOf94
  v72 := Tryz.zeroValue94
  t75 := Tryz.underlying96
  a75 := Tryz.isAgg96
  z75 := Tryz.sizeOf96
  v75 := Tryz.zeroValue96
  t164 := Tryz.underlying155
  a164 := Tryz.isAgg155
  z164 := Tryz.sizeOf155
  v164 := Tryz.zeroValue155
theorem bldExtra166 : Builder.Extra Tryz.prog lays166_ren where
  sizeBuilder := by kernel_rfl
  liesBuilder := by kernel_rfl
  t5 := Tryz.underlying5
  a5 := Tryz.isAgg5
  z5 := Tryz.sizeOf5
  v5 := Tryz.zeroValue5
  infoByte := by kernel_rfl
  cellsByte := by kernel_rfl
  sizeByte := by kernel_rfl
  neB5 := by decide

abbrev Bld (B b : Nat) (bs : List UInt8) (w : World) : Prop := Lib.IsBuilder 94 5 B b (Lib.byteCells bs) w

theorem bld_new (w : World) : Bld w.heap.size w.heap.size [] (w.alloc (.cells #[.pointer none, .slice none 0 0] 94)) := Lib.fresh_isBuilder _ _ w

theorem Bld.later {B b : Nat} {bs : List UInt8} {w w' : World} (h : Bld B b bs w) (g : Below w.heap.size w w') : Bld B b bs w' := by
  have key : ∀ p, Lib.BuilderAt 94 5 B b p (Lib.byteCells bs) w → Lib.BuilderAt 94 5 B b p (Lib.byteCells bs) w' := fun p hp => by
    have hlt := hp.lt
    obtain ⟨hB, v, hb, hown, hne⟩ := hp
    refine ⟨hB, v, (g.block b hlt).trans hb, ?_, hne⟩
    refine World.ownsRow.kept hown (row := none) ⟨g.os, g.tape, g.output, g.size, fun k hk _ => g.block k hk⟩ ?_
    cases hv : v.ownBlock <;> simp
  exact h.imp (key _) (key _)

theorem bld_byte (B b : Nat) (bs : List UInt8) (c : UInt8) (w : World) (h : Bld B b bs w) (hlen : bs.length + 1 ≤ 140737488355328) (hBw : B ≤ w.heap.size) :
    Calls Tryz.prog 100 #[.pointer (some ⟨b, 0, none⟩), .int .u8 (c.toNat : Int)] w fun e w' => e = .returned .nilIface ∧ Bld B b (bs ++ [c]) w' ∧ Below B w w' :=
  (Any.Builder_WriteByte lays167 bldExtra167 B b (Lib.byteCells bs) (c.toNat : Int) w h (by simpa [Lib.byteCells] using hlen) hBw).mono fun e w' ⟨he, h1, h2⟩ =>
    ⟨he, .inr (by have e1 : Lib.byteCells (bs ++ [c]) = Lib.byteCells bs ++ [.int .u8 (c.toNat : Int)] := by simp [Lib.byteCells]
                  rw [e1]; exact h1), h2⟩

theorem bld_str (B b : Nat) (bs : List UInt8) (s : ByteArray) (w : World) (h : Bld B b bs w) (hlen : bs.length + s.size ≤ 140737488355328) (hBw : B ≤ w.heap.size) :
    Calls Tryz.prog 49 #[.pointer (some ⟨b, 0, none⟩), .string s] w fun e w' => e = .returned (.tuple #[.int .i64 s.size, .nilIface]) ∧ Bld B b (bs ++ s.data.toList) w' ∧ Below B w w' :=
  (Any.Builder_WriteString lays166 bldExtra166 B b (Lib.byteCells bs) s w h (by simpa [Lib.byteCells] using hlen) hBw).mono fun e w' ⟨he, h1, h2⟩ =>
    ⟨he, .inr (by have e1 : Lib.byteCells (bs ++ s.data.toList) = Lib.byteCells bs ++ Lib.strCells s := by simp [Lib.byteCells, Lib.strCells]
                  rw [e1]; exact h1), h2⟩

theorem range_boxB (w : World) (C : List Value) (t : TypeId) (j : Nat) (v : Value) (hj : C[j]? = some v) : (w.alloc (.cells C.toArray t)).cell? ⟨w.heap.size, 0 + j, none⟩ = some v := by
  have hb : (w.alloc (.cells C.toArray t)).heap[w.heap.size]? = some (.cells C.toArray t (0, 0)) := heap_alloc_last w _ _ rfl
  rw [cell_of_row _ _ _ _ _ _ hb, Nat.zero_add]
  simpa using hj
end Go.Proofs.YtponfkfeflnilaaGreatDoor
namespace Go.Proofs.YtponfkfeflnilaaGreatDoor
open Go.RowKit Go.Mix Go.WideMaps

theorem results_cell_tmp {P : Program} {fn : Func} {p t : Tmp} {ty : TypeId} (h : fn.results = #[.cell p ty, .tmp t]) (tmps : Array Value) (w : World) (g : Nat) (te : TypeId) (cs : Array Value) (fr : Nat × Nat) (d : TypeDesc)
    (hp : tmps.getD p undef = .pointer (some ⟨g, 0, none⟩)) (hg : w.heap[g]? = some (.cells cs te fr))
    (hu : P.underlying ty = some d) (hd : (match d with | .struct _ | .array _ _ => true | _ => false) = true) (hi : (P.info? ty).map (·.size) = some cs.size) :
    (results fn tmps).run P w = .ok (.tuple #[.agg cs, tmps.getD t undef]) w := by
  have hp' : tmps[p]?.getD undef = .pointer (some ⟨g, 0, none⟩) := by simpa using hp
  simp [results, h, hp', asAddr, run_loadVar_row w g te ty cs fr d hg hu hd hi]
end Go.Proofs.YtponfkfeflnilaaGreatDoor
namespace Go.Proofs.YtponfkfeflnilaaGreatDoor
open Go.RowKit Go.Mix

theorem strCells_strOf (l : List UInt8) : Lib.strCells (strOf l) = bcells l := by
  simp [Lib.strCells, strOf, bcells]
theorem wpList_append_text {w : World} {ops : Array Oper} {rest : List Oper} {o : Oper} {a : Act} {Q : Exit → Act → World → Prop} (hgd : o.guard = none) (s x : Operand)
    (ho : o.op = .call { callee := .builtin .append, args := #[s, x], argTypes := #[24, 9] })
    {B : Nat} {w0 : World} (v : Value) (xs : List UInt8) (hs : a.eval s = v) (hb : Buf B w0 w v xs) (l : List UInt8) (hx : a.eval x = .string (strOf l))
    (hlen : xs.length + l.length ≤ 1000000000)
    (h : ∀ v' w', Buf B w0 w' v' (xs ++ l) → w.grownBy w' v.ownBlock → wpList Tryz.prog ops Q rest (a.put o.dst v') w') : wpList Tryz.prog ops Q (o :: rest) a w := by
  obtain ⟨i, hi, hz0, hz1, hz2⟩ := info_parts infoByte
  refine Lib.wpList_append_own_string (P := Tryz.prog) w hgd s x 24 9 ho B 5 i Tryz.underlying24 Tryz.underlying9 hi hz0 hz1 hz2 v xs.length (bcells xs) hs hb.1 (strOf l) hx (by rw [strOf_size]; unfold maxLen; omega) (by rw [strOf_size]; omega) hb.le ?_
  intro v' w' h1 h2 _
  refine h v' w' (hb.grown ?_ h2) h2
  unfold OwnB
  rw [bcells_append, List.length_append]
  rw [strCells_strOf, strOf_size] at h1
  exact h1
end Go.Proofs.YtponfkfeflnilaaGreatDoor
namespace Go.Proofs.YtponfkfeflnilaaGreatDoor
open Go.RowKit Go.Mix Go.WideMaps Go.Proofs

/-- A digit to the base 16. -/
def hexd (n : Nat) : UInt8 := if n < 10 then UInt8.ofNat (48 + n) else UInt8.ofNat (87 + n)
def hexL (l : List UInt8) : List UInt8 := l.flatMap fun b => [hexd (b.toNat / 16), hexd (b.toNat % 16)]
def hexS (x : Id20) : ByteArray := ⟨(hexL x.1).toArray⟩
theorem hexL_len : ∀ l : List UInt8, (hexL l).length = 2 * l.length
  | [] => rfl
  | _ :: l => by have := hexL_len l; simp only [hexL, List.flatMap_cons, List.length_append, List.length_cons, List.length_nil] at this ⊢; omega
theorem hexL_succ {l : List UInt8} {i : Nat} (h : i < l.length) : hexL (l.take (i + 1)) = hexL (l.take i) ++ [hexd (l[i].toNat / 16)] ++ [hexd (l[i].toNat % 16)] := by
  rw [List.take_add_one, List.getElem?_eq_getElem h]
  unfold hexL
  rw [List.flatMap_append, List.append_assoc]
  rfl

theorem index_id {k : TypeId} (A : ArrKey Tryz.prog k 5 20) (x : Id20) {i : Nat} (hi : i < x.1.length) (W : World) : (Instr.index k (.agg (idA x)) (.int .i64 (i : Int))).run Tryz.prog W = .ok (.int .u8 (x.1[i].toNat : Int)) W := by
  have hx := x.2
  have h20 : i < 20 := by omega
  have hz : ∀ w : World, (sizeOf 5).run Tryz.prog w = .ok 1 w := fun w => by kernel_rfl
  have ha : ∀ w : World, (isAgg 5).run Tryz.prog w = .ok false w := fun w => by kernel_rfl
  have hc : (0 ≤ (i : Int) ∧ (i : Int) < 20) := by omega
  simp [Instr.index, run_underlying A.hu, asIntOf, hc, hz, ha, go_sem]
  rw [if_pos h20]
  have e : (idA x)[i]? = some (.int .u8 (x.1[i].toNat : Int)) := by simp [idA, idc, bcells, hi]
  rw [e]
  rfl

def digS : ByteArray := ⟨#[48, 49, 50, 51, 52, 53, 54, 55, 56, 57, 97, 98, 99, 100, 101, 102]⟩
theorem digs_at : ∀ n : Fin 16, (digS[n.val]'(by have := n.2; simp [digS, ByteArray.size])) = hexd n.val := by decide
theorem index_dig {k : TypeId} (hu : Tryz.prog.underlying k = some .string) {n : Nat} (hn : n < 16) (W : World) : (Instr.index k (.string ⟨#[48, 49, 50, 51, 52, 53, 54, 55, 56, 57, 97, 98, 99, 100, 101, 102]⟩) (.int .u8 (n : Int))).run Tryz.prog W = .ok (.int .u8 ((hexd n).toNat : Int)) W := by
  have h : 0 ≤ (n : Int) ∧ (n : Int) < (digS.size : Int) := by simp [digS, ByteArray.size]; omega
  rw [show (⟨#[48, 49, 50, 51, 52, 53, 54, 55, 56, 57, 97, 98, 99, 100, 101, 102]⟩ : ByteArray) = digS from rfl, run_index_string _ _ _ _ _ hu, dif_pos h]
  have := digs_at ⟨n, hn⟩
  simp only [Int.toNat_natCast] at this ⊢
  rw [this]

set_option maxRecDepth 100000 in
set_option maxHeartbeats 2000000 in
theorem hex_any (x : Id20) (w : World) : Calls Tryz.prog 61 #[.agg (idA x)] w fun e w' => e = .returned (.string (hexS x)) ∧ Below w.heap.size w w' := by
  have hr := range_boxB w (idc x) 42
  have L : ∀ y : World, Below (w.alloc (.cells (idA x) 42)).heap.size (w.alloc (.cells (idA x) 42)) y → (Instr.loadAt 42 (.pointer (some ⟨w.heap.size, 0, none⟩))).run Tryz.prog y = .ok (.agg (idA x)) y := fun y hy => load_id arrG (by kernel_rfl) x _ _ _ (fun j v hj => (hy.cell (p := ⟨w.heap.size, 0 + j, none⟩) (by simp)).trans (hr j v hj))
  have L1 := L _ ((Below.refl _ _).alloc (Nat.le_refl _) (.cells #[.pointer none, .slice none 0 0] 94))
  clear L hr
  go_enter Tryz.func61, Tryz.ntmps61
  go_wp2_with (refine wpList_load_at rfl _ _ rfl _ _ rfl L1 ?_)
  go_loopw [7] (fun s7 wr => ∃ i : Nat, s7 = .int .i64 (i : Int) ∧ i ≤ 20 ∧ Bld (w.heap.size + 1) (w.heap.size + 1) (hexL (x.1.take i)) wr ∧ Below w.heap.size w wr) (fun s7 _ => 20 - (intOf s7).toNat)
  case atStart =>
    have h1 : (w.alloc (.cells (idA x) 42)).heap.size = w.heap.size + 1 := by simp
    have := bld_new (w.alloc (.cells (idA x) 42))
    rw [h1] at this
    exact ⟨0, rfl, by omega, this, ((Below.refl _ _).alloc (Nat.le_refl _) _).alloc (by simp) _⟩
  case round =>
    obtain ⟨i, rfl, hi, hbl, hb⟩ := hrel
    have hx := x.2
    by_cases hi20 : i < 20
    · have t1 : decide ((i : Int) < 20) = true := decide_eq_true (by omega)
      have t1' : decide (i < 20) = true := decide_eq_true (by omega)
      have hil : i < x.1.length := by omega
      have IX := fun W => index_id arrG x hil W
      have HS := Lib.hid (hexL_succ hil)
      generalize x.1[i] = c at *
      have hc := c.toNat_lt
      have D1 : ∀ W : World, (Instr.index 9 (.string ⟨#[48, 49, 50, 51, 52, 53, 54, 55, 56, 57, 97, 98, 99, 100, 101, 102]⟩) (.int .u8 ((c.toNat : Int) / 16))).run Tryz.prog W = .ok (.int .u8 ((hexd (c.toNat / 16)).toNat : Int)) W := fun W => by
        have := index_dig Tryz.underlying9 (n := c.toNat / 16) (by omega) W
        simpa using this
      have D2 : ∀ W : World, (Instr.index 9 (.string ⟨#[48, 49, 50, 51, 52, 53, 54, 55, 56, 57, 97, 98, 99, 100, 101, 102]⟩) (.int .u8 ((c.toNat : Int) % 16))).run Tryz.prog W = .ok (.int .u8 ((hexd (c.toNat % 16)).toNat : Int)) W := fun W => by
        have := index_dig Tryz.underlying9 (n := c.toNat % 16) (by omega) W
        simpa using this
      have hl : (hexL (x.1.take i)).length ≤ 40 := by rw [hexL_len, List.length_take]; omega
      have C1 := bld_byte _ _ _ (hexd (c.toNat / 16)) _ hbl (by omega) (by have := hb.size; have := hbl.elim (·.lt) (·.lt); omega)
      have HD2 := Lib.hid D2
      have HB := Lib.hid hb
      have HL := Lib.hid hl
      generalize hexL (x.1.take i) = acc at *
      generalize hexd (c.toNat / 16) = h1 at *
      generalize hexd (c.toNat % 16) = h2 at *
      clear D2 hbl hb hl hil
      go_wp2_with (refine wpList_index_at rfl _ _ _ rfl _ _ _ rfl rfl (D1 _) ?_)
      refine C1.mono ?_
      rintro e w2 ⟨rfl, hbl2, hb2⟩
      have hlt2 := hbl2.elim (·.lt) (·.lt)
      have C2 := bld_byte _ _ _ h2 _ hbl2 (by have := HL.out; simp; omega) (by omega)
      have D2 := HD2.out
      have HB2 := Lib.hid (HB.out.trans (hb2.mono (Nat.le_succ _)))
      clear hbl2 hb2 C1 D1 hlt2
      go_wp2_with (refine wpList_index_at rfl _ _ _ rfl _ _ _ rfl rfl (D2 _) ?_)
      refine C2.mono ?_
      rintro e w3 ⟨rfl, hbl3, hb3⟩
      rw [← HS.out] at hbl3
      have HB3 := Lib.hid (HB2.out.trans (hb3.mono (Nat.le_succ _)))
      clear C2 D2 hb3
      go_wp2_with fail
      go_roundw
      case rel => exact ⟨i + 1, by go_num, by omega, hbl3, HB3.out⟩
      case measure => simp [intOf]; omega
    · obtain rfl : i = 20 := by omega
      have t1 : decide (((20 : Nat) : Int) < 20) = false := rfl
      rw [List.take_of_length_le (by omega)] at hbl
      have C := Tryz.Builder_String_any _ _ _ _ hbl (by have := hbl.elim (·.lt) (·.lt); omega)
      have HB := Lib.hid hb
      clear hb hbl
      go_wp2_with fail
      refine C.mono ?_
      rintro e w2 ⟨rfl, hb2⟩
      have HB2 := Lib.hid (HB.out.trans (hb2.mono (Nat.le_succ _)))
      clear C hb2
      go_wp2_with fail
      go_ret
      exact ⟨rfl, HB2.out⟩
end Go.Proofs.YtponfkfeflnilaaGreatDoor
namespace Go.Proofs.YtponfkfeflnilaaGreatDoor
open Go.RowKit Go.Mix Go.WideMaps Go.Proofs

theorem hexd_inj : ∀ a b : Fin 16, hexd a.val = hexd b.val → a = b := by decide
theorem hexd_eq {a b : Nat} (ha : a < 16) (hb : b < 16) (h : hexd a = hexd b) : a = b := by
  have := hexd_inj ⟨a, ha⟩ ⟨b, hb⟩ h
  exact congrArg Fin.val this
theorem hexL_inj : ∀ l m : List UInt8, hexL l = hexL m → l = m
  | [], [], _ => rfl
  | [], _ :: _, h => by simp [hexL] at h
  | _ :: _, [], h => by simp [hexL] at h
  | a :: l, b :: m, h => by
    simp only [hexL, List.flatMap_cons, List.cons_append, List.nil_append, List.cons.injEq] at h
    obtain ⟨h1, h2, h3⟩ := h
    have e1 := hexd_eq (by have := a.toNat_lt; omega) (by have := b.toNat_lt; omega) h1
    have e2 := hexd_eq (by omega) (by omega) h2
    have : a = b := UInt8.toNat_inj.1 (by omega)
    rw [this, hexL_inj l m h3]

/-- The sum that a text is, if it is one. -/
noncomputable def unhex (s : List UInt8) : Option Id20 := open Classical in if h : ∃ x : Id20, s = hexL x.1 then some h.choose else none
theorem unhex_some {s : List UInt8} {x : Id20} (h : s = hexL x.1) : unhex s = some x := by
  have hx : ∃ x : Id20, s = hexL x.1 := ⟨x, h⟩
  unfold unhex
  rw [dif_pos hx]
  congr 1
  exact Subtype.ext (hexL_inj _ _ (hx.choose_spec.symm.trans h))
theorem unhex_none {s : List UInt8} (h : ∀ x : Id20, s ≠ hexL x.1) : unhex s = none := by
  unfold unhex
  rw [dif_neg fun ⟨x, hx⟩ => h x hx]
theorem unhex_cases (s : List UInt8) : (∃ x : Id20, s = hexL x.1 ∧ unhex s = some x) ∨ ((∀ x : Id20, s ≠ hexL x.1) ∧ unhex s = none) := by
  by_cases h : ∃ x : Id20, s = hexL x.1
  · obtain ⟨x, hx⟩ := h; exact .inl ⟨x, hx, unhex_some hx⟩
  · have h2 : ∀ x : Id20, s ≠ hexL x.1 := fun x hx => h ⟨x, hx⟩
    exact .inr ⟨h2, unhex_none h2⟩

theorem mem_hexL : ∀ {l : List UInt8} {c : UInt8}, c ∈ hexL l → ∃ d, d < 16 ∧ c = hexd d
  | [], _, h => by simp [hexL] at h
  | b :: l, c, h => by
    simp only [hexL, List.flatMap_cons, List.cons_append, List.nil_append, List.mem_cons] at h
    have hb := b.toNat_lt
    rcases h with h | h | h
    · exact ⟨_, by omega, h⟩
    · exact ⟨_, by omega, h⟩
    · exact mem_hexL h

/-- The byte k of what the digits ds make. -/
def nibs (ds : List Nat) (k : Nat) : Nat := if 2 * k + 1 < ds.length then 16 * ds.getD (2 * k) 0 + ds.getD (2 * k + 1) 0 else if 2 * k < ds.length then ds.getD (2 * k) 0 else 0
def accN (ds : List Nat) : List UInt8 := (List.range 20).map fun k => UInt8.ofNat (nibs ds k)
theorem accN_len (ds : List Nat) : (accN ds).length = 20 := by simp [accN]
theorem accN_get {ds : List Nat} {k : Nat} (h : k < (accN ds).length) : (accN ds)[k] = UInt8.ofNat (nibs ds k) := by simp [accN]
theorem accN_nil : accN [] = List.replicate 20 0 := by decide
theorem getD_lt {ds : List Nat} (h : ∀ d ∈ ds, d < 16) (k : Nat) : ds.getD k 0 < 16 := by
  rw [List.getD_eq_getElem?_getD]
  by_cases hk : k < ds.length
  · rw [List.getElem?_eq_getElem hk]; exact h _ (List.getElem_mem hk)
  · rw [List.getElem?_eq_none (by omega)]; decide
theorem nibs_lt {ds : List Nat} (h : ∀ d ∈ ds, d < 16) (k : Nat) : nibs ds k < 256 := by
  have h1 := getD_lt h (2 * k)
  have h2 := getD_lt h (2 * k + 1)
  unfold nibs; split
  · omega
  · split <;> omega
theorem getD_app {ds : List Nat} {n k : Nat} (h : k < ds.length) : (ds ++ [n]).getD k 0 = ds.getD k 0 := by
  rw [List.getD_eq_getElem?_getD, List.getElem?_append_left h, ← List.getD_eq_getElem?_getD]
theorem getD_last (ds : List Nat) (n : Nat) : (ds ++ [n]).getD ds.length 0 = n := by
  rw [List.getD_eq_getElem?_getD, List.getElem?_append_right (Nat.le_refl _)]; simp
/-- A digit more. -/
theorem nibs_half {ds : List Nat} (h : ∀ d ∈ ds, d < 16) : nibs ds (ds.length / 2) < 16 := by
  have h1 := getD_lt h (2 * (ds.length / 2))
  unfold nibs
  rw [if_neg (by omega)]
  split <;> omega
theorem accN_step {ds : List Nat} {n : Nat} :
    accN (ds ++ [n]) = (accN ds).set (ds.length / 2) (UInt8.ofNat (16 * nibs ds (ds.length / 2) + n)) := by
  refine List.ext_getElem (by simp [accN_len]) fun k h1 h2 => ?_
  rw [accN_get h1, List.getElem_set]
  have hk : k < 20 := by rw [accN_len] at h1; exact h1
  by_cases e : ds.length / 2 = k
  · rw [if_pos e]
    subst e
    congr 1
    rcases Nat.mod_two_eq_zero_or_one ds.length with hp | hp
    · have e2 : 2 * (ds.length / 2) = ds.length := by omega
      unfold nibs
      rw [e2, if_neg (by simp), if_pos (by simp), if_neg (by omega), if_neg (by omega), getD_last]; omega
    · have e2 : 2 * (ds.length / 2) + 1 = ds.length := by omega
      unfold nibs
      rw [e2, if_pos (by simp), if_neg (by omega), if_pos (by omega), getD_last, getD_app (by omega)]
  · rw [if_neg e, accN_get (by rw [accN_len]; exact hk)]
    congr 1
    unfold nibs
    simp only [List.length_append, List.length_singleton]
    by_cases c1 : 2 * k + 1 < ds.length
    · rw [if_pos (by omega), if_pos c1, getD_app (by omega), getD_app c1]
    · rw [if_neg (by omega), if_neg c1, if_neg (by omega), if_neg (by omega)]
theorem accN_zero {ds : List Nat} {k : Nat} (h : ds.length ≤ 2 * k) : nibs ds k = 0 := by
  unfold nibs; rw [if_neg (by omega), if_neg (by omega)]

theorem hexL_get : ∀ {l : List UInt8} {k : Nat} (h : k < l.length), (hexL l)[2 * k]? = some (hexd (l[k].toNat / 16)) ∧ (hexL l)[2 * k + 1]? = some (hexd (l[k].toNat % 16))
  | [], _, h => absurd h (Nat.not_lt_zero _)
  | b :: l, 0, _ => ⟨rfl, rfl⟩
  | b :: l, k + 1, h => by
    have := hexL_get (l := l) (k := k) (by simpa using h)
    have e : hexL (b :: l) = [hexd (b.toNat / 16), hexd (b.toNat % 16)] ++ hexL l := by simp [hexL]
    rw [e, show 2 * (k + 1) = 2 + 2 * k by omega, show 2 + 2 * k + 1 = 2 + (2 * k + 1) by omega]
    refine ⟨?_, ?_⟩
    · rw [List.getElem?_append_right (by simp)]; simpa using this.1
    · rw [List.getElem?_append_right (by simp)]
      simp only [List.length_cons, List.length_nil, List.getElem_cons_succ]
      rw [show 2 + (2 * k + 1) - (0 + 1 + 1) = 2 * k + 1 by omega]
      exact this.2
theorem hexL_acc {ds : List Nat} (h : ∀ d ∈ ds, d < 16) (hl : ds.length = 40) : hexL (accN ds) = ds.map hexd := by
  refine List.ext_getElem? fun j => ?_
  by_cases hj : j < 40
  · have hk : j / 2 < (accN ds).length := by rw [accN_len]; omega
    obtain ⟨g1, g2⟩ := hexL_get hk
    have e := accN_get hk
    have h1 := getD_lt h (2 * (j / 2))
    have h2 := getD_lt h (2 * (j / 2) + 1)
    have en : nibs ds (j / 2) = 16 * ds.getD (2 * (j / 2)) 0 + ds.getD (2 * (j / 2) + 1) 0 := by unfold nibs; rw [if_pos (by omega)]
    have et : ((accN ds)[j / 2]).toNat = 16 * ds.getD (2 * (j / 2)) 0 + ds.getD (2 * (j / 2) + 1) 0 := by
      rw [e, UInt8.toNat_ofNat', en]; omega
    have hm : (ds.map hexd)[j]? = some (hexd (ds.getD j 0)) := by
      rw [List.getElem?_map, List.getD_eq_getElem?_getD, List.getElem?_eq_getElem (by omega)]; rfl
    rw [hm]
    rcases Nat.mod_two_eq_zero_or_one j with hp | hp
    · have e2 : 2 * (j / 2) = j := by omega
      rw [e2] at g1 h1 et h2
      rw [g1, et]
      congr 2; omega
    · have e2 : 2 * (j / 2) + 1 = j := by omega
      rw [e2] at g2 h2 et
      rw [g2, et]
      congr 2; omega
  · rw [List.getElem?_eq_none (by rw [hexL_len, accN_len]; omega), List.getElem?_eq_none (by simp; omega)]

theorem take_at {α : Type} {l : List α} {i : Nat} (h : i < l.length) : l.take (i + 1) = l.take i ++ [l[i]] := by
  rw [List.take_add_one, List.getElem?_eq_getElem h]; rfl

def digL : List UInt8 := [48, 49, 50, 51, 52, 53, 54, 55, 56, 57, 97, 98, 99, 100, 101, 102]
theorem dig_all : ∀ c : Fin 256, (Lib.indexByte digL (UInt8.ofNat c.val) = -1 ∧ ∀ d : Fin 16, hexd d.val ≠ UInt8.ofNat c.val) ∨ ∃ d : Fin 16, Lib.indexByte digL (UInt8.ofNat c.val) = (d.val : Int) ∧ hexd d.val = UInt8.ofNat c.val := by decide +kernel
theorem dig_cases (c : UInt8) : (Lib.indexByte digL c = -1 ∧ ∀ d, d < 16 → hexd d ≠ c) ∨ ∃ d : Nat, d < 16 ∧ Lib.indexByte digL c = (d : Int) ∧ hexd d = c := by
  have h := dig_all ⟨c.toNat, c.toNat_lt⟩
  simp only [UInt8.ofNat_toNat] at h
  rcases h with ⟨h1, h2⟩ | ⟨d, h1, h2⟩
  · exact .inl ⟨h1, fun d hd => h2 ⟨d, hd⟩⟩
  · exact .inr ⟨d.val, d.2, h1, h2⟩
end Go.Proofs.YtponfkfeflnilaaGreatDoor
namespace Go.Proofs.YtponfkfeflnilaaGreatDoor
open Go.RowKit Go.Mix Go.WideMaps Go.Proofs

noncomputable def shaX (s : List UInt8) : Id20 := (unhex s).getD id0
noncomputable def shaE (s : List UInt8) : Int := if (unhex s).isSome then 0 else 4

theorem bcells_set (l : List UInt8) (k : Nat) (c : UInt8) : bcells (l.set k c) = (bcells l).set k (.int .u8 (c.toNat : Int)) := by
  unfold bcells; rw [List.map_set]

/-- An array of bytes in a block of its own. -/
def ArrB (w : World) (b : Nat) (t : TypeId) (l : List UInt8) : Prop := w.heap[b]? = some (.cells (bcells l).toArray t (0, 0))
theorem ArrB.cell {w : World} {b k : Nat} {t : TypeId} {l : List UInt8} (h : ArrB w b t l) (hk : k < l.length) : w.cell? ⟨b, k, none⟩ = some (.int .u8 (l[k].toNat : Int)) := by
  rw [Lib.cell_of_heap h]; simp [bcells, hk]
theorem ArrB.free {w : World} {b k : Nat} {t : TypeId} {l : List UInt8} (h : ArrB w b t l) : w.frozen? ⟨b, k, none⟩ = false := Lib.frozen_of_heap h k
theorem ArrB.set {w : World} {b : Nat} {t : TypeId} {l : List UInt8} (h : ArrB w b t l) (k : Nat) (c : UInt8) : ArrB (w.setCell ⟨b, k, none⟩ (.int .u8 (c.toNat : Int))) b t (l.set k c) := by
  unfold ArrB at *
  simp [World.setCell, Array.getElem?_modify, h, bcells_set]

theorem str_index {k : TypeId} (hu : Tryz.prog.underlying k = some .string) (s : ByteArray) {i : Nat} (hi : i < s.data.toList.length) (W : World) : (Instr.index k (.string s) (.int .i64 (i : Int))).run Tryz.prog W = .ok (.int .u8 ((s.data.toList[i]).toNat : Int)) W := by
  have hs : s.size = s.data.toList.length := Array.length_toList.symm
  have h : 0 ≤ (i : Int) ∧ (i : Int) < (s.size : Int) := by omega
  rw [run_index_string _ _ _ _ _ hu, dif_pos h]
  simp only [Int.toNat_natCast]
  rfl

theorem or_digit : ∀ v d : Fin 16, bits .or .u8 ((v.val : Int) * 16) (d.val : Int) = ((UInt8.ofNat (16 * v.val + d.val)).toNat : Int) := by decide +kernel
theorem unhex_len {l : List UInt8} (h : l.length ≠ 40) : unhex l = none := unhex_none fun x hx => h (by rw [hx, hexL_len, x.2])
theorem unhex_dig {l : List UInt8} {c : UInt8} (hc : c ∈ l) (h : ∀ d, d < 16 → hexd d ≠ c) : unhex l = none := unhex_none fun x hx => by
  rw [hx] at hc
  obtain ⟨d, hd, e⟩ := mem_hexL hc
  exact h d hd e.symm
theorem unhex_acc {l : List UInt8} {ds : List Nat} (h : ∀ d ∈ ds, d < 16) (hl : ds.length = 40) (e : l = ds.map hexd) : unhex l = some ⟨accN ds, accN_len ds⟩ := unhex_some (by rw [e, ← hexL_acc h hl])

set_option maxRecDepth 100000 in
set_option maxHeartbeats 2000000 in
theorem shaParse_any (s : ByteArray) (w : World) : Calls Tryz.prog 46 #[.string s] w fun e w' => e = .returned (.tuple #[.agg (idA (shaX s.data.toList)), .int .i64 (shaE s.data.toList)]) ∧ Below w.heap.size w w' := by
  obtain ⟨l, hl⟩ : ∃ l, l = s.data.toList := ⟨_, rfl⟩
  have hsz : s.size = l.length := by rw [hl]; exact Array.length_toList.symm
  have SX : ∀ (i : Nat) (hi : i < l.length) (W : World), (Instr.index 9 (.string s) (.int .i64 (i : Int))).run Tryz.prog W = .ok (.int .u8 ((l[i]).toNat : Int)) W := fun i hi W => by subst hl; exact str_index Tryz.underlying9 s hi W
  have HSX := Lib.hid SX
  rw [← hl]
  obtain ⟨Z, hZ⟩ : ∃ Z, Z = idA id0 := ⟨_, rfl⟩
  have z : ∀ w, (zeroValue 42).run Tryz.prog w = .ok (.agg Z) w := fun w => by rw [hZ]; kernel_rfl
  have bz : ∀ w, (Instr.build 42 ([] : List (Nat × Value)).toArray).run Tryz.prog w = .ok (.agg Z) w := fun w => by rw [hZ]; kernel_rfl
  have HZ := Lib.hid hZ
  have zi : (Tryz.prog.info? 42).map (·.size) = some Z.size := by rw [hZ, show (idA id0).size = 20 by simp [idA, idc_len]]; kernel_rfl
  have z1 : Z.all (·.oneCell') = true := by rw [hZ]; exact all_oneCell_toArray (bcells_one _)
  have HZI := Lib.hid (And.intro zi z1)
  have HL := Lib.hid (And.intro hl hsz)
  clear SX hZ zi z1 hl hsz
  go_enter Tryz.func46, Tryz.ntmps46
  by_cases h40 : l.length = 40
  · have hk0 : ((w.alloc (.cells Z 42)).alloc (.cells Z 42)).heap[w.heap.size]? = some (.cells Z 42 (0, 0)) := by
      rw [Below.block ((Below.refl _ _).alloc (Nat.le_refl _) _) _ (by simp)]; exact heap_alloc_last _ _ _ rfl
    have hk1 : ArrB ((w.alloc (.cells Z 42)).alloc (.cells Z 42)) (w.heap.size + 1) 42 (accN []) := by
      unfold ArrB; rw [accN_nil]
      have := heap_alloc_last (w.alloc (.cells Z 42)) (.cells Z 42) (w.heap.size + 1) (by simp)
      rw [this, HZ.out]; rfl
    have hb0 : Below w.heap.size w ((w.alloc (.cells Z 42)).alloc (.cells Z 42)) := ((Below.refl _ _).alloc (Nat.le_refl _) _).alloc (by simp) _
    have hs40 : s.size = 40 := by rw [HL.out.2, h40]
    go_wp2_with fail
    go_loopw [13] (fun s13 wr => ∃ (i : Nat) (ds : List Nat), s13 = .int .i64 (i : Int) ∧ i ≤ 40 ∧ ds.length = i ∧ (∀ d ∈ ds, d < 16) ∧ l.take i = ds.map hexd ∧ ArrB wr (w.heap.size + 1) 42 (accN ds) ∧ wr.heap[w.heap.size]? = some (.cells Z 42 (0, 0)) ∧ Below w.heap.size w wr) (fun s13 _ => 40 - (intOf s13).toNat)
    case atStart => exact ⟨0, [], rfl, by omega, rfl, by simp, by simp, hk1, hk0, hb0⟩
    case round =>
      clear hk0 hk1 hb0
      obtain ⟨i, ds, rfl, hi, hdl, hd16, htk, harr, hres, hb⟩ := hrel
      have HD := Lib.hid (And.intro hdl (And.intro hd16 htk))
      have HA := Lib.hid harr
      have HR := Lib.hid hres
      have HB := Lib.hid hb
      clear hdl hd16 htk harr hres hb
      by_cases hi40 : i < 40
      · have t1 : decide ((i : Int) < 40) = true := decide_eq_true (by omega)
        have t1' : decide (i < 40) = true := decide_eq_true (by omega)
        have hil : i < l.length := by omega
        have IX := HSX.out i hil
        have HC := Lib.hid (dig_cases l[i])
        have HT := Lib.hid (take_at hil)
        have HM := Lib.hid (List.getElem_mem hil)
        have C1 := Tryz.strings_IndexByte ⟨#[48, 49, 50, 51, 52, 53, 54, 55, 56, 57, 97, 98, 99, 100, 101, 102]⟩ (l[i].toNat : Int)
        simp only [Int.toNat_natCast, Nat.toUInt8_eq, UInt8.ofNat_toNat] at C1
        change ∀ w, Calls _ _ _ w fun e w' => e = .returned (.int .i64 (Lib.indexByte digL l[i])) ∧ w' = w at C1
        generalize l[i] = c at *
        go_wp2_with (refine wpList_index_at rfl _ _ _ rfl _ _ _ rfl rfl (IX _) ?_)
        refine (C1 _).mono ?_
        rintro e w2 ⟨rfl, rfl⟩
        rcases HC.out with ⟨hn, hno⟩ | ⟨d, hd, hn, hc⟩
        · rw [hn]
          have hno2 : unhex l = none := unhex_dig (by have := HM.out; exact this) hno
          have hX : shaX l = id0 ∧ shaE l = 4 := by unfold shaX shaE; rw [hno2]; exact ⟨rfl, rfl⟩
          have HX := Lib.hid hX
          have hres := HR.out
          have zi := HZI.out.1
          have z1 := HZI.out.2
          clear hno hno2 hX C1 IX hn
          go_wp2_with (first | (refine wpList_build_at rfl _ _ rfl [] _ rfl (bz _) ?_) | (refine wpList_store_row rfl 42 _ _ rfl w.heap.size Z rfl rfl 42 Z hres zi rfl z1 ?_))
          refine bodyPost_ret (results_cell_tmp rfl _ _ w.heap.size 42 Z (0, 0) _ rfl (setRow_heap _ _ _ _ _ _ hres) Tryz.underlying42 rfl zi) rfl ?_
          rw [HX.out.1, HX.out.2, ← HZ.out]
          exact ⟨rfl, below_setRow HB.out (Nat.le_refl _) _⟩
        · rw [hn]
          have t2 : decide ((d : Int) < 0) = false := decide_eq_false (by omega)
          have hv := nibs_half HD.out.2.1
          rw [HD.out.1] at hv
          have cell := HA.out.cell (k := i / 2) (by rw [accN_len]; omega)
          have fr := HA.out.free (k := i / 2)
          rw [accN_get, UInt8.toNat_ofNat', Nat.mod_eq_of_lt (by omega)] at cell
          have HV := Lib.hid (show accN (ds ++ [d]) = (accN ds).set (i / 2) (UInt8.ofNat (16 * nibs ds (i / 2) + d)) by rw [accN_step, HD.out.1])
          generalize nibs ds (i / 2) = v at *
          go_wp2_with fail
          have ho := or_digit ⟨v, hv⟩ ⟨d, hd⟩
          simp only [] at ho
          rw [ho]
          have harr2 := HA.out.set (i / 2) (UInt8.ofNat (16 * v + d))
          rw [← HV.out] at harr2
          refine ⟨⟨i + 1, ds ++ [d], by go_num, by omega, by rw [List.length_append, HD.out.1]; rfl, ?_, ?_, harr2, ?_, HB.out.setCell (by simp) _⟩, ?_⟩
          · intro x hx
            rcases List.mem_append.1 hx with h | h
            · exact HD.out.2.1 x h
            · rw [List.mem_singleton] at h; omega
          · rw [HT.out, HD.out.2.2, List.map_append, ← hc]; rfl
          · rw [Below.heap_setCell _ _ _ _ (by simp)]; exact HR.out
          · simp [intOf]; omega
      · obtain rfl : i = 40 := by omega
        have t1 : decide (((40 : Nat) : Int) < 40) = false := rfl
        have hlt : l = ds.map hexd := by rw [← HD.out.2.2, List.take_of_length_le (by omega)]
        have hX := unhex_acc HD.out.2.1 HD.out.1 hlt
        have hX2 : shaX l = ⟨accN ds, accN_len ds⟩ ∧ shaE l = 0 := by unfold shaX shaE; rw [hX]; exact ⟨rfl, rfl⟩
        have HX := Lib.hid hX2
        obtain ⟨V, hV⟩ : ∃ V, V = idA ⟨accN ds, accN_len ds⟩ := ⟨_, rfl⟩
        have hres := HR.out
        have harr : wr.heap[w.heap.size + 1]? = some (.cells V 42 (0, 0)) := by rw [hV]; exact HA.out
        have vi : (Tryz.prog.info? 42).map (·.size) = some V.size := by rw [hV, show (idA ⟨accN ds, accN_len ds⟩).size = 20 by simp [idA, idc_len]]; kernel_rfl
        have v1 : V.all (·.oneCell') = true := by rw [hV]; exact all_oneCell_toArray (bcells_one _)
        have zs : Z.size = V.size := by rw [hV, HZ.out]; simp [idA, idc_len]
        have L : (Instr.loadAt 42 (.pointer (some ⟨w.heap.size + 1, 0, none⟩))).run Tryz.prog wr = .ok (.agg V) wr := by
          simp only [Instr.loadAt, Instr.sureAddr, Sem.run_bind, Sem.run_pure, Result.andThen_ok]
          exact run_loadVar_row _ _ 42 _ _ (0, 0) _ harr Tryz.underlying42 rfl vi
        have HVV := Lib.hid hV
        clear hX hX2 hV hlt
        go_wp2_with (first | (refine wpList_load_at rfl _ _ rfl _ _ rfl L ?_) | (refine wpList_store_row rfl 42 _ _ rfl w.heap.size V rfl rfl 42 Z hres vi zs v1 ?_))
        refine bodyPost_ret (results_cell_tmp rfl _ _ w.heap.size 42 V (0, 0) _ rfl (setRow_heap _ _ _ _ _ _ hres) Tryz.underlying42 rfl vi) rfl ?_
        rw [HX.out.1, HX.out.2, ← HVV.out]
        exact ⟨rfl, below_setRow HB.out (Nat.le_refl _) _⟩
  · have hk0 : ((w.alloc (.cells Z 42)).alloc (.cells Z 42)).heap[w.heap.size]? = some (.cells Z 42 (0, 0)) := by
      rw [Below.block ((Below.refl _ _).alloc (Nat.le_refl _) _) _ (by simp)]; exact heap_alloc_last _ _ _ rfl
    have hb0 : Below w.heap.size w ((w.alloc (.cells Z 42)).alloc (.cells Z 42)) := ((Below.refl _ _).alloc (Nat.le_refl _) _).alloc (by simp) _
    have tt : ((s.size : Int) != 40) = true := by rw [bne_iff_ne]; have := HL.out.2; omega
    have tt' : (s.size != 40) = true := by rw [bne_iff_ne]; have := HL.out.2; omega
    have hno2 := unhex_len h40
    have hX : shaX l = id0 ∧ shaE l = 4 := by unfold shaX shaE; rw [hno2]; exact ⟨rfl, rfl⟩
    have HX := Lib.hid hX
    have zi := HZI.out.1
    have z1 := HZI.out.2
    have HB0 := Lib.hid hb0
    clear hno2 hX hb0
    go_wp2_with (first | (refine wpList_build_at rfl _ _ rfl [] _ rfl (bz _) ?_) | (refine wpList_store_row rfl 42 _ _ rfl w.heap.size Z rfl rfl 42 Z hk0 zi rfl z1 ?_))
    refine bodyPost_ret (results_cell_tmp rfl _ _ w.heap.size 42 Z (0, 0) _ rfl (setRow_heap _ _ _ _ _ _ hk0) Tryz.underlying42 rfl zi) rfl ?_
    rw [HX.out.1, HX.out.2, ← HZ.out]
    exact ⟨rfl, below_setRow HB0.out (Nat.le_refl _) _⟩
end Go.Proofs.YtponfkfeflnilaaGreatDoor
namespace Go.Proofs.YtponfkfeflnilaaGreatDoor
open Go.RowKit Go.Mix Go.WideMaps Go.Proofs

set_option maxRecDepth 100000 in
set_option maxHeartbeats 2000000 in
theorem digit_any {n : Nat} (hn : n < 16) (w : World) : Calls Tryz.prog 82 #[.int .i64 (n : Int)] w fun e w' => e = .returned (.int .u8 ((hexd n).toNat : Int)) ∧ w = w' := by
  go_enter Tryz.func82, Tryz.ntmps82
  by_cases h : n < 10
  · have t1 : decide ((n : Int) < 10) = true := decide_eq_true (by omega)
    have t1' : decide (n < 10) = true := decide_eq_true (by omega)
    have e : ((hexd n).toNat : Int) = 48 + (n : Int) := by
      unfold hexd; rw [if_pos h, UInt8.toNat_ofNat']; omega
    rw [e]
    go_wp2_with fail
    go_ret
    exact ⟨by go_num, rfl⟩
  · have t1 : decide ((n : Int) < 10) = false := decide_eq_false (by omega)
    have t1' : decide (n < 10) = false := decide_eq_false (by omega)
    have e : ((hexd n).toNat : Int) = 87 + (n : Int) := by
      unfold hexd; rw [if_neg h, UInt8.toNat_ofNat']; omega
    rw [e]
    go_wp2_with fail
    go_ret
    exact ⟨by go_num, rfl⟩

set_option maxRecDepth 100000 in
set_option maxHeartbeats 2000000 in
theorem refHex_any (x : Id20) (w : World) : Calls Tryz.prog 52 #[.agg (idA x)] w fun e w' => e = .returned (.string (hexS x)) ∧ Below w.heap.size w w' := by
  have hx := x.2
  have hb0 := range_boxB w (idc x) 41
  have hcell : ∀ i (h : i < x.1.length) (y : World), Below (w.heap.size + 1) (w.alloc (.cells (idA x) 41)) y → y.cell? ⟨w.heap.size, i, none⟩ = some (.int .u8 (x.1[i].toNat : Int)) := fun i h y hy => by
    have := hb0 i (.int .u8 (x.1[i].toNat : Int)) (by simp [idc, bcells, h])
    rw [Nat.zero_add] at this
    exact (hy.cell (p := ⟨w.heap.size, i, none⟩) (by simp)).trans this
  have HC := Lib.hid hcell
  have hB : Buf (w.heap.size + 1) (w.alloc (.cells (idA x) 41)) (w.alloc (.cells (idA x) 41)) (.slice none 0 0) [] := Buf.nil (Below.refl _ _) (by simp)
  clear hb0 hcell
  go_enter Tryz.func52, Tryz.ntmps52
  go_wp2_with fail
  go_loopw [3, 4] (fun s3 s4 wr => ∃ i : Nat, s4 = .int .i64 (i : Int) ∧ i ≤ 20 ∧ Buf (w.heap.size + 1) (w.alloc (.cells (idA x) 41)) wr s3 (hexL (x.1.take i))) (fun _ s4 _ => 20 - (intOf s4).toNat)
  case atStart => exact ⟨0, rfl, by omega, hB⟩
  case round =>
    clear hB
    obtain ⟨i, rfl, hi, hbuf⟩ := hrel
    by_cases hi20 : i < 20
    · have t1 : decide ((i : Int) < 20) = true := decide_eq_true (by omega)
      have t1' : decide (i < 20) = true := decide_eq_true (by omega)
      have t0 : (i : Int) < 20 := by omega
      have hil : i < x.1.length := by omega
      have HS := Lib.hid (hexL_succ hil)
      have C : ∀ y : Later wr, y.1.cell? ⟨w.heap.size, i, none⟩ = some (.int .u8 (x.1[i].toNat : Int)) := fun y => HC.out i hil y.1 (hbuf.2.1.trans (Below.mono y.2 (by have := hbuf.2.1.size; simp at this; omega)))
      have hc := x.1[i].toNat_lt
      have D1 := fun W : World => digit_any (n := x.1[i].toNat / 16) (by omega) W
      have D2 := fun W : World => digit_any (n := x.1[i].toNat % 16) (by omega) W
      have W1 : IntKind.i64.wrap (x.1[i].toNat : Int) = (x.1[i].toNat : Int) := IntWalk.i64_in _ (by omega)
      have W2 : IntKind.i64.wrap ((x.1[i].toNat : Int).tdiv 16) = ((x.1[i].toNat / 16 : Nat) : Int) := by
        rw [Int.tdiv_eq_ediv_of_nonneg (by omega), IntWalk.i64_in _ (by omega)]; omega
      have W4 : IntKind.i64.wrap ((x.1[i].toNat : Int) / 16) = ((x.1[i].toNat / 16 : Nat) : Int) := by
        rw [IntWalk.i64_in _ (by omega)]; omega
      have W5 : IntKind.i64.wrap ((x.1[i].toNat : Int) % 16) = ((x.1[i].toNat % 16 : Nat) : Int) := by
        rw [IntWalk.i64_in _ (by omega)]; omega
      have W6 : (x.1[i].toNat : Int).tmod 16 = ((x.1[i].toNat % 16 : Nat) : Int) := by
        rw [Int.tmod_eq_emod_of_nonneg (by omega)]; omega
      have W3 : IntKind.i64.wrap ((x.1[i].toNat : Int).tmod 16) = ((x.1[i].toNat % 16 : Nat) : Int) := by
        rw [Int.tmod_eq_emod_of_nonneg (by omega), IntWalk.i64_in _ (by omega)]; omega
      have hl : (hexL (x.1.take i)).length ≤ 40 := by rw [hexL_len, List.length_take]; omega
      have HL := Lib.hid hl
      generalize hexL (x.1.take i) = acc at *
      generalize hexd (x.1[i].toNat / 16) = h1 at *
      generalize hexd (x.1[i].toNat % 16) = h2 at *
      generalize x.1[i].toNat / 16 = q at *
      generalize x.1[i].toNat % 16 = r at *
      generalize x.1[i].toNat = n at *
      clear hil hl hc
      go_upto_region 5 with (fail)
      refine wp_region_mix [(0, 0), (1, 0), (2, 0), (3, 0), (4, 0), (5, 0), (6, 0), (7, 0), (8, 0), (9, 0), (10, 0), (11, 0), (12, 0), (13, 1), (14, 2), (15, 0)] (by kernel_rfl) (by kernel_rfl) ?_
      iterate 6 (refine mix_calm rfl (fun K hK => ?_); go_simp; (refine hK _ ?_; clear hK K))
      refine mix_calm rfl (fun K hK => ?_)
      go_simp
      apply Exists.intro
      refine ⟨fun y => calls_calm (D1 y.1), hK _ ?_⟩
      clear hK K
      iterate 5 (refine mix_calm rfl (fun K hK => ?_); go_simp; (refine hK _ ?_; clear hK K))
      refine mix_calm rfl (fun K hK => ?_)
      go_simp
      apply Exists.intro
      refine ⟨fun y => calls_calm (D2 y.1), hK _ ?_⟩
      clear hK K
      refine mix_loud rfl rfl (fun w8 hw8 K hK => ?_)
      have hbuf8 := hbuf.later hw8
      clear C D1 D2
      go_wp2_with fail
      have g8 : Below w8.heap.size w8 (w8.alloc (.cells #[.int .u8 (h1.toNat : Int), .int .u8 (h2.toNat : Int)] 5)) := (Below.refl _ _).alloc (Nat.le_refl _) _
      refine hK _ _ g8 ?_
      clear hK K
      have hk9 : (w8.alloc (.cells #[.int .u8 (h1.toNat : Int), .int .u8 (h2.toNat : Int)] 5)).heap[w8.heap.size]? = some (.cells #[.int .u8 (h1.toNat : Int), .int .u8 (h2.toNat : Int)] 5 (0, 0)) := heap_alloc_last _ _ _ rfl
      have hbuf9 := hbuf8.later g8
      generalize w8.alloc (.cells #[.int .u8 (h1.toNat : Int), .int .u8 (h2.toNat : Int)] 5) = w9 at *
      clear g8 hbuf8 hbuf hw8 W1 W2 W3 W4 W5 W6
      refine mix_sync rfl rfl (fun w10 hw10 K hK => ?_)
      have hbuf10 := hbuf9.later hw10
      have hk10 : w10.heap[w8.heap.size]? = some (.cells #[.int .u8 (h1.toNat : Int), .int .u8 (h2.toNat : Int)] 5 (0, 0)) := (hw10.block _ (lt_of_block hk9)).trans hk9
      refine wpList_append_buf rfl (.tmp 9) (.tmp 22) rfl _ acc rfl hbuf10 (some ⟨w8.heap.size, 0, none⟩) 2 [h1, h2] rfl (.block hk10 rfl) (by simp) (by have := HL.out; simp; omega) ?_
      intro v11 w11 hbuf11 hg11
      have e11 : acc ++ [h1, h2] = acc ++ [h1] ++ [h2] := by simp
      rw [e11, ← HS.out] at hbuf11
      clear hg11 hbuf10 hk10 hbuf9 hk9 hw10 e11
      go_wp2_with fail
      refine mix_calm rfl (fun K hK => ?_); go_simp; (refine hK _ ?_; clear hK K)
      refine mix_nil fun w12 hw12 => ?_
      have hbuf12 := hbuf11.later hw12
      clear hbuf11 hw12
      go_wp2_with fail
      go_roundw
      case rel => exact ⟨i + 1, by go_num, by omega, hbuf12⟩
      case measure => simp [intOf]; omega
    · obtain rfl : i = 20 := by omega
      have t1 : decide (((20 : Nat) : Int) < 20) = false := rfl
      rw [List.take_of_length_le (by omega)] at hbuf
      obtain ⟨a3, c3, rfl, hbs⟩ := hbuf.1.bs
      have HB := Lib.hid hbuf.2.1
      have ST := run_string_of_bytes (P := Tryz.prog) hbs.1 24 5 9 Tryz.underlying24 Tryz.underlying5 Tryz.underlying9 c3
      clear hbuf hbs
      change (convert 24 9 (.slice a3 (hexL x.1).length c3)).run Tryz.prog wr = .ok (.string (hexS x)) wr at ST
      generalize (hexL x.1).length = n at *
      go_wp2_with fail
      go_ret
      refine ⟨rfl, ⟨HB.out.os, HB.out.tape, HB.out.output, by have := HB.out.size; simp at this; omega, fun k hk => ?_⟩⟩
      rw [HB.out.block k (by omega)]
      exact ((Below.refl w.heap.size w).alloc (Nat.le_refl _) _).block k hk
end Go.Proofs.YtponfkfeflnilaaGreatDoor
namespace Go.Proofs.YtponfkfeflnilaaGreatDoor
open Go.RowKit Go.Mix Go.WideMaps Go.Proofs

theorem ArrB.later {w w' : World} {b : Nat} {t : TypeId} {l : List UInt8} (h : ArrB w b t l) (g : Below w.heap.size w w') : ArrB w' b t l := (g.block b (lt_of_block h)).trans h

def mtch (l : List UInt8) (i m : Nat) : Prop := l[2 * i]? = some (hexd (m / 16)) ∧ l[2 * i + 1]? = some (hexd (m % 16))
theorem hexL_take {l acc : List UInt8} {i m : Nat} (hm : m < 256) (h : l.take (2 * i) = hexL (acc.take i)) (hi : acc[i]? = some (UInt8.ofNat m)) (hc : mtch l i m) : l.take (2 * (i + 1)) = hexL (acc.take (i + 1)) := by
  obtain ⟨h1, h2⟩ := hc
  rw [show 2 * (i + 1) = 2 * i + 1 + 1 by omega, List.take_add_one, List.take_add_one, h, h1, h2, List.take_add_one, hi]
  unfold hexL
  rw [List.flatMap_append]
  have e : (UInt8.ofNat m).toNat = m := by rw [UInt8.toNat_ofNat']; omega
  simp [e]
theorem mtch_hex {x : Id20} {i : Nat} (hi : i < 20) : mtch (hexL x.1) i (x.1[i]'(by rw [x.2]; exact hi)).toNat := hexL_get (by rw [x.2]; exact hi)
theorem unhex_mtch {l : List UInt8} {i : Nat} (hi : i < 20) (h : ∀ m, m < 256 → ¬ mtch l i m) : unhex l = none := unhex_none fun x hx => by
  have := mtch_hex (x := x) hi
  rw [← hx] at this
  exact h _ (UInt8.toNat_lt _) this

set_option maxRecDepth 100000 in
set_option maxHeartbeats 4000000 in
theorem refParse_any (s : ByteArray) (w : World) : Calls Tryz.prog 48 #[.string s] w fun e w' => e = .returned (.tuple #[.agg (idA (shaX s.data.toList)), .bool (unhex s.data.toList).isSome]) ∧ Below w.heap.size w w' := by
  obtain ⟨l, hl⟩ : ∃ l, l = s.data.toList := ⟨_, rfl⟩
  have hsz : s.size = l.length := by rw [hl]; exact Array.length_toList.symm
  have SX : ∀ (i : Nat) (hi : i < l.length) (W : World), (Instr.index 9 (.string s) (.int .i64 (i : Int))).run Tryz.prog W = .ok (.int .u8 ((l[i]).toNat : Int)) W := fun i hi W => by subst hl; exact str_index Tryz.underlying9 s hi W
  have HSX := Lib.hid SX
  rw [← hl]
  obtain ⟨Z, hZ⟩ : ∃ Z, Z = idA id0 := ⟨_, rfl⟩
  have z : ∀ w, (zeroValue 41).run Tryz.prog w = .ok (.agg Z) w := fun w => by rw [hZ]; kernel_rfl
  have bz : ∀ w, (Instr.build 41 ([] : List (Nat × Value)).toArray).run Tryz.prog w = .ok (.agg Z) w := fun w => by rw [hZ]; kernel_rfl
  have HZ := Lib.hid hZ
  have zi : (Tryz.prog.info? 41).map (·.size) = some Z.size := by rw [hZ, show (idA id0).size = 20 by simp [idA, idc_len]]; kernel_rfl
  have z1 : Z.all (·.oneCell') = true := by rw [hZ]; exact all_oneCell_toArray (bcells_one _)
  have HZI := Lib.hid (And.intro zi z1)
  have HL := Lib.hid (And.intro hl hsz)
  have hk0 : ((w.alloc (.cells Z 41)).alloc (.cells Z 41)).heap[w.heap.size]? = some (.cells Z 41 (0, 0)) := by
    rw [Below.block ((Below.refl _ _).alloc (Nat.le_refl _) _) _ (by simp)]; exact heap_alloc_last _ _ _ rfl
  have hk1 : ArrB ((w.alloc (.cells Z 41)).alloc (.cells Z 41)) (w.heap.size + 1) 41 (List.replicate 20 0) := by
    unfold ArrB
    have := heap_alloc_last (w.alloc (.cells Z 41)) (.cells Z 41) (w.heap.size + 1) (by simp)
    rw [this, HZ.out]; rfl
  have hb0 : Below w.heap.size w ((w.alloc (.cells Z 41)).alloc (.cells Z 41)) := ((Below.refl _ _).alloc (Nat.le_refl _) _).alloc (by simp) _
  have HK := Lib.hid (And.intro hk0 (And.intro hk1 hb0))
  clear SX hZ zi z1 hl hsz hk0 hk1 hb0
  go_enter Tryz.func48, Tryz.ntmps48
  by_cases h40 : l.length = 40
  · have hs40 : s.size = 40 := by rw [HL.out.2, h40]
    go_wp2_with fail
    go_loopw [5] (fun s5 wr => ∃ (i : Nat) (acc : List UInt8), s5 = .int .i64 (i : Int) ∧ i ≤ 20 ∧ acc.length = 20 ∧ l.take (2 * i) = hexL (acc.take i) ∧ ArrB wr (w.heap.size + 1) 41 acc ∧ wr.heap[w.heap.size]? = some (.cells Z 41 (0, 0)) ∧ Below w.heap.size w wr) (fun s5 _ => 20 - (intOf s5).toNat)
    case atStart => exact ⟨0, _, rfl, by omega, by simp, by simp [hexL], HK.out.2.1, HK.out.1, HK.out.2.2⟩
    case round =>
      obtain ⟨i, acc0, rfl, hi, hal, htk, harr, hres, hb⟩ := hrel
      have HT := Lib.hid (And.intro hal htk)
      have HR0 := Lib.hid hres
      by_cases hi20 : i < 20
      · have t1 : decide ((i : Int) < 20) = true := decide_eq_true (by omega)
        have t1' : decide (i < 20) = true := decide_eq_true (by omega)
        have start : ∃ (n : Nat) (f : Bool) (acc : List UInt8), (Value.int .i64 0) = .int .i64 (n : Int) ∧ (Value.bool false) = .bool f ∧ n ≤ 256 ∧ acc.length = 20 ∧ acc.take i = acc0.take i ∧ ArrB wr (w.heap.size + 1) 41 acc ∧ wr.heap[w.heap.size]? = some (.cells Z 41 (0, 0)) ∧ Below w.heap.size w wr ∧ (f = true → ∃ m, m < 256 ∧ mtch l i m ∧ acc[i]? = some (UInt8.ofNat m)) ∧ (f = false → ∀ m, m < n → ¬ mtch l i m) :=
          ⟨0, false, acc0, rfl, rfl, by omega, hal, rfl, harr, hres, hb, (fun h => by cases h), fun _ m hm => absurd hm (Nat.not_lt_zero _)⟩
        have HST := Lib.hid start
        clear start hal htk harr hres hb
        go_wp2_with fail
        go_loopw [6, 7] (fun s6 s7 wr => ∃ (n : Nat) (f : Bool) (acc : List UInt8), s7 = .int .i64 (n : Int) ∧ s6 = .bool f ∧ n ≤ 256 ∧ acc.length = 20 ∧ acc.take i = acc0.take i ∧ ArrB wr (w.heap.size + 1) 41 acc ∧ wr.heap[w.heap.size]? = some (.cells Z 41 (0, 0)) ∧ Below w.heap.size w wr ∧ (f = true → ∃ m, m < 256 ∧ mtch l i m ∧ acc[i]? = some (UInt8.ofNat m)) ∧ (f = false → ∀ m, m < n → ¬ mtch l i m)) (fun _ s7 _ => 256 - (intOf s7).toNat)
        case atStart => exact HST.out
        case round =>
          obtain ⟨n, f, acc, rfl, rfl, hn, hal, hac, harr, hres, hb, hft, hff⟩ := hrel
          have HA := Lib.hid (And.intro hal (And.intro hac harr))
          have HR := Lib.hid hres
          have HB := Lib.hid hb
          have HF := Lib.hid (And.intro hft hff)
          clear hal hac harr hres hb hft hff
          by_cases hn256 : n < 256
          · have u1 : decide ((n : Int) < 256) = true := decide_eq_true (by omega)
            have u1' : decide (n < 256) = true := decide_eq_true (by omega)
            have hi1 : 2 * i < l.length := by omega
            have hi2 : 2 * i + 1 < l.length := by omega
            have I1 := fun W => HSX.out (2 * i) hi1 W
            have I2 := fun W => HSX.out (2 * i + 1) hi2 W
            have D1 := fun W : World => digit_any (n := n / 16) (by omega) W
            have D2 := fun W : World => digit_any (n := n % 16) (by omega) W
            have W1 : IntKind.i64.wrap (2 * (i : Int)) = ((2 * i : Nat) : Int) := by rw [IntWalk.i64_in _ (by omega)]; omega
            have W2 : IntKind.i64.wrap (((2 * i : Nat) : Int) + 1) = ((2 * i + 1 : Nat) : Int) := by rw [IntWalk.i64_in _ (by omega)]; omega
            have W3 : IntKind.i64.wrap ((n : Int) / 16) = ((n / 16 : Nat) : Int) := by rw [IntWalk.i64_in _ (by omega)]; omega
            have W4 : (n : Int).tmod 16 = ((n % 16 : Nat) : Int) := by rw [Int.tmod_eq_emod_of_nonneg (by omega)]; omega
            obtain ⟨m1, hm1⟩ : ∃ b : Bool, b = decide (l[2 * i] = hexd (n / 16)) := ⟨_, rfl⟩
            obtain ⟨m2, hm2⟩ : ∃ b : Bool, b = decide (l[2 * i + 1] = hexd (n % 16)) := ⟨_, rfl⟩
            have E1 : (((l[2 * i]).toNat : Int) == ((hexd (n / 16)).toNat : Int)) = m1 := by
              rw [hm1, Bool.eq_iff_iff, beq_iff_eq, decide_eq_true_eq, ← UInt8.toNat_inj]; omega
            have E2 : (((l[2 * i + 1]).toNat : Int) == ((hexd (n % 16)).toNat : Int)) = m2 := by
              rw [hm2, Bool.eq_iff_iff, beq_iff_eq, decide_eq_true_eq, ← UInt8.toNat_inj]; omega
            have E1' : ((l[2 * i]).toNat == (hexd (n / 16)).toNat) = m1 := by
              rw [hm1, Bool.eq_iff_iff, beq_iff_eq, decide_eq_true_eq, ← UInt8.toNat_inj]
            have E2' : ((l[2 * i + 1]).toNat == (hexd (n % 16)).toNat) = m2 := by
              rw [hm2, Bool.eq_iff_iff, beq_iff_eq, decide_eq_true_eq, ← UInt8.toNat_inj]
            have HM : Hid ((m1 && m2) = true ↔ mtch l i n) := Lib.hid (by
              rw [hm1, hm2]; unfold mtch
              rw [List.getElem?_eq_getElem hi1, List.getElem?_eq_getElem hi2]
              simp)
            clear hm1 hm2
            generalize (l[2 * i]).toNat = c1 at *
            generalize (l[2 * i + 1]).toNat = c2 at *
            generalize (hexd (n / 16)).toNat = x1 at *
            generalize (hexd (n % 16)).toNat = x2 at *
            generalize n / 16 = q at *
            generalize n % 16 = r at *
            generalize hk1 : 2 * i + 1 = k1 at *
            generalize hk2 : 2 * i = k2 at *
            clear hi1 hi2 hk1 hk2
            cases m1
            · go_upto_region 11 with (fail)
              refine wp_region_mg [(0, 0), (1, 0), (2, 0), (3, 0), (4, 0), (5, 0), (6, 0), (7, 0), (8, 0), (9, 0), (10, 0), (11, 0), (12, 0), (13, 0), (14, 0), (15, 0), (16, 0), (17, 0), (18, 0)] (by kernel_rfl) (by kernel_rfl) ?_
              iterate 3 (refine mg_calm rfl (fun K hK => ?_); go_simp; (refine hK _ ?_; clear hK K))
              refine mg_index rfl rfl _ _ _ rfl _ _ _ rfl rfl I1 ?_
              iterate 2 (refine mg_calm rfl (fun K hK => ?_); go_simp; (refine hK _ ?_; clear hK K))
              (refine mg_calm rfl (fun K hK => ?_); go_simp; apply Exists.intro; refine ⟨fun y => calls_calm (D1 y.1), hK _ ?_⟩; clear hK K)
              iterate 12 (refine mg_calm rfl (fun K hK => ?_); go_simp; (refine hK _ ?_; clear hK K))
              refine mg_nil fun w7 hw7 => ?_
              have HW7 : Hid (Below wr.heap.size wr w7) := Lib.hid hw7
              clear hw7 W1 W2 W3 W4 I1 I2 D1 D2 E1 E2 E1' E2'
              go_wp2_with fail
              go_roundw
              case rel => exact ⟨n + 1, f, acc, by go_num, rfl, by omega, HA.out.1, HA.out.2.1, HA.out.2.2.later HW7.out, blockR_below HR.out HW7.out, HB.out.trans (HW7.out.mono HB.out.size), HF.out.1, fun hf m hm => by
                rcases Nat.lt_or_ge m n with h | h
                · exact HF.out.2 hf m h
                · obtain rfl : m = n := by omega
                  exact fun hc => by have := HM.out.2 hc; simp at this⟩
              case measure => simp [intOf]; omega
            · go_upto_region 11 with (fail)
              refine wp_region_mg [(0, 0), (1, 0), (2, 0), (3, 0), (4, 0), (5, 0), (6, 0), (7, 0), (8, 0), (9, 0), (10, 0), (11, 0), (12, 0), (13, 0), (14, 0), (15, 0), (16, 0), (17, 0), (18, 0)] (by kernel_rfl) (by kernel_rfl) ?_
              iterate 3 (refine mg_calm rfl (fun K hK => ?_); go_simp; (refine hK _ ?_; clear hK K))
              refine mg_index rfl rfl _ _ _ rfl _ _ _ rfl rfl I1 ?_
              iterate 2 (refine mg_calm rfl (fun K hK => ?_); go_simp; (refine hK _ ?_; clear hK K))
              (refine mg_calm rfl (fun K hK => ?_); go_simp; apply Exists.intro; refine ⟨fun y => calls_calm (D1 y.1), hK _ ?_⟩; clear hK K)
              iterate 6 (refine mg_calm rfl (fun K hK => ?_); go_simp; (refine hK _ ?_; clear hK K))
              refine mg_index rfl rfl _ _ _ rfl _ _ _ rfl rfl I2 ?_
              iterate 2 (refine mg_calm rfl (fun K hK => ?_); go_simp; (refine hK _ ?_; clear hK K))
              (refine mg_calm rfl (fun K hK => ?_); go_simp; apply Exists.intro; refine ⟨fun y => calls_calm (D2 y.1), hK _ ?_⟩; clear hK K)
              iterate 2 (refine mg_calm rfl (fun K hK => ?_); go_simp; (refine hK _ ?_; clear hK K))
              refine mg_nil fun w7 hw7 => ?_
              have HW7 : Hid (Below wr.heap.size wr w7) := Lib.hid hw7
              clear hw7 W1 W2 W3 W4 I1 I2 D1 D2 E1 E2 E1' E2'
              cases m2
              · go_wp2_with fail
                go_roundw
                case rel => exact ⟨n + 1, f, acc, by go_num, rfl, by omega, HA.out.1, HA.out.2.1, HA.out.2.2.later HW7.out, blockR_below HR.out HW7.out, HB.out.trans (HW7.out.mono HB.out.size), HF.out.1, fun hf m hm => by
                  rcases Nat.lt_or_ge m n with h | h
                  · exact HF.out.2 hf m h
                  · obtain rfl : m = n := by omega
                    exact fun hc => by have := HM.out.2 hc; simp at this⟩
                case measure => simp [intOf]; omega
              · have ti : (i : Int) < 20 := by omega
                have harr := HA.out.2.2.later HW7.out
                have cell := harr.cell (k := i) (by have := HA.out.1; omega)
                have fr := harr.free (k := i)
                have W5 : IntKind.u8.wrap (n : Int) = ((UInt8.ofNat n).toNat : Int) := by
                  rw [UInt8.toNat_ofNat', Nat.mod_eq_of_lt (by omega), IntWalk.u8_in _ (by omega)]
                have hset := harr.set i (UInt8.ofNat n)
                have HSET := Lib.hid hset
                have HRES := Lib.hid (blockR_below HR.out HW7.out)
                generalize hcv : (UInt8.ofNat n).toNat = cv at *
                have HCV := Lib.hid hcv
                clear hset harr hcv
                go_wp2_with fail
                go_roundw
                case rel =>
                  refine ⟨n + 1, true, acc.set i (UInt8.ofNat n), by go_num, rfl, by omega, by rw [List.length_set]; exact HA.out.1, by rw [List.take_set_of_le (Nat.le_refl _)]; exact HA.out.2.1, HSET.out, ?_, (HB.out.trans (HW7.out.mono HB.out.size)).setCell (by simp) _, fun _ => ⟨n, hn256, HM.out.1 rfl, ?_⟩, fun h => by cases h⟩
                  · rw [Below.heap_setCell _ _ _ _ (by simp)]; exact HRES.out
                  · rw [List.getElem?_set_self (by have := HA.out.1; omega)]
                case measure => simp [intOf]; omega
          · obtain rfl : n = 256 := by omega
            have u1 : decide (((256 : Nat) : Int) < 256) = false := rfl
            cases f
            · have hno := unhex_mtch hi20 (HF.out.2 rfl)
              have hX : shaX l = id0 ∧ (unhex l).isSome = false := by unfold shaX; rw [hno]; exact ⟨rfl, rfl⟩
              have HX := Lib.hid hX
              have hres := HR.out
              have zi := HZI.out.1
              have z1 := HZI.out.2
              clear hno hX
              go_wp2_with (first | (refine wpList_build_at rfl _ _ rfl [] _ rfl (bz _) ?_) | (refine wpList_store_row rfl 41 _ _ rfl w.heap.size Z rfl rfl 41 Z hres zi rfl z1 ?_))
              refine bodyPost_ret (results_cell_tmp rfl _ _ w.heap.size 41 Z (0, 0) _ rfl (setRow_heap _ _ _ _ _ _ hres) Tryz.underlying41 rfl zi) rfl ?_
              rw [HX.out.1, HX.out.2, ← HZ.out]
              exact ⟨rfl, below_setRow HB.out (Nat.le_refl _) _⟩
            · go_wp2_with fail
              go_roundw
              case rel =>
                obtain ⟨m, hm, hc, hk⟩ := HF.out.1 rfl
                refine ⟨i + 1, acc, by go_num, by omega, HA.out.1, hexL_take hm ?_ hk hc, HA.out.2.2, HR.out, HB.out⟩
                rw [HT.out.2, HA.out.2.1]
              case measure => simp [intOf]; omega
      · obtain rfl : i = 20 := by omega
        have t1 : decide (((20 : Nat) : Int) < 20) = false := rfl
        have hlx : l = hexL acc0 := by
          have := HT.out.2
          rw [List.take_of_length_le (by omega), List.take_of_length_le (by have := HT.out.1; omega)] at this; exact this
        have hX := unhex_some (x := ⟨acc0, HT.out.1⟩) hlx
        have hX2 : shaX l = ⟨acc0, HT.out.1⟩ ∧ (unhex l).isSome = true := by unfold shaX; rw [hX]; exact ⟨rfl, rfl⟩
        have HX := Lib.hid hX2
        obtain ⟨V, hV⟩ : ∃ V, V = idA ⟨acc0, HT.out.1⟩ := ⟨_, rfl⟩
        have harr2 : wr.heap[w.heap.size + 1]? = some (.cells V 41 (0, 0)) := by rw [hV]; exact harr
        have vi : (Tryz.prog.info? 41).map (·.size) = some V.size := by rw [hV, show (idA ⟨acc0, HT.out.1⟩).size = 20 by simp [idA, idc_len]]; kernel_rfl
        have v1 : V.all (·.oneCell') = true := by rw [hV]; exact all_oneCell_toArray (bcells_one _)
        have zs : Z.size = V.size := by rw [hV, HZ.out]; simp [idA, idc_len]
        have L : (Instr.loadAt 41 (.pointer (some ⟨w.heap.size + 1, 0, none⟩))).run Tryz.prog wr = .ok (.agg V) wr := by
          simp only [Instr.loadAt, Instr.sureAddr, Sem.run_bind, Sem.run_pure, Result.andThen_ok]
          exact run_loadVar_row _ _ 41 _ _ (0, 0) _ harr2 Tryz.underlying41 rfl vi
        have HVV := Lib.hid hV
        have HB := Lib.hid hb
        clear hX hX2 hV hlx harr hal htk hb
        go_wp2_with (first | (refine wpList_load_at rfl _ _ rfl _ _ rfl L ?_) | (refine wpList_store_row rfl 41 _ _ rfl w.heap.size V rfl rfl 41 Z hres vi zs v1 ?_))
        refine bodyPost_ret (results_cell_tmp rfl _ _ w.heap.size 41 V (0, 0) _ rfl (setRow_heap _ _ _ _ _ _ hres) Tryz.underlying41 rfl vi) rfl ?_
        rw [HX.out.1, HX.out.2, ← HVV.out]
        exact ⟨rfl, below_setRow HB.out (Nat.le_refl _) _⟩
  · have tt : ((s.size : Int) != 40) = true := by rw [bne_iff_ne]; have := HL.out.2; omega
    have tt' : (s.size != 40) = true := by rw [bne_iff_ne]; have := HL.out.2; omega
    have hno2 := unhex_len h40
    have hX : shaX l = id0 ∧ (unhex l).isSome = false := by unfold shaX; rw [hno2]; exact ⟨rfl, rfl⟩
    have HX := Lib.hid hX
    have hk0 := HK.out.1
    have hk1 := HK.out.2.1
    have zi := HZI.out.1
    have z1 := HZI.out.2
    have L : (Instr.loadAt 41 (.pointer (some ⟨w.heap.size + 1, 0, none⟩))).run Tryz.prog ((w.alloc (.cells Z 41)).alloc (.cells Z 41)) = .ok (.agg Z) ((w.alloc (.cells Z 41)).alloc (.cells Z 41)) := by
      simp only [Instr.loadAt, Instr.sureAddr, Sem.run_bind, Sem.run_pure, Result.andThen_ok]
      exact run_loadVar_row _ _ 41 _ _ (0, 0) _ (heap_alloc_last (w.alloc (.cells Z 41)) (.cells Z 41) (w.heap.size + 1) (by simp)) Tryz.underlying41 rfl zi
    clear hno2 hX hk1
    go_wp2_with (first | (refine wpList_load_at rfl _ _ rfl _ _ rfl L ?_) | (refine wpList_store_row rfl 41 _ _ rfl w.heap.size Z rfl rfl 41 Z hk0 zi rfl z1 ?_))
    refine bodyPost_ret (results_cell_tmp rfl _ _ w.heap.size 41 Z (0, 0) _ rfl (setRow_heap _ _ _ _ _ _ hk0) Tryz.underlying41 rfl zi) rfl ?_
    rw [HX.out.1, HX.out.2, ← HZ.out]
    exact ⟨rfl, below_setRow HK.out.2.2 (Nat.le_refl _) _⟩
end Go.Proofs.YtponfkfeflnilaaGreatDoor
namespace Go.Proofs.YtponfkfeflnilaaGreatDoor
open Go.RowKit Go.Mix Go.WideMaps Go.Proofs

/-- What Cut hands back. -/
def cutV (l : List UInt8) (c : UInt8) : Value := if Lib.indexByte l c < 0 then .tuple #[.string (strOf l), .string (strOf []), .bool false] else .tuple #[.string (strOf (l.take (Lib.indexByte l c).toNat)), .string (strOf (l.drop ((Lib.indexByte l c).toNat + 1))), .bool true]

set_option maxRecDepth 100000 in
set_option maxHeartbeats 2000000 in
theorem cut1_any (l : List UInt8) (c : UInt8) (hl : l.length ≤ 1000000000) (w : World) : Calls Tryz.prog 81 #[.string (strOf l), .string ⟨#[c]⟩] w fun e w' => e = .returned (cutV l c) ∧ Below w.heap.size w w' := by
  have C := Tryz.stringslite_Index_one (strOf l) c w
  change Calls _ _ _ _ (fun e w' => e = .returned (.int .i64 (Lib.indexByte l c)) ∧ w' = w) at C
  have hge := Lib.indexByte_ge l c
  have hsome := fun o => Lib.indexByte_some (l := l) (c := c) (o := o)
  obtain ⟨r, hr⟩ : ∃ r, r = Lib.indexByte l c := ⟨_, rfl⟩
  rw [← hr] at C hge
  have HS := Lib.hid hsome
  have HR := Lib.hid hr
  clear hr hsome
  go_enter Tryz.func81, Tryz.ntmps81
  go_wp2_with fail
  refine C.mono ?_
  rintro e w2 ⟨rfl, rfl⟩
  clear C
  by_cases hn : r < 0
  · have hv : cutV l c = .tuple #[.string (strOf l), .string (strOf []), .bool false] := by unfold cutV; rw [← HR.out, if_pos hn]
    have HV := Lib.hid hv
    have t1 : decide (r ≥ 0) = false := decide_eq_false (by omega)
    have t1' : decide (0 ≤ r) = false := decide_eq_false (by omega)
    clear hv
    go_wp2_with fail
    go_ret3
    exact ⟨by rw [HV.out]; rfl, Below.refl _ _⟩
  · obtain ⟨i, rfl⟩ := Int.eq_ofNat_of_zero_le (show 0 ≤ r by omega)
    have hv : cutV l c = .tuple #[.string (strOf (l.take i)), .string (strOf (l.drop (i + 1))), .bool true] := by unfold cutV; rw [← HR.out, if_neg hn]; rfl
    have HV := Lib.hid hv
    have hil : i < l.length := by
      have := (HS.out i HR.out.symm).1
      exact (List.getElem?_eq_some_iff.1 this).1
    have t1 : decide ((i : Int) ≥ 0) = true := decide_eq_true (by omega)
    have t1' : decide (0 ≤ (i : Int)) = true := decide_eq_true (by omega)
    have S1 := fun W => str_to Tryz.underlying9 l (i := i) (by omega) W
    have S2 := fun W => str_from Tryz.underlying9 l (i := i + 1) (by omega) W
    have W1 : IntKind.i64.wrap ((i : Int) + 1) = ((i + 1 : Nat) : Int) := by rw [IntWalk.i64_in _ (by omega)]; omega
    have hsz : (⟨#[c]⟩ : ByteArray).size = 1 := rfl
    clear hv hn hge
    generalize strOf (l.take i) = A1 at *
    generalize strOf (l.drop (i + 1)) = A2 at *
    generalize (⟨#[c]⟩ : ByteArray) = sep at *
    go_upto_region 3 with (fail)
    refine wp_region_mg [(0, 0), (1, 0), (2, 0), (3, 0), (4, 0), (5, 0), (6, 0), (7, 0), (8, 0), (9, 0), (10, 0), (11, 0)] (by kernel_rfl) (by kernel_rfl) ?_
    iterate 12 (first | (refine mg_slice rfl rfl _ _ _ _ _ rfl _ _ _ _ _ rfl rfl rfl rfl S1 ?_) | (refine mg_slice rfl rfl _ _ _ _ _ rfl _ _ _ _ _ rfl rfl rfl rfl S2 ?_) | (refine mg_calm rfl (fun K hK => ?_); go_simp; (refine hK _ ?_; clear hK K)))
    refine mg_nil fun w7 hw7 => ?_
    have HW7 : Hid (Below w2.heap.size w2 w7) := Lib.hid hw7
    clear hw7
    go_wp2_with fail
    go_ret3
    exact ⟨by rw [HV.out]; rfl, HW7.out⟩

set_option maxRecDepth 100000 in
set_option maxHeartbeats 2000000 in
theorem strCut_any (l : List UInt8) (c : UInt8) (hl : l.length ≤ 1000000000) (w : World) : Calls Tryz.prog 45 #[.string (strOf l), .string ⟨#[c]⟩] w fun e w' => e = .returned (cutV l c) ∧ Below w.heap.size w w' := by
  have C := cut1_any l c hl w
  obtain ⟨p, q, b, hv⟩ : ∃ p q b, cutV l c = .tuple #[.string p, .string q, .bool b] := by
    unfold cutV; split
    · exact ⟨_, _, _, rfl⟩
    · exact ⟨_, _, _, rfl⟩
  rw [hv] at C
  have HV := Lib.hid hv
  clear hv
  go_enter Tryz.func45, Tryz.ntmps45
  go_wp2_with fail
  refine C.mono ?_
  rintro e w2 ⟨rfl, hb⟩
  have HB := Lib.hid hb
  clear C hb
  go_wp2_with fail
  go_ret3
  exact ⟨by rw [HV.out]; rfl, HB.out⟩
end Go.Proofs.YtponfkfeflnilaaGreatDoor
