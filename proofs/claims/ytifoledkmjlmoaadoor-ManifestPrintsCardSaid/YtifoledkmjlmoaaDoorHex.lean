/-
  Sums as text: sha.Hex and the document's Hex.
-/
import Derived.Test.YtifoledkmjlmoaaDoorBld
import Derived.Test.YtifoledkmjlmoaaDoorShelfT
import Derived.Test.YtifoledkmjlmoaaDoorBox
import Derived.Test.YtifoledkmjlmoaaDoorId
namespace Go.Proofs.YtifoledkmjlmoaaDoor
open Go.RowKit Go.Mix Go.WideMaps Go.Proofs

/-- A digit to the base 16. -/
def hexd (n : Nat) : UInt8 := if n < 10 then UInt8.ofNat (48 + n) else UInt8.ofNat (87 + n)
def hexL (l : List UInt8) : List UInt8 := l.flatMap fun b => [hexd (b.toNat / 16), hexd (b.toNat % 16)]
def hexS (x : Id20) : ByteArray := ⟨(hexL x.1).toArray⟩
theorem hexL_len : ∀ l : List UInt8, (hexL l).length = 2 * l.length
  | [] => rfl
  | _ :: l => by have := hexL_len l; simp only [hexL, List.flatMap_cons, List.length_append, List.length_cons, List.length_nil] at this ⊢; omega
theorem hexL_succ {l : List UInt8} {i : Nat} (h : i < l.length) : hexL (l.take (i + 1)) = hexL (l.take i) ++ [hexd (l[i].toNat / 16)] ++ [hexd (l[i].toNat % 16)] := by
  rw [List.take_add_one, List.getElem?_eq_getElem h]
  unfold hexL
  rw [List.flatMap_append, List.append_assoc]
  rfl

theorem index_id {k : TypeId} (A : ArrKey Tryd.prog k 5 20) (x : Id20) {i : Nat} (hi : i < x.1.length) (W : World) : (Instr.index k (.agg (idA x)) (.int .i64 (i : Int))).run Tryd.prog W = .ok (.int .u8 (x.1[i].toNat : Int)) W := by
  have hx := x.2
  have h20 : i < 20 := by omega
  have hz : ∀ w : World, (sizeOf 5).run Tryd.prog w = .ok 1 w := fun w => by kernel_rfl
  have ha : ∀ w : World, (isAgg 5).run Tryd.prog w = .ok false w := fun w => by kernel_rfl
  have hc : (0 ≤ (i : Int) ∧ (i : Int) < 20) := by omega
  simp [Instr.index, run_underlying A.hu, asIntOf, hc, hz, ha, go_sem]
  rw [if_pos h20]
  have e : (idA x)[i]? = some (.int .u8 (x.1[i].toNat : Int)) := by simp [idA, idc, bcells, hi]
  rw [e]
  rfl

def digS : ByteArray := ⟨#[48, 49, 50, 51, 52, 53, 54, 55, 56, 57, 97, 98, 99, 100, 101, 102]⟩
theorem digs_at : ∀ n : Fin 16, (digS[n.val]'(by have := n.2; simp [digS, ByteArray.size])) = hexd n.val := by decide
theorem index_dig {k : TypeId} (hu : Tryd.prog.underlying k = some .string) {n : Nat} (hn : n < 16) (W : World) : (Instr.index k (.string ⟨#[48, 49, 50, 51, 52, 53, 54, 55, 56, 57, 97, 98, 99, 100, 101, 102]⟩) (.int .u8 (n : Int))).run Tryd.prog W = .ok (.int .u8 ((hexd n).toNat : Int)) W := by
  have h : 0 ≤ (n : Int) ∧ (n : Int) < (digS.size : Int) := by simp [digS, ByteArray.size]; omega
  rw [show (⟨#[48, 49, 50, 51, 52, 53, 54, 55, 56, 57, 97, 98, 99, 100, 101, 102]⟩ : ByteArray) = digS from rfl, run_index_string _ _ _ _ _ hu, dif_pos h]
  have := digs_at ⟨n, hn⟩
  simp only [Int.toNat_natCast] at this ⊢
  rw [this]

theorem wpList_index_at {P : Program} {ops : Array Oper} {rest : List Oper} {o : Oper} {a : Act} {w : World} {Q : Exit → Act → World → Prop} (hgd : o.guard = none)
    (ty : TypeId) (x i : Operand) (hop : o.op = .index ty x i) (X I v : Value) (hx : a.eval x = X) (hi : a.eval i = I) (hl : (Instr.index ty X I).run P w = .ok v w)
    (h : wpList P ops Q rest (a.put o.dst v) w) : wpList P ops Q (o :: rest) a w :=
  wpList_plain hgd fun _ hK => by
    unfold Oper.wp execOp
    simp only [hop, hx, hi, Sem.run_bind, Sem.run_pure, Result.andThen_ok, hl]
    exact hK _ _ h

set_option maxRecDepth 100000 in
set_option maxHeartbeats 2000000 in
theorem hex_any (x : Id20) (w : World) : Calls Tryd.prog 22 #[.agg (idA x)] w fun e w' => e = .returned (.string (hexS x)) ∧ Below w.heap.size w w' := by
  have hr := range_boxB w (idc x) 44
  have L : ∀ y : World, Below (w.alloc (.cells (idA x) 44)).heap.size (w.alloc (.cells (idA x) 44)) y → (Instr.loadAt 44 (.pointer (some ⟨w.heap.size, 0, none⟩))).run Tryd.prog y = .ok (.agg (idA x)) y := fun y hy => load_id arrG (by kernel_rfl) x _ _ _ (fun j v hj => (hy.cell (p := ⟨w.heap.size, 0 + j, none⟩) (by simp)).trans (hr j v hj))
  have L1 := L _ ((Below.refl _ _).alloc (Nat.le_refl _) (.cells #[.pointer none, .slice none 0 0] 58))
  clear L hr
  go_enter Tryd.func22, Tryd.ntmps22
  go_wp2_with (refine wpList_load_at rfl _ _ rfl _ _ rfl L1 ?_)
  go_loopw [7] (fun s7 wr => ∃ i : Nat, s7 = .int .i64 (i : Int) ∧ i ≤ 20 ∧ Bld (w.heap.size + 1) (w.heap.size + 1) (hexL (x.1.take i)) wr ∧ Below w.heap.size w wr) (fun s7 _ => 20 - (intOf s7).toNat)
  case atStart =>
    have h1 : (w.alloc (.cells (idA x) 44)).heap.size = w.heap.size + 1 := by simp
    have := bld_new (w.alloc (.cells (idA x) 44))
    rw [h1] at this
    exact ⟨0, rfl, by omega, this, ((Below.refl _ _).alloc (Nat.le_refl _) _).alloc (by simp) _⟩
  case round =>
    obtain ⟨i, rfl, hi, hbl, hb⟩ := hrel
    have hx := x.2
    by_cases hi20 : i < 20
    · have t1 : decide ((i : Int) < 20) = true := decide_eq_true (by omega)
      have t1' : decide (i < 20) = true := decide_eq_true (by omega)
      have hil : i < x.1.length := by omega
      have IX := fun W => index_id arrG x hil W
      have HS := Lib.hid (hexL_succ hil)
      generalize x.1[i] = c at *
      have hc := c.toNat_lt
      have D1 : ∀ W : World, (Instr.index 9 (.string ⟨#[48, 49, 50, 51, 52, 53, 54, 55, 56, 57, 97, 98, 99, 100, 101, 102]⟩) (.int .u8 ((c.toNat : Int) / 16))).run Tryd.prog W = .ok (.int .u8 ((hexd (c.toNat / 16)).toNat : Int)) W := fun W => by
        have := index_dig Tryd.underlying9 (n := c.toNat / 16) (by omega) W
        simpa using this
      have D2 : ∀ W : World, (Instr.index 9 (.string ⟨#[48, 49, 50, 51, 52, 53, 54, 55, 56, 57, 97, 98, 99, 100, 101, 102]⟩) (.int .u8 ((c.toNat : Int) % 16))).run Tryd.prog W = .ok (.int .u8 ((hexd (c.toNat % 16)).toNat : Int)) W := fun W => by
        have := index_dig Tryd.underlying9 (n := c.toNat % 16) (by omega) W
        simpa using this
      have hl : (hexL (x.1.take i)).length ≤ 40 := by rw [hexL_len, List.length_take]; omega
      have C1 := bld_byte _ _ _ (hexd (c.toNat / 16)) _ hbl (by omega) (by have := hb.size; have := hbl.elim (·.lt) (·.lt); omega)
      have HD2 := Lib.hid D2
      have HB := Lib.hid hb
      have HL := Lib.hid hl
      generalize hexL (x.1.take i) = acc at *
      generalize hexd (c.toNat / 16) = h1 at *
      generalize hexd (c.toNat % 16) = h2 at *
      clear D2 hbl hb hl hil
      go_wp2_with (refine wpList_index_at rfl _ _ _ rfl _ _ _ rfl rfl (D1 _) ?_)
      refine C1.mono ?_
      rintro e w2 ⟨rfl, hbl2, hb2⟩
      have hlt2 := hbl2.elim (·.lt) (·.lt)
      have C2 := bld_byte _ _ _ h2 _ hbl2 (by have := HL.out; simp; omega) (by omega)
      have D2 := HD2.out
      have HB2 := Lib.hid (HB.out.trans (hb2.mono (Nat.le_succ _)))
      clear hbl2 hb2 C1 D1 hlt2
      go_wp2_with (refine wpList_index_at rfl _ _ _ rfl _ _ _ rfl rfl (D2 _) ?_)
      refine C2.mono ?_
      rintro e w3 ⟨rfl, hbl3, hb3⟩
      rw [← HS.out] at hbl3
      have HB3 := Lib.hid (HB2.out.trans (hb3.mono (Nat.le_succ _)))
      clear C2 D2 hb3
      go_wp2_with fail
      go_roundw
      case rel => exact ⟨i + 1, by go_num, by omega, hbl3, HB3.out⟩
      case measure => simp [intOf]; omega
    · obtain rfl : i = 20 := by omega
      have t1 : decide (((20 : Nat) : Int) < 20) = false := rfl
      rw [List.take_of_length_le (by omega)] at hbl
      have C := Tryd.Builder_String_any _ _ _ _ hbl (by have := hbl.elim (·.lt) (·.lt); omega)
      have HB := Lib.hid hb
      clear hb hbl
      go_wp2_with fail
      refine C.mono ?_
      rintro e w2 ⟨rfl, hb2⟩
      have HB2 := Lib.hid (HB.out.trans (hb2.mono (Nat.le_succ _)))
      clear C hb2
      go_wp2_with fail
      go_ret
      exact ⟨rfl, HB2.out⟩
end Go.Proofs.YtifoledkmjlmoaaDoor
