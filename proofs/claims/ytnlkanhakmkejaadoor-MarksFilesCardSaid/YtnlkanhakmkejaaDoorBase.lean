/-
  Plain lemmas and words that all walks of this seat use: byte slices that are read, and how an argument is opened.
-/
import Derived.Test.YtnlkanhakmkejaaDoorChecked
import Derived.WalkKit
import Derived.ProofKit
import Derived.OpenShut
import Derived.ShutString
import Derived.ChangeOld
import Derived.Laws.BytesArg
import Derived.WalkLawsBesides
import Derived.WalkSpells
import Derived.Lib.Hide
import Derived.Lib.SlBytesConst
import Derived.Laws.AppendOwnNone
namespace Go.Proofs.YtnlkanhakmkejaaDoor
open Go.RowKit

/-- The slice at 'a' reads as the bytes l: it is empty, or its cells are l's. -/
def Bs (w : World) (a : Option Addr) (l : List UInt8) : Prop :=
  l = [] ∨ ∃ b off, a = some ⟨b, off, none⟩ ∧ ∀ j (h : j < l.length), w.cell? ⟨b, off + j, none⟩ = some (.int .u8 (l[j].toNat : Int))

theorem lt_of_cell {w : World} {p : Addr} {v : Value} (h : w.cell? p = some v) : p.block < w.heap.size := by
  rcases Nat.lt_or_ge p.block w.heap.size with h' | h'
  · exact h'
  · simp [World.cell?, Array.getElem?_eq_none h'] at h

theorem Bs.below {w w' : World} {a : Option Addr} {l : List UInt8} (h : Bs w a l) (hw : Below w.heap.size w w') : Bs w' a l := by
  rcases h with h | ⟨b, off, rfl, hc⟩
  · exact .inl h
  · exact .inr ⟨b, off, rfl, fun j hj => (hw.cell (p := ⟨b, off + j, none⟩) (lt_of_cell (hc j hj))).trans (hc j hj)⟩

theorem Bs.take {w : World} {a : Option Addr} {l : List UInt8} (h : Bs w a l) (n : Nat) : Bs w a (l.take n) := by
  rcases h with h | ⟨b, off, rfl, hc⟩
  · exact .inl (by simp [h])
  · exact .inr ⟨b, off, rfl, fun j hj => by rw [hc j (by simp at hj; omega)]; simp⟩

theorem ret_int {k : IntKind} {a b : Int} (h : a = b) : Ending.returned (.int k a) = .returned (.int k b) := by rw [h]
theorem ret_bool {a b : Bool} (h : a = b) : Ending.returned (.bool a) = .returned (.bool b) := by rw [h]

theorem heap_alloc_last (w : World) (o : Obj) (n : Nat) (h : n = w.heap.size) : (w.alloc o).heap[n]? = some o := by
  subst h; show (w.heap.push o)[w.heap.size]? = _; simp

/-- A block of the call's own whose cells are l. -/
theorem Bs.block {w : World} {b : Nat} {C : Array Value} {e : TypeId} {fr : Nat × Nat} {l : List UInt8} (h : w.heap[b]? = some (.cells C e fr))
    (hC : C.toList.take l.length = l.map fun x => Value.int .u8 (x.toNat : Int)) : Bs w (some ⟨b, 0, none⟩) l := by
  refine .inr ⟨b, 0, rfl, fun j hj => ?_⟩
  have h2 : (C.toList.take l.length)[j]? = (l.map fun x => Value.int .u8 (x.toNat : Int))[j]? := by rw [hC]
  rw [List.getElem?_take, if_pos hj, List.getElem?_map, List.getElem?_eq_getElem hj] at h2
  simp only [World.cell?, h, Nat.zero_add]
  simpa using h2

/-- '[]byte' of a constant: the new block keeps its place. -/
theorem run_convert_const {P : Program} (t e : TypeId) (ht : P.underlying t = some (.slice e)) (he : P.underlying e = some (.int .u8)) (w : World) (C : Array Value) (n c b : Nat) (hb : b = w.heap.size) :
    (convert t t (.slice (some ⟨b, 0, none⟩) n c)).run P (w.alloc (.cells C e)) = .ok (.slice (some ⟨b, 0, none⟩) n c) (w.alloc (.cells C e (C.size, C.size + 1))) := by
  subst hb; exact Lib.run_convert_bytes_const w t e C n c ht he

/-- 'string(b)'. -/
theorem run_string_of_bytes {P : Program} {w : World} {a : Option Addr} {l : List UInt8} (h : Bs w a l) (src e dst : TypeId) (hs : P.underlying src = some (.slice e)) (he : P.underlying e = some (.int .u8))
    (hd : P.underlying dst = some .string) (cap : Nat) : (convert src dst (.slice a l.length cap)).run P w = .ok (.string ⟨l.toArray⟩) w := by
  have e0 : (⟨#[]⟩ : ByteArray) = ByteArray.empty := rfl
  cases a with
  | none =>
    rcases h with rfl | ⟨b, off, h, _⟩
    · exact run_convert_bytes_nil w src e hs he 0 cap dst hd
    · simp at h
  | some x =>
    rcases h with rfl | ⟨b, off, h, hc⟩
    · rw [run_convert_bytes_string w src dst e _ _ cap hs he hd, run_bytesToString w x _ cap [] (by simp [loadCells, loadCellsFrom])]
      simp [e0]
    · obtain rfl : x = ⟨b, off, none⟩ := by simpa using h
      rw [run_convert_bytes_arg w src e hs he b off l.length cap (l.map fun x => (x.toNat : Int)) (by simp) (fun i hi => by rw [hc i hi]; simp [hi]) dst hd]
      have hm : (fun n : Int => UInt8.ofNat n.toNat) ∘ (fun x : UInt8 => (x.toNat : Int)) = id := by funext x; simp
      simp [strOfNums, hm]

/-- What the row's opening says of a slice of bytes, as bytes. -/
theorem open_row {w : World} {a : Option Addr} {len cap : Nat} {zs : List Int}
    (h : (a = none ∧ len = 0 ∧ cap = 0 ∧ zs = []) ∨ ∃ x, a = some x ∧ len ≤ cap ∧ cap ≤ maxLen ∧ zs.length = cap ∧ (∀ i, i < zs.length → w.cell? (x.add i) = some (.int .u8 (zs.getD i 0))) ∧ ∀ n ∈ zs, (Lit.int .u8 n).wf = true) :
    ∃ l : List UInt8, l.length = cap ∧ Bs w a l ∧ len ≤ cap ∧ cap ≤ 9223372036854775807 ∧ (a = none → len = 0 ∧ cap = 0) := by
  rcases h with ⟨rfl, rfl, rfl, rfl⟩ | ⟨x, rfl, h1, h2, h3, h4, h5⟩
  · exact ⟨[], rfl, .inl rfl, Nat.le_refl _, by decide, fun _ => ⟨rfl, rfl⟩⟩
  · unfold maxLen at h2
    refine ⟨zs.map fun n => UInt8.ofNat n.toNat, by simpa using h3, ?_, h1, by omega, fun h => by simp at h⟩
    cases zs with
    | nil => exact .inl rfl
    | cons z zs =>
      have h0 := h4 0 (by simp)
      obtain ⟨xb, xo, xs⟩ := x
      obtain rfl : xs = none := by
        have h7 := h0
        simp only [Addr.add, if_pos, World.cell?] at h7
        cases xs with
        | none => rfl
        | some y => split at h7 <;> simp at h7
      refine .inr ⟨xb, xo, rfl, fun j hj => ?_⟩
      have hj' : j < (z :: zs).length := by simpa using hj
      have h6 := h4 j hj'
      have hadd : (⟨xb, xo, none⟩ : Addr).add j = ⟨xb, xo + j, none⟩ := by unfold Addr.add; split <;> simp_all
      rw [hadd] at h6
      rw [h6]
      have hm := h5 ((z :: zs)[j]) (List.getElem_mem hj')
      have hr : 0 ≤ (z :: zs)[j] ∧ (z :: zs)[j] < 256 := by
        simp [Lit.wf, IntKind.min, IntKind.max, IntKind.signed, IntKind.bits] at hm
        constructor <;> omega
      have he : (z :: zs).getD j 0 = (z :: zs)[j] := by rw [List.getD_eq_getElem?_getD, List.getElem?_eq_getElem hj']; rfl
      rw [he]
      simp only [List.getElem_map]
      congr 2
      simp
      omega

/-- Bytes as cells. -/
def bcells (l : List UInt8) : List Value := l.map fun x => Value.int .u8 (x.toNat : Int)
theorem bcells_append (a b : List UInt8) : bcells (a ++ b) = bcells a ++ bcells b := by simp [bcells]
theorem bcells_length (a : List UInt8) : (bcells a).length = a.length := by simp [bcells]

/-- The slice v is the call's own (its block from 'base' on) and holds the bytes l. -/
def OwnB (w : World) (base : Nat) (v : Value) (l : List UInt8) : Prop := w.ownsRow base 5 1 v l.length (bcells l)

theorem OwnB.bs {w : World} {base : Nat} {v : Value} {l : List UInt8} (h : OwnB w base v l) :
    ∃ a cap, v = .slice a l.length cap ∧ Bs w a l ∧ l.length ≤ cap ∧ cap ≤ 9223372036854775807 ∧ (a = none → l = [] ∧ cap = 0) := by
  obtain ⟨_, h2⟩ := h
  rcases h2 with ⟨rfl, h0⟩ | ⟨g, cap, cur, rfl, _, hh, hn, hm, _, ht⟩
  · have e := List.eq_nil_of_length_eq_zero h0
    subst e
    exact ⟨none, 0, rfl, .inl rfl, Nat.le_refl _, by decide, fun _ => ⟨rfl, rfl⟩⟩
  · unfold maxLen at hm
    rw [Nat.mul_one] at ht
    exact ⟨some ⟨g, 0, none⟩, cap, rfl, .block hh ht, hn, by omega, fun h => by simp at h⟩

theorem OwnB.below {w w' : World} {base : Nat} {v : Value} {l : List UInt8} (h : OwnB w base v l) (hw : Below w.heap.size w w') : OwnB w' base v l :=
  World.ownsRow.kept h (row := none) ⟨hw.os, hw.tape, hw.output, hw.size, fun k hk _ => hw.block k hk⟩ (by cases v <;> simp [Value.ownBlock]; rename_i a _ _; cases a <;> simp)

theorem OwnB.nil (w : World) (base : Nat) : OwnB w base (.slice none 0 0) [] := World.ownsRow_nil w base _ _

/-- The element type's row of the table, and the law of append onto bytes of the call's own, from whatever bytes. -/
theorem infoByte : (Tryd.prog.info? 5).map (fun i => (i.zero, i.size, i.bytes)) = some (some (.int .u8 0), 1, 1) := by kernel_rfl

theorem wpList_append_bytes {w : World} {ops : Array Oper} {rest : List Oper} {o : Oper} {a : Act} {Q : Exit → Act → World → Prop} (hgd : o.guard = none) (s x : Operand)
    (ho : o.op = .call { callee := .builtin .append, args := #[s, x], argTypes := #[51, 51] })
    (base : Nat) (v : Value) (xs : List UInt8) (hs : a.eval s = v) (hown : OwnB w base v xs) (ad : Option Addr) (c : Nat) (l : List UInt8) (hx : a.eval x = .slice ad l.length c) (hl : Bs w ad l)
    (hn : ad = none → c = 0) (hlen : xs.length + l.length ≤ 140737488355328) (hbase : base ≤ w.heap.size)
    (h : ∀ v' w', OwnB w' base v' (xs ++ l) → w.grownBy w' v.ownBlock → wpList Tryd.prog ops Q rest (a.put o.dst v') w') : wpList Tryd.prog ops Q (o :: rest) a w := by
  obtain ⟨i, hi, hz0, hz1, hz2⟩ := info_parts infoByte
  cases ad with
  | none =>
    have e : l = [] := by rcases hl with h | ⟨b, off, h, _⟩; exact h; simp at h
    subst e
    obtain rfl := hn rfl
    refine wpList_append_own_none hgd s x 51 ho base 5 i 1 Tryd.underlying51 (by rw [hi]) v _ _ hs hown (by simpa using hx) ?_
    exact h v w (by rw [List.append_nil]; exact hown) ⟨rfl, rfl, rfl, Nat.le_refl _, fun _ _ _ => rfl⟩
  | some ad =>
    refine wpList_append_own w hgd s x 51 ho base 5 i (.int .u8 0) 1 1 Tryd.underlying51 hi hz0 hz1 hz2 rfl (by decide) v xs.length (bcells xs) hs hown ad l.length c (bcells l) hx (by simp [bcells_length]) ?_ ?_ (by unfold maxLen; omega) (by omega) hbase ?_
    · intro j u hj
      rcases hl with rfl | ⟨b, off, h, hc⟩
      · simp [bcells] at hj
      · obtain rfl : ad = ⟨b, off, none⟩ := by simpa using h
        have hjl : j < l.length := by
          rcases Nat.lt_or_ge j l.length with h' | h'
          · exact h'
          · rw [List.getElem?_eq_none (by rw [bcells_length]; omega)] at hj; simp at hj
        have hadd : (⟨b, off, none⟩ : Addr).add j = ⟨b, off + j, none⟩ := by unfold Addr.add; split <;> simp_all
        rw [hadd, hc j hjl]
        simp [bcells, List.getElem?_eq_getElem hjl] at hj
        rw [← hj]
    · intro u hu
      simp [bcells] at hu
      obtain ⟨y, _, rfl⟩ := hu
      rfl
    · intro v' w' h1 h2 _
      exact h v' w' (by unfold OwnB; rw [bcells_append, List.length_append]; exact h1) h2

theorem u32_of_wf {s : Int} (h : (Lit.int .u32 s).wf = true) : ∃ u : Nat, s = (u : Int) ∧ u < 4294967296 := by
  simp [Lit.wf, IntKind.min, IntKind.max, IntKind.signed, IntKind.bits] at h
  exact ⟨s.toNat, by omega, by omega⟩

/-- Bit by bit on int, of numbers that are not negative. -/
theorem wraps_i64 (n : Int) (h₀ : 0 ≤ n) (h₁ : n < 2 ^ 63) : IntKind.i64.wrap n = n := by rw [IntKind.wrap_i64]; omega
theorem i64_bits_nat (a b : Nat) (ha : a < 2 ^ 63) (hb : b < 2 ^ 63) :
    bits .and .i64 a b = ((a &&& b : Nat) : Int) ∧ bits .or .i64 a b = ((a ||| b : Nat) : Int) ∧ bits .xor .i64 a b = ((a ^^^ b : Nat) : Int) := by
  have h := bits_nat .i64 63 (by decide) wraps_i64 a b ha hb
  refine ⟨h.1, h.2, ?_⟩
  have ha' : a % 2 ^ IntKind.i64.bits = a := Nat.mod_eq_of_lt (Nat.lt_of_lt_of_le ha (by decide))
  have hb' : b % 2 ^ IntKind.i64.bits = b := Nat.mod_eq_of_lt (Nat.lt_of_lt_of_le hb (by decide))
  simp only [bits, BitVec.ofInt_natCast, BitVec.toNat_xor, BitVec.toNat_ofNat, ha', hb']
  have hx := Nat.xor_lt_two_pow ha hb
  exact wraps_i64 _ (Int.natCast_nonneg _) (by omega)

end Go.Proofs.YtnlkanhakmkejaaDoor
