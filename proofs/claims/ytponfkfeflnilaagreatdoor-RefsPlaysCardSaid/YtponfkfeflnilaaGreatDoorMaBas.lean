/-
  Plain lemmas and words that all walks of this seat use: byte slices that are read, and how an argument is opened.
  Slices of one-cell elements that are read: the address may be whatever the slice bears, so that no walk parts on nil.
  A region that draws its order, walked once in an order of our choice: operations that only read, or call what only makes new memory and hands back one known value ('calm'), may be taken first; any other operation ('loud') is taken where it alone may come up.
  The make follows the library's own two proofs on orders (Derived/Orders, Derived/Deep/Quiet), here over worlds that grow.
  A region's walk in an order of our choice, its goal behind a structure: nothing unfolds it unasked.
  Slices of slices of bytes: what 'b[k:]' and 'b[i:k]' read, at whatever address.
-/
import Derived.Test.YtponfkfeflnilaaGreatDoorChecked
import Derived.WalkKit
import Derived.ProofKit
import Derived.OpenShut
import Derived.ShutString
import Derived.ChangeOld
import Derived.Laws.BytesArg
import Derived.WalkLawsBesides
import Derived.WalkSpells
import Derived.Lib.Hide
import Derived.Lib.SlBytesConst
import Derived.Laws.AppendOwnNone
import Derived.Deep.Quiet
import Derived.Below
import Derived.Deep.Cut
namespace Go.Proofs.YtponfkfeflnilaaGreatDoor
open Go.RowKit

/-- The slice at 'a' reads as the bytes l: it is empty, or its cells are l's. -/
def Bs (w : World) (a : Option Addr) (l : List UInt8) : Prop :=
  l = [] ∨ ∃ b off, a = some ⟨b, off, none⟩ ∧ ∀ j (h : j < l.length), w.cell? ⟨b, off + j, none⟩ = some (.int .u8 (l[j].toNat : Int))

theorem lt_of_cell {w : World} {p : Addr} {v : Value} (h : w.cell? p = some v) : p.block < w.heap.size := by
  rcases Nat.lt_or_ge p.block w.heap.size with h' | h'
  · exact h'
  · simp [World.cell?, Array.getElem?_eq_none h'] at h

theorem Bs.below {w w' : World} {a : Option Addr} {l : List UInt8} (h : Bs w a l) (hw : Below w.heap.size w w') : Bs w' a l := by
  rcases h with h | ⟨b, off, rfl, hc⟩
  · exact .inl h
  · exact .inr ⟨b, off, rfl, fun j hj => (hw.cell (p := ⟨b, off + j, none⟩) (lt_of_cell (hc j hj))).trans (hc j hj)⟩

theorem Bs.take {w : World} {a : Option Addr} {l : List UInt8} (h : Bs w a l) (n : Nat) : Bs w a (l.take n) := by
  rcases h with h | ⟨b, off, rfl, hc⟩
  · exact .inl (by simp [h])
  · exact .inr ⟨b, off, rfl, fun j hj => by rw [hc j (by simp at hj; omega)]; simp⟩

theorem ret_int {k : IntKind} {a b : Int} (h : a = b) : Ending.returned (.int k a) = .returned (.int k b) := by rw [h]
theorem ret_bool {a b : Bool} (h : a = b) : Ending.returned (.bool a) = .returned (.bool b) := by rw [h]

theorem heap_alloc_last (w : World) (o : Obj) (n : Nat) (h : n = w.heap.size) : (w.alloc o).heap[n]? = some o := by
  subst h; show (w.heap.push o)[w.heap.size]? = _; simp

/-- A block of the call's own whose cells are l. -/
theorem Bs.block {w : World} {b : Nat} {C : Array Value} {e : TypeId} {fr : Nat × Nat} {l : List UInt8} (h : w.heap[b]? = some (.cells C e fr))
    (hC : C.toList.take l.length = l.map fun x => Value.int .u8 (x.toNat : Int)) : Bs w (some ⟨b, 0, none⟩) l := by
  refine .inr ⟨b, 0, rfl, fun j hj => ?_⟩
  have h2 : (C.toList.take l.length)[j]? = (l.map fun x => Value.int .u8 (x.toNat : Int))[j]? := by rw [hC]
  rw [List.getElem?_take, if_pos hj, List.getElem?_map, List.getElem?_eq_getElem hj] at h2
  simp only [World.cell?, h, Nat.zero_add]
  simpa using h2

/-- '[]byte' of a constant: the new block keeps its place. -/
theorem run_convert_const {P : Program} (t e : TypeId) (ht : P.underlying t = some (.slice e)) (he : P.underlying e = some (.int .u8)) (w : World) (C : Array Value) (n c b : Nat) (hb : b = w.heap.size) :
    (convert t t (.slice (some ⟨b, 0, none⟩) n c)).run P (w.alloc (.cells C e)) = .ok (.slice (some ⟨b, 0, none⟩) n c) (w.alloc (.cells C e (C.size, C.size + 1))) := by
  subst hb; exact Lib.run_convert_bytes_const w t e C n c ht he

/-- 'string(b)'. -/
theorem run_string_of_bytes {P : Program} {w : World} {a : Option Addr} {l : List UInt8} (h : Bs w a l) (src e dst : TypeId) (hs : P.underlying src = some (.slice e)) (he : P.underlying e = some (.int .u8))
    (hd : P.underlying dst = some .string) (cap : Nat) : (convert src dst (.slice a l.length cap)).run P w = .ok (.string ⟨l.toArray⟩) w := by
  have e0 : (⟨#[]⟩ : ByteArray) = ByteArray.empty := rfl
  cases a with
  | none =>
    rcases h with rfl | ⟨b, off, h, _⟩
    · exact run_convert_bytes_nil w src e hs he 0 cap dst hd
    · simp at h
  | some x =>
    rcases h with rfl | ⟨b, off, h, hc⟩
    · rw [run_convert_bytes_string w src dst e _ _ cap hs he hd, run_bytesToString w x _ cap [] (by simp [loadCells, loadCellsFrom])]
      simp [e0]
    · obtain rfl : x = ⟨b, off, none⟩ := by simpa using h
      rw [run_convert_bytes_arg w src e hs he b off l.length cap (l.map fun x => (x.toNat : Int)) (by simp) (fun i hi => by rw [hc i hi]; simp [hi]) dst hd]
      have hm : (fun n : Int => UInt8.ofNat n.toNat) ∘ (fun x : UInt8 => (x.toNat : Int)) = id := by funext x; simp
      simp [strOfNums, hm]

/-- What the row's opening says of a slice of bytes, as bytes. -/
theorem open_row {w : World} {a : Option Addr} {len cap : Nat} {zs : List Int}
    (h : (a = none ∧ len = 0 ∧ cap = 0 ∧ zs = []) ∨ ∃ x, a = some x ∧ len ≤ cap ∧ cap ≤ maxLen ∧ zs.length = cap ∧ (∀ i, i < zs.length → w.cell? (x.add i) = some (.int .u8 (zs.getD i 0))) ∧ ∀ n ∈ zs, (Lit.int .u8 n).wf = true) :
    ∃ l : List UInt8, l.length = cap ∧ Bs w a l ∧ len ≤ cap ∧ cap ≤ 9223372036854775807 ∧ (a = none → len = 0 ∧ cap = 0) := by
  rcases h with ⟨rfl, rfl, rfl, rfl⟩ | ⟨x, rfl, h1, h2, h3, h4, h5⟩
  · exact ⟨[], rfl, .inl rfl, Nat.le_refl _, by decide, fun _ => ⟨rfl, rfl⟩⟩
  · unfold maxLen at h2
    refine ⟨zs.map fun n => UInt8.ofNat n.toNat, by simpa using h3, ?_, h1, by omega, fun h => by simp at h⟩
    cases zs with
    | nil => exact .inl rfl
    | cons z zs =>
      have h0 := h4 0 (by simp)
      obtain ⟨xb, xo, xs⟩ := x
      obtain rfl : xs = none := by
        have h7 := h0
        simp only [Addr.add, if_pos, World.cell?] at h7
        cases xs with
        | none => rfl
        | some y => split at h7 <;> simp at h7
      refine .inr ⟨xb, xo, rfl, fun j hj => ?_⟩
      have hj' : j < (z :: zs).length := by simpa using hj
      have h6 := h4 j hj'
      have hadd : (⟨xb, xo, none⟩ : Addr).add j = ⟨xb, xo + j, none⟩ := by unfold Addr.add; split <;> simp_all
      rw [hadd] at h6
      rw [h6]
      have hm := h5 ((z :: zs)[j]) (List.getElem_mem hj')
      have hr : 0 ≤ (z :: zs)[j] ∧ (z :: zs)[j] < 256 := by
        simp [Lit.wf, IntKind.min, IntKind.max, IntKind.signed, IntKind.bits] at hm
        constructor <;> omega
      have he : (z :: zs).getD j 0 = (z :: zs)[j] := by rw [List.getD_eq_getElem?_getD, List.getElem?_eq_getElem hj']; rfl
      rw [he]
      simp only [List.getElem_map]
      congr 2
      simp
      omega

/-- Bytes as cells. -/
def bcells (l : List UInt8) : List Value := l.map fun x => Value.int .u8 (x.toNat : Int)
theorem bcells_append (a b : List UInt8) : bcells (a ++ b) = bcells a ++ bcells b := by simp [bcells]
theorem bcells_length (a : List UInt8) : (bcells a).length = a.length := by simp [bcells]

/-- The slice v is the call's own (its block from 'base' on) and holds the bytes l. -/
def OwnB (w : World) (base : Nat) (v : Value) (l : List UInt8) : Prop := w.ownsRow base 5 1 v l.length (bcells l)

theorem OwnB.bs {w : World} {base : Nat} {v : Value} {l : List UInt8} (h : OwnB w base v l) :
    ∃ a cap, v = .slice a l.length cap ∧ Bs w a l ∧ l.length ≤ cap ∧ cap ≤ 9223372036854775807 ∧ (a = none → l = [] ∧ cap = 0) := by
  obtain ⟨_, h2⟩ := h
  rcases h2 with ⟨rfl, h0⟩ | ⟨g, cap, cur, rfl, _, hh, hn, hm, _, ht⟩
  · have e := List.eq_nil_of_length_eq_zero h0
    subst e
    exact ⟨none, 0, rfl, .inl rfl, Nat.le_refl _, by decide, fun _ => ⟨rfl, rfl⟩⟩
  · unfold maxLen at hm
    rw [Nat.mul_one] at ht
    exact ⟨some ⟨g, 0, none⟩, cap, rfl, .block hh ht, hn, by omega, fun h => by simp at h⟩

theorem OwnB.below {w w' : World} {base : Nat} {v : Value} {l : List UInt8} (h : OwnB w base v l) (hw : Below w.heap.size w w') : OwnB w' base v l :=
  World.ownsRow.kept h (row := none) ⟨hw.os, hw.tape, hw.output, hw.size, fun k hk _ => hw.block k hk⟩ (by cases v <;> simp [Value.ownBlock]; rename_i a _ _; cases a <;> simp)

theorem OwnB.nil (w : World) (base : Nat) : OwnB w base (.slice none 0 0) [] := World.ownsRow_nil w base _ _

/-- The element type's row of the table, and the law of append onto bytes of the call's own, from whatever bytes. -/
theorem infoByte : (Tryz.prog.info? 5).map (fun i => (i.zero, i.size, i.bytes)) = some (some (.int .u8 0), 1, 1) := by kernel_rfl

theorem wpList_append_bytes {w : World} {ops : Array Oper} {rest : List Oper} {o : Oper} {a : Act} {Q : Exit → Act → World → Prop} (hgd : o.guard = none) (s x : Operand)
    (ho : o.op = .call { callee := .builtin .append, args := #[s, x], argTypes := #[24, 24] })
    (base : Nat) (v : Value) (xs : List UInt8) (hs : a.eval s = v) (hown : OwnB w base v xs) (ad : Option Addr) (c : Nat) (l : List UInt8) (hx : a.eval x = .slice ad l.length c) (hl : Bs w ad l)
    (hn : ad = none → c = 0) (hlen : xs.length + l.length ≤ 140737488355328) (hbase : base ≤ w.heap.size)
    (h : ∀ v' w', OwnB w' base v' (xs ++ l) → w.grownBy w' v.ownBlock → wpList Tryz.prog ops Q rest (a.put o.dst v') w') : wpList Tryz.prog ops Q (o :: rest) a w := by
  obtain ⟨i, hi, hz0, hz1, hz2⟩ := info_parts infoByte
  cases ad with
  | none =>
    have e : l = [] := by rcases hl with h | ⟨b, off, h, _⟩; exact h; simp at h
    subst e
    obtain rfl := hn rfl
    refine wpList_append_own_none hgd s x 24 ho base 5 i 1 Tryz.underlying24 (by rw [hi]) v _ _ hs hown (by simpa using hx) ?_
    exact h v w (by rw [List.append_nil]; exact hown) ⟨rfl, rfl, rfl, Nat.le_refl _, fun _ _ _ => rfl⟩
  | some ad =>
    refine wpList_append_own w hgd s x 24 ho base 5 i (.int .u8 0) 1 1 Tryz.underlying24 hi hz0 hz1 hz2 rfl (by decide) v xs.length (bcells xs) hs hown ad l.length c (bcells l) hx (by simp [bcells_length]) ?_ ?_ (by unfold maxLen; omega) (by omega) hbase ?_
    · intro j u hj
      rcases hl with rfl | ⟨b, off, h, hc⟩
      · simp [bcells] at hj
      · obtain rfl : ad = ⟨b, off, none⟩ := by simpa using h
        have hjl : j < l.length := by
          rcases Nat.lt_or_ge j l.length with h' | h'
          · exact h'
          · rw [List.getElem?_eq_none (by rw [bcells_length]; omega)] at hj; simp at hj
        have hadd : (⟨b, off, none⟩ : Addr).add j = ⟨b, off + j, none⟩ := by unfold Addr.add; split <;> simp_all
        rw [hadd, hc j hjl]
        simp [bcells, List.getElem?_eq_getElem hjl] at hj
        rw [← hj]
    · intro u hu
      simp [bcells] at hu
      obtain ⟨y, _, rfl⟩ := hu
      rfl
    · intro v' w' h1 h2 _
      exact h v' w' (by unfold OwnB; rw [bcells_append, List.length_append]; exact h1) h2

theorem u32_of_wf {s : Int} (h : (Lit.int .u32 s).wf = true) : ∃ u : Nat, s = (u : Int) ∧ u < 4294967296 := by
  simp [Lit.wf, IntKind.min, IntKind.max, IntKind.signed, IntKind.bits] at h
  exact ⟨s.toNat, by omega, by omega⟩

/-- Bit by bit on int, of numbers that are not negative. -/
theorem wraps_i64 (n : Int) (h₀ : 0 ≤ n) (h₁ : n < 2 ^ 63) : IntKind.i64.wrap n = n := by rw [IntKind.wrap_i64]; omega
theorem i64_bits_nat (a b : Nat) (ha : a < 2 ^ 63) (hb : b < 2 ^ 63) :
    bits .and .i64 a b = ((a &&& b : Nat) : Int) ∧ bits .or .i64 a b = ((a ||| b : Nat) : Int) ∧ bits .xor .i64 a b = ((a ^^^ b : Nat) : Int) := by
  have h := bits_nat .i64 63 (by decide) wraps_i64 a b ha hb
  refine ⟨h.1, h.2, ?_⟩
  have ha' : a % 2 ^ IntKind.i64.bits = a := Nat.mod_eq_of_lt (Nat.lt_of_lt_of_le ha (by decide))
  have hb' : b % 2 ^ IntKind.i64.bits = b := Nat.mod_eq_of_lt (Nat.lt_of_lt_of_le hb (by decide))
  simp only [bits, BitVec.ofInt_natCast, BitVec.toNat_xor, BitVec.toNat_ofNat, ha', hb']
  have hx := Nat.xor_lt_two_pow ha hb
  exact wraps_i64 _ (Int.natCast_nonneg _) (by omega)

end Go.Proofs.YtponfkfeflnilaaGreatDoor
namespace Go.Proofs.YtponfkfeflnilaaGreatDoor
open Go.RowKit

/-- Where element k of a slice at a lies. -/
def elt (a : Option Addr) (k : Nat) : Addr := (a.getD default).add k

/-- The slice at a begins with the cells vs. -/
def Cells (w : World) (a : Option Addr) (vs : List Value) : Prop := (a = none → vs = []) ∧ ∀ j (h : j < vs.length), w.cell? (elt a j) = some vs[j]

theorem Cells.below {w w' : World} {a : Option Addr} {vs : List Value} (h : Cells w a vs) (hw : Below w.heap.size w w') : Cells w' a vs :=
  ⟨h.1, fun j hj => (hw.cell (p := elt a j) (lt_of_cell (h.2 j hj))).trans (h.2 j hj)⟩

theorem Cells.take {w : World} {a : Option Addr} {vs : List Value} (h : Cells w a vs) (n : Nat) : Cells w a (vs.take n) :=
  ⟨fun e => by rw [h.1 e]; simp, fun j hj => by rw [h.2 j (by simp at hj; omega)]; simp⟩

theorem Cells.isSome {w : World} {a : Option Addr} {vs : List Value} (h : Cells w a vs) {k : Nat} (hk : k < vs.length) : ∃ x, a = some x := by
  cases a with
  | none => rw [h.1 rfl] at hk; simp at hk
  | some x => exact ⟨x, rfl⟩

theorem Bs.cells {w : World} {a : Option Addr} {l : List UInt8} (h : Bs w a l) : Cells w a (bcells l) := by
  rcases h with rfl | ⟨b, off, rfl, hc⟩
  · exact ⟨fun _ => rfl, fun j hj => by simp [bcells] at hj⟩
  · refine ⟨fun e => by simp at e, fun j hj => ?_⟩
    have hadd : elt (some ⟨b, off, none⟩) j = ⟨b, off + j, none⟩ := by unfold elt Addr.add; simp only [Option.getD_some]; split <;> simp_all
    rw [hadd, hc j (by simpa [bcells] using hj)]
    simp [bcells]

theorem Cells.bs {w : World} {a : Option Addr} {l : List UInt8} (h : Cells w a (bcells l)) : Bs w a l := by
  cases l with
  | nil => exact .inl rfl
  | cons x l =>
    obtain ⟨y, rfl⟩ := h.isSome (k := 0) (by simp [bcells])
    have h0 := h.2 0 (by simp [bcells])
    obtain ⟨yb, yo, ys⟩ := y
    obtain rfl : ys = none := by
      simp only [elt, Option.getD_some, Addr.add, if_pos, World.cell?] at h0
      cases ys with
      | none => rfl
      | some z => split at h0 <;> simp at h0
    refine .inr ⟨yb, yo, rfl, fun j hj => ?_⟩
    have hadd : elt (some ⟨yb, yo, none⟩) j = ⟨yb, yo + j, none⟩ := by unfold elt Addr.add; simp only [Option.getD_some]; split <;> simp_all
    rw [← hadd, h.2 j (by simpa [bcells] using hj)]
    simp only [bcells, List.getElem_map]

theorem Bs.cell {w : World} {a : Option Addr} {l : List UInt8} (h : Bs w a l) {k : Nat} (hk : k < l.length) : w.cell? (elt a k) = some (.int .u8 (l[k].toNat : Int)) := by
  rw [h.cells.2 k (by simpa [bcells] using hk)]; simp [bcells]

/-- 's[k]' of whatever slice of one-cell elements, k within its length. -/
theorem run_index_any {P : Program} {w0 : World} {a : Option Addr} {vs : List Value} (h : Cells w0 a vs) (t : TypeId) {e : TypeId} (ht : P.underlying t = some (.slice e)) (hs : ∀ w : World, (sizeOf e).run P w = .ok 1 w) (cap : Nat) {n k : Nat} (hk : k < n) (hn : n ≤ vs.length) (kd : IntKind) (w : World) :
    (Instr.indexAt t (.slice a n cap) (.int kd (k : Int))).run P w = .ok (.pointer (some (elt a k))) w := by
  obtain ⟨x, rfl⟩ := h.isSome (k := k) (by omega)
  have he : P.elem t = e := by simp [Program.elem, ht]
  rw [run_indexAt_slice w t x n cap kd k (by rw [he]; exact ht), if_pos ⟨by omega, by omega⟩, he, hs]
  simp [Result.andThen, elt]

/-- 's[:k]', k within the capacity. -/
theorem run_slice_to {P : Program} (t : TypeId) {e : TypeId} (ht : P.underlying t = some (.slice e)) (a : Option Addr) (len cap k : Nat) (hk : k ≤ cap) (hn : a = none → cap = 0) {n : Nat} (hs : ∀ w : World, (sizeOf e).run P w = .ok n w) (w : World) :
    (Instr.slice t (.slice a len cap) none (some (.int .i64 (k : Int))) none).run P w = .ok (.slice a k cap) w := by
  have he : P.elem t = e := by simp [Program.elem, ht]
  rw [run_slice_h w t a len cap (by rw [he]; exact ht) .i64 k (by omega) (by omega), he, hs]
  cases a with
  | none => simp [Result.andThen, sliced]
  | some x => simp [Result.andThen, sliced, Addr.add]

/-- 'min' of four integers. -/
@[go_sem] theorem run_min_int4 {P : Program} (w : World) (ts : Array TypeId) (t : TypeId) (k k' k'' k3 : IntKind) (x y z u : Int) :
    (Builtin.min_ ts t #[.int k x, .int k' y, .int k'' z, .int k3 u]).run P w = .ok (.int k (min x (min y (min z u)))) w := by
  simp [Builtin.min_, Builtin.min2]
  omega

end Go.Proofs.YtponfkfeflnilaaGreatDoor
namespace Go.Mix
open Go.RowKit

/-- w' is w with new memory; what was there has not changed. -/
def Grow (w w' : World) : Prop := Below w.heap.size w w'
theorem Grow.refl (w : World) : Grow w w := Below.refl _ _
theorem Grow.trans {a b c : World} (h : Grow a b) (k : Grow b c) : Grow a c := Below.trans h (Below.mono k (Below.size h))
theorem Grow.drew (w : World) : Grow w w.drew := (Below.refl _ _).drew

/-- A world behind w. -/
def Later (w : World) := { w' : World // Grow w w' }

instance (w : World) : Nonempty (Later w) := ⟨⟨w, Grow.refl w⟩⟩

def NoQ : Exit → Act → World → Prop := fun _ _ _ => False

section
variable {P : Program} {ops : Array Oper} {md : Region.Mode} {Q : Act → World → Prop}

def calmUpon (P : Program) (w : World) (v : Value) : Result Next → Prop
  | .ok (.value u) w' => w' = w ∧ u = v
  | .ok .skip w' => w' = w ∧ v = undef
  | .ok (.enter f args) w' => w' = w ∧ Calls P f args w (fun e w'' => e = .returned v ∧ Grow w w'')
  | _ => False

def calmAt (P : Program) (o : Oper) (a : Act) (w : World) (v : Value) : Prop := calmUpon P w v ((execOp a.eval o).run P w)

def CalmIn (P : Program) (ops : Array Oper) (w : World) (o : Oper) (v : Value) (a : Act) : Prop :=
  (Region.wanted o (yielded ops a.tmps) = true ∧ ∀ w', Grow w w' → calmAt P o a w' v) ∨ (Region.wanted o (yielded ops a.tmps) = false ∧ v = undef)

theorem CalmIn.of_same {w : World} {o : Oper} {v : Value} {a a' : Act} (hy : CalmIn P ops w o v a) (he : execOp a'.eval o = execOp a.eval o)
    (hw : Region.wanted o (yielded ops a'.tmps) = Region.wanted o (yielded ops a.tmps)) : CalmIn P ops w o v a' := by
  unfold CalmIn calmAt at *
  rw [he, hw]
  exact hy

theorem CalmIn.later {w w' : World} {o : Oper} {v : Value} {a : Act} (hy : CalmIn P ops w o v a) (hg : Grow w w') : CalmIn P ops w' o v a :=
  hy.imp (fun h => ⟨h.1, fun x hx => h.2 x (hg.trans hx)⟩) id

def opG (P : Program) (ops : Array Oper) (i : Nat) (K : Act → World → Prop) (a : Act) (w : World) : Prop :=
  match ops[i]? with
  | none => K a w
  | some o => if Region.wanted o (yielded ops a.tmps) then o.wp P a w K NoQ else K (a.put o.dst undef) w

theorem opG_mono {i : Nat} {a : Act} {w : World} {K K' : Act → World → Prop} (h : ∀ a w, K a w → K' a w) (hh : opG P ops i K a w) : opG P ops i K' a w := by
  unfold opG at *
  split
  · exact h _ _ (by simpa [*] using hh)
  · rename_i o ho
    simp only [ho] at hh
    split
    · rename_i hw; simp only [hw, if_true] at hh; exact Oper.wp_mono h hh
    · rename_i hw; simp only [hw] at hh; exact h _ _ hh

theorem wp_of_noQ {o : Oper} {a : Act} {w : World} {K : Act → World → Prop} {Q' : Exit → Act → World → Prop} (hh : o.wp P a w K NoQ) : o.wp P a w K Q' := by
  unfold Oper.wp at *
  generalize (execOp a.eval o).run P w = r at *
  cases r with
  | ok n w' =>
    cases n <;> simp only [Oper.upon] at hh ⊢
    case enter f args =>
      exact Calls.mono hh fun e w'' he => by
        cases e with
        | returned u => exact he
        | panicked c => exact he.elim
        | outgrown => obtain ⟨_, _, h⟩ := he; exact h.elim
    all_goals exact hh
  | halt x w' => cases x <;> simp only [Oper.upon] at hh ⊢ <;> exact hh.elim

/-- S: the operations that need not leave old memory alone ('sync'): each comes behind all that was taken first. -/
def anyG (P : Program) (md : Region.Mode) (ops : Array Oper) (S : Nat → Bool) (Q : Act → World → Prop) : Nat → Array Bool → Act → World → Prop
  | 0, listed, a, w => ∀ w', Grow w w' → Region.ready md ops listed = [] ∧ Q a w'
  | fuel + 1, listed, a, w => ∀ w', Grow w w' → (Region.ready md ops listed = [] → Q a w') ∧
      ∀ i ∈ Region.ready md ops listed, opG P ops i (fun a' w'' => (S i = false → Grow w' w'') ∧ anyG P md ops S Q fuel (listed.setIfInBounds i true) a' w'') a w'

variable {S : Nat → Bool}

theorem anyG_later : ∀ {fuel : Nat} {listed : Array Bool} {a : Act} {w w' : World}, anyG P md ops S Q fuel listed a w → Grow w w' → anyG P md ops S Q fuel listed a w'
  | 0, _, _, _, _, h, hg => fun x hx => h x (hg.trans hx)
  | _ + 1, _, _, _, _, h, hg => fun x hx => h x (hg.trans hx)

theorem wpAny_of_G {Q' : Exit → Act → World → Prop} (hQ : ∀ a w, Q a w → Q' .normal a w) : ∀ (fuel : Nat) (listed : Array Bool) (a : Act) (w : World),
    anyG P md ops S Q fuel listed a w → wpAny P md ops Q' fuel listed a w
  | 0, _, _, w, h => ⟨(h w (Grow.refl w)).1, hQ _ _ (h w (Grow.refl w)).2⟩
  | fuel + 1, listed, a, w, h => ⟨fun h0 => hQ _ _ ((h w (Grow.refl w)).1 h0), fun i hi => by
      have h1 := (h w (Grow.refl w)).2 i hi
      have h2 := opG_mono (K' := wpAny P md ops Q' fuel (listed.setIfInBounds i true)) (fun a' w' hh => wpAny_of_G hQ fuel _ a' w' hh.2) h1
      unfold opG at h2
      unfold wpOp
      split
      · rename_i ho; simp only [ho] at h2; exact h2
      · rename_i o ho
        simp only [ho] at h2
        split
        · rename_i hw; simp only [hw, if_true] at h2; exact .inl (wp_of_noQ h2)
        · rename_i hw; simp only [hw] at h2; exact h2⟩

/-- What has come up has come up behind what it waits for. -/
def Closed (md : Region.Mode) (ops : Array Oper) (listed : Array Bool) : Prop :=
  ∀ j oj, ops[j]? = some oj → listed.getD j false = true → ∀ e ∈ oj.after, Region.binds md e = true → listed.getD e.on false = true

theorem Closed.set {i : Nat} {listed : Array Bool} (inv : Closed md ops listed) (hi : i ∈ Region.ready md ops listed) : Closed md ops (listed.setIfInBounds i true) := by
  obtain ⟨_, oi, hoi, hall⟩ := mem_ready.1 hi
  intro j oj hj hl e he hb
  by_cases hij : i = j
  · subst hij
    have : oj = oi := Option.some.inj (hj.symm.trans hoi)
    subst this
    exact getD_set_true (hall e he hb)
  · rw [getD_set_ne false hij] at hl
    exact getD_set_true (inv j oj hj hl e he hb)

/-- Operation j comes up behind i. -/
def ancB (md : Region.Mode) (ops : Array Oper) : Nat → Nat → Nat → Bool
  | 0, _, _ => false
  | f + 1, i, j => match ops[j]? with
    | some oj => oj.after.any fun e => Region.binds md e && (e.on == i || ancB md ops f i e.on)
    | none => false

theorem ancB_listed {listed : Array Bool} (inv : Closed md ops listed) : ∀ (f i j : Nat), ancB md ops f i j = true → listed.getD j false = true → listed.getD i false = true
  | f + 1, i, j, h, hl => by
    unfold ancB at h
    split at h
    · rename_i oj hj
      obtain ⟨e, he, hb⟩ := Array.any_eq_true'.1 h
      simp only [Bool.and_eq_true, Bool.or_eq_true, beq_iff_eq] at hb
      have h1 := inv j oj hj hl e he hb.1
      rcases hb.2 with h2 | h2
      · rw [← h2]; exact h1
      · exact ancB_listed inv f i e.on h2 h1
    · cases h

theorem ancB_ready {listed : Array Bool} (inv : Closed md ops listed) (f i j : Nat) (h : ancB md ops f i j = true) (hr : j ∈ Region.ready md ops listed) : listed.getD i false = true := by
  cases f with
  | zero => cases h
  | succ f =>
    obtain ⟨_, oj, hoj, hall⟩ := mem_ready.1 hr
    unfold ancB at h
    rw [hoj] at h
    obtain ⟨e, he, hb⟩ := Array.any_eq_true'.1 h
    simp only [Bool.and_eq_true, Bool.or_eq_true, beq_iff_eq] at hb
    have h1 := hall e he hb.1
    rcases hb.2 with h2 | h2
    · rw [← h2]; exact h1
    · exact ancB_listed inv f i e.on h2 h1

theorem CalmIn.opG {i : Nat} {o : Oper} {v : Value} {a : Act} {w w' : World} (hi : ops[i]? = some o) (hy : CalmIn P ops w o v a) (hg : Grow w w') {K : Act → World → Prop}
    (h : ∀ w'', Grow w' w'' → K (a.put o.dst v) w'') : opG P ops i K a w' := by
  unfold Mix.opG
  simp only [hi]
  rcases hy with ⟨hw, hv⟩ | ⟨hw, rfl⟩
  · simp only [hw, if_true]
    have h3 := hv w' hg
    unfold calmAt at h3
    unfold Oper.wp
    generalize (execOp a.eval o).run P w' = r at *
    cases r with
    | ok n x =>
      cases n <;> simp only [calmUpon] at h3 <;> simp only [Oper.upon]
      case value u => obtain ⟨e1, e2⟩ := h3; rw [e1, e2]; exact h _ (Grow.refl _)
      case skip => obtain ⟨e1, e2⟩ := h3; rw [e1, ← e2]; exact h _ (Grow.refl _)
      case enter f args =>
        obtain ⟨e1, hc⟩ := h3
        rw [e1]
        exact hc.mono fun e w'' ⟨he, hw''⟩ => by subst he; exact h _ hw''
    | halt x y => simp only [calmUpon] at h3
  · simp only [hw, Bool.false_eq_true, if_false]; exact h _ (Grow.refl _)

theorem opG_putY {j : Nat} {oi oj : Oper} {v : Value} (Y : Act → Prop) (hj : ops[j]? = some oj) (hap : oi.apart ops oj = true)
    (hsj : ∀ cs b, oj.op ≠ .select cs b) (keep : ∀ (a : Act), Y a → ∀ u, Y (a.put oj.dst u)) {K : Act → World → Prop} {a : Act} {w : World} (keepD : ∀ d, Y { a with defers := d :: a.defers })
    (hy : Y a) (h : opG P ops j K (a.put oi.dst v) w) :
    opG P ops j (fun a' w' => Y a' ∧ K (a'.put oi.dst v) w') a w := by
  obtain ⟨h1, h2, h3⟩ := Oper.apart_spec hap
  unfold opG at *
  simp only [hj] at *
  rw [wanted_put oj a oi.dst v h1] at h
  split
  · rename_i hw
    simp only [hw, if_true] at h
    unfold Oper.wp at *
    rw [execOp_put oj hsj a oi.dst v h1] at h
    generalize (execOp a.eval oj).run P w = r at *
    cases r with
    | ok n w' =>
      cases n <;> simp only [Oper.upon] at h ⊢
      case value u => exact ⟨keep a hy u, by rw [← Act.put_comm a v u h2]; exact h⟩
      case skip => exact ⟨keep a hy _, by rw [← Act.put_comm a v undef h2]; exact h⟩
      case defer d =>
        refine ⟨keep _ (keepD d) _, ?_⟩
        rw [← Act.put_comm _ v undef h2, ← Act.put_defers]
        exact h
      case enter f args =>
        refine Calls.mono h fun e w'' he => ?_
        cases e with
        | returned u => exact ⟨keep a hy u, by rw [← Act.put_comm a v u h2]; exact he⟩
        | panicked c => exact he
        | outgrown => exact he
      case row row args => exact Rows.mono h fun u w'' he => ⟨keep a hy u, by rw [← Act.put_comm a v u h2]; exact he⟩
    | halt x w' => cases x <;> simp only [Oper.upon] at h ⊢ <;> exact h
  · rename_i hw
    simp only [hw] at h
    exact ⟨keep a hy _, by rw [← Act.put_comm a v undef h2]; exact h⟩

theorem opG_put {j : Nat} {oi oj : Oper} {v : Value} (hj : ops[j]? = some oj) (hap : oi.apart ops oj = true)
    (hsi : ∀ cs b, oi.op ≠ .select cs b) (hsj : ∀ cs b, oj.op ≠ .select cs b) {K : Act → World → Prop} {a : Act} {w w0 : World}
    (hy : CalmIn P ops w0 oi v a) (h : opG P ops j K (a.put oi.dst v) w) :
    opG P ops j (fun a' w' => CalmIn P ops w0 oi v a' ∧ K (a'.put oi.dst v) w') a w := by
  obtain ⟨_, _, h3⟩ := Oper.apart_spec hap
  exact opG_putY (CalmIn P ops w0 oi v) hj hap hsj (fun a hy u => hy.of_same (execOp_put oi hsi a oj.dst u h3) (wanted_put oi a oj.dst u h3)) (fun d => hy.of_same rfl rfl) hy h

/-- Calm in every world. -/
def PureIn (P : Program) (ops : Array Oper) (o : Oper) (v : Value) (a : Act) : Prop :=
  (Region.wanted o (yielded ops a.tmps) = true ∧ ∀ w', calmAt P o a w' v) ∨ (Region.wanted o (yielded ops a.tmps) = false ∧ v = undef)

theorem PureIn.calm {o : Oper} {v : Value} {a : Act} (h : PureIn P ops o v a) (w : World) : CalmIn P ops w o v a := h.imp (fun h => ⟨h.1, fun x _ => h.2 x⟩) id

theorem PureIn.of_same {o : Oper} {v : Value} {a a' : Act} (hy : PureIn P ops o v a) (he : execOp a'.eval o = execOp a.eval o)
    (hw : Region.wanted o (yielded ops a'.tmps) = Region.wanted o (yielded ops a.tmps)) : PureIn P ops o v a' := by
  unfold PureIn calmAt at *
  rw [he, hw]
  exact hy

theorem anyG_pure {i : Nat} {oi : Oper} {v : Value} (hi : ops[i]? = some oi) (hsel : ∀ (j : Nat) (o : Oper) cs b, ops[j]? = some o → o.op ≠ .select cs b) :
    ∀ (fuel : Nat) (listed : Array Bool) (a : Act) (w : World),
      (∀ j oj, ops[j]? = some oj → j ≠ i → listed.getD j true = false → (∀ e ∈ oj.after, Region.binds md e = true → e.on ≠ i) → oi.apart ops oj = true) →
      i ∈ Region.ready md ops listed → PureIn P ops oi v a →
      anyG P md ops S Q fuel (listed.setIfInBounds i true) (a.put oi.dst v) w → anyG P md ops S Q (fuel + 1) listed a w := by
  intro fuel
  induction fuel with
  | zero =>
    intro listed a w _ hr hy H w' hw'
    refine ⟨fun h => (by rw [h] at hr; cases hr), fun j hj => ?_⟩
    by_cases hji : j = i
    · subst hji; exact (hy.calm w).opG hi hw' fun w'' hg => ⟨fun _ => hg, anyG_later H (hw'.trans hg)⟩
    · have := ready_mono hj hji
      rw [(H w' hw').1] at this
      cases this
  | succ fuel ih =>
    intro listed a w hfree hr hy H w' hw'
    refine ⟨fun h => (by rw [h] at hr; cases hr), fun j hj => ?_⟩
    by_cases hji : j = i
    · subst hji; exact (hy.calm w).opG hi hw' fun w'' hg => ⟨fun _ => hg, anyG_later H (hw'.trans hg)⟩
    · have h1 := (H w' hw').2 j (ready_mono hj hji)
      obtain ⟨hjun, oj, hoj, hall⟩ := mem_ready.1 hj
      have hnot : ∀ e ∈ oj.after, Region.binds md e = true → e.on ≠ i := fun e he hb heq => by
        have h1 := hall e he hb
        have h0 := (mem_ready.1 hr).1
        rw [heq] at h1
        rcases Nat.lt_or_ge i listed.size with h' | h'
        · simp [h'] at h0 h1; rw [h0] at h1; cases h1
        · simp [Array.getElem?_eq_none h'] at h1
      have hap := hfree j oj hoj hji hjun hnot
      obtain ⟨_, _, h3⟩ := Oper.apart_spec hap
      have h2 := opG_putY (PureIn P ops oi v) hoj hap (fun cs b => hsel j oj cs b hoj) (fun a hy u => hy.of_same (execOp_put oi (fun cs b => hsel i oi cs b hi) a oj.dst u h3) (wanted_put oi a oj.dst u h3)) (fun d => hy.of_same rfl rfl) hy h1
      have hfree' : ∀ k ok, ops[k]? = some ok → k ≠ i → (listed.setIfInBounds j true).getD k true = false →
          (∀ e ∈ ok.after, Region.binds md e = true → e.on ≠ i) → oi.apart ops ok = true := fun k ok hk hki hun hno => by
        refine hfree k ok hk hki ?_ hno
        by_cases hjk : j = k
        · subst hjk; exact hjun
        · rw [getD_set_ne true hjk] at hun; exact hun
      refine opG_mono (fun a' w'' h3 => ⟨h3.2.1, ih (listed.setIfInBounds j true) a' w'' hfree' (ready_mono hr (Ne.symm hji)) h3.1 ?_⟩) h2
      rw [Array.setIfInBounds_comm _ _ hji]
      exact h3.2.2

theorem anyG_first {i : Nat} {oi : Oper} {v : Value} (hi : ops[i]? = some oi) (hsel : ∀ (j : Nat) (o : Oper) cs b, ops[j]? = some o → o.op ≠ .select cs b) :
    ∀ (fuel : Nat) (listed : Array Bool) (a : Act) (w : World),
      (∀ j oj, ops[j]? = some oj → j ≠ i → listed.getD j true = false → (∀ e ∈ oj.after, Region.binds md e = true → e.on ≠ i) → oi.apart ops oj = true) →
      Closed md ops listed → (∀ j, j ≠ i → S j = true → listed.getD j false = true ∨ ∃ f, ancB md ops f i j = true) → i ∈ Region.ready md ops listed → CalmIn P ops w oi v a →
      anyG P md ops S Q fuel (listed.setIfInBounds i true) (a.put oi.dst v) w → anyG P md ops S Q (fuel + 1) listed a w := by
  intro fuel
  induction fuel with
  | zero =>
    intro listed a w _ _ _ hr hy H w' hw'
    refine ⟨fun h => (by rw [h] at hr; cases hr), fun j hj => ?_⟩
    by_cases hji : j = i
    · subst hji; exact hy.opG hi hw' fun w'' hg => ⟨fun _ => hg, anyG_later H (hw'.trans hg)⟩
    · have := ready_mono hj hji
      rw [(H w' hw').1] at this
      cases this
  | succ fuel ih =>
    intro listed a w hfree hcl hanc hr hy H w' hw'
    refine ⟨fun h => (by rw [h] at hr; cases hr), fun j hj => ?_⟩
    by_cases hji : j = i
    · subst hji; exact hy.opG hi hw' fun w'' hg => ⟨fun _ => hg, anyG_later H (hw'.trans hg)⟩
    · have h1 := (H w' hw').2 j (ready_mono hj hji)
      obtain ⟨hjun, oj, hoj, hall⟩ := mem_ready.1 hj
      have hnot : ∀ e ∈ oj.after, Region.binds md e = true → e.on ≠ i := fun e he hb heq => by
        have h1 := hall e he hb
        have h0 := (mem_ready.1 hr).1
        rw [heq] at h1
        rcases Nat.lt_or_ge i listed.size with h' | h'
        · simp [h'] at h0 h1; rw [h0] at h1; cases h1
        · simp [Array.getElem?_eq_none h'] at h1
      have h2 := opG_put hoj (hfree j oj hoj hji hjun hnot) (fun cs b => hsel i oi cs b hi) (fun cs b => hsel j oj cs b hoj) hy h1
      have hfree' : ∀ k ok, ops[k]? = some ok → k ≠ i → (listed.setIfInBounds j true).getD k true = false →
          (∀ e ∈ ok.after, Region.binds md e = true → e.on ≠ i) → oi.apart ops ok = true := fun k ok hk hki hun hno => by
        refine hfree k ok hk hki ?_ hno
        by_cases hjk : j = k
        · subst hjk; exact hjun
        · rw [getD_set_ne true hjk] at hun; exact hun
      have hSj : S j = false := by
        cases hs : S j with
        | false => rfl
        | true =>
          rcases hanc j hji hs with h6 | ⟨f, hf⟩
          · rcases Nat.lt_or_ge j listed.size with h' | h'
            · simp [h'] at h6 hjun; rw [hjun] at h6; cases h6
            · simp [Array.getElem?_eq_none h'] at h6
          have h4 := ancB_ready hcl f i j hf hj
          have h5 := (mem_ready.1 hr).1
          rcases Nat.lt_or_ge i listed.size with h' | h'
          · simp [h'] at h4 h5; rw [h5] at h4; cases h4
          · simp [Array.getElem?_eq_none h'] at h4
      refine opG_mono (fun a' w'' h3 => ⟨h3.2.1, ih (listed.setIfInBounds j true) a' w'' hfree' (hcl.set hj) (fun k hk hs => (hanc k hk hs).imp getD_set_true id) (ready_mono hr (Ne.symm hji)) (h3.1.later (hw'.trans (h3.2.1 hSj))) ?_⟩) h2
      rw [Array.setIfInBounds_comm _ _ hji]
      exact h3.2.2

/-! ### The chosen order -/

/-- How many operations an order takes. -/
def mixLen : List (Nat × Nat) → Nat
  | [] => 0
  | (_, 0) :: r => mixLen r + 1
  | (_, 1) :: r => mixLen r + 1
  | (_, 2) :: r => mixLen r + 1
  | (_, 3) :: r => mixLen r + 1
  | (_, _ + 4) :: r => mixLen r + 2

/-- 0: calm; 1: loud; 2: sync; 3: pure; n + 4: a fork: this one and operation n, both loud, in either order. -/
def mixB (md : Region.Mode) (ops : Array Oper) : List (Nat × Nat) → Array Bool → Bool
  | [], listed => (Region.ready md ops listed).isEmpty
  | (i, 0) :: r, listed => (Region.ready md ops listed).contains i && Region.free md ops listed i && (r.all fun x => decide (x.2 ≠ 2) || x.1 == i || ancB md ops ops.size i x.1) && mixB md ops r (listed.setIfInBounds i true)
  | (i, 3) :: r, listed => (Region.ready md ops listed).contains i && Region.free md ops listed i && mixB md ops r (listed.setIfInBounds i true)
  | (i, 1) :: r, listed => (Region.ready md ops listed == [i]) && mixB md ops r (listed.setIfInBounds i true)
  | (i, 2) :: r, listed => (Region.ready md ops listed == [i]) && mixB md ops r (listed.setIfInBounds i true)
  | (i, n + 4) :: r, listed => (Region.ready md ops listed == [i, n]) && (Region.ready md ops (listed.setIfInBounds i true) == [n]) && (Region.ready md ops (listed.setIfInBounds n true) == [i]) && decide (i ≠ n) && mixB md ops r ((listed.setIfInBounds i true).setIfInBounds n true)

/-- The sync ones of an order. -/
def syncOf (l : List (Nat × Nat)) (i : Nat) : Bool := l.any fun x => x.1 == i && decide (x.2 = 2)

def calmStep (P : Program) (ops : Array Oper) (o : Oper) (K : Act → Prop) (a : Act) (w : World) : Prop :=
  if Region.wanted o (yielded ops a.tmps) then ∃ v, (∀ x : Later w, calmAt P o a x.1 v) ∧ K (a.put o.dst v) else K (a.put o.dst undef)

def pureStep (P : Program) (ops : Array Oper) (o : Oper) (K : Act → Prop) (a : Act) : Prop :=
  if Region.wanted o (yielded ops a.tmps) then ∃ v, (∀ x : World, calmAt P o a x v) ∧ K (a.put o.dst v) else K (a.put o.dst undef)

def loudStep (P : Program) (ops : Array Oper) (sync : Bool) (o : Oper) (K : Act → World → Prop) (a : Act) (w : World) : Prop :=
  if Region.wanted o (yielded ops a.tmps) then ∀ w', Grow w w' → o.wp P a w' (fun a' w'' => (sync = false → Grow w' w'') ∧ K a' w'') NoQ else K (a.put o.dst undef) w

def wpMix (P : Program) (ops : Array Oper) (Q : Act → World → Prop) : List (Nat × Nat) → Act → World → Prop
  | [], a, w => ∀ w', Grow w w' → Q a w'
  | (i, 0) :: r, a, w => match ops[i]? with
    | none => False
    | some o => calmStep P ops o (fun a' => wpMix P ops Q r a' w) a w
  | (i, 1) :: r, a, w => match ops[i]? with
    | none => False
    | some o => loudStep P ops false o (wpMix P ops Q r) a w
  | (i, 2) :: r, a, w => match ops[i]? with
    | none => False
    | some o => loudStep P ops true o (wpMix P ops Q r) a w
  | (i, 3) :: r, a, w => match ops[i]? with
    | none => False
    | some o => pureStep P ops o (fun a' => wpMix P ops Q r a' w) a
  | (i, n + 4) :: r, a, w => match ops[i]?, ops[n]? with
    | some oi, some on => loudStep P ops false oi (loudStep P ops false on (wpMix P ops Q r)) a w ∧ loudStep P ops false on (loudStep P ops false oi (wpMix P ops Q r)) a w
    | _, _ => False

theorem getD_set_self {listed : Array Bool} {i : Nat} (h : listed.getD i true = false) : (listed.setIfInBounds i true).getD i false = true := by
  have hlt : i < listed.size := by
    rcases Nat.lt_or_ge i listed.size with h' | h'
    · exact h'
    · simp [Array.getElem?_eq_none h'] at h
  simp [hlt]

theorem anyG_loud {fuel : Nat} {listed : Array Bool} {i : Nat} {o : Oper} {K : Act → World → Prop} {a : Act} {w : World} (ho : ops[i]? = some o) (hr : Region.ready md ops listed = [i])
    (hK : ∀ a w, K a w → anyG P md ops S Q fuel (listed.setIfInBounds i true) a w) (h : loudStep P ops false o K a w) : anyG P md ops S Q (fuel + 1) listed a w := by
  intro w' hw'
  refine ⟨fun e => (by rw [hr] at e; cases e), fun j hj => ?_⟩
  rw [hr] at hj
  obtain rfl : j = i := by simpa using hj
  unfold opG
  simp only [ho]
  unfold loudStep at h
  by_cases hw : Region.wanted o (yielded ops a.tmps) = true
  · simp only [hw, if_true] at h ⊢
    exact Oper.wp_mono (fun a' w'' hh => ⟨fun _ => hh.1 (by simp), hK _ _ hh.2⟩) (h w' hw')
  · simp only [hw] at h ⊢
    exact ⟨fun _ => Grow.refl _, anyG_later (hK _ _ h) hw'⟩

theorem anyG_two {fuel : Nat} {listed : Array Bool} {i n : Nat} {oi on : Oper} {K L : Act → World → Prop} {a : Act} {w : World} (hi : ops[i]? = some oi) (hn : ops[n]? = some on) (hr : Region.ready md ops listed = [i, n])
    (hK : ∀ a w, K a w → anyG P md ops S Q fuel (listed.setIfInBounds i true) a w) (hL : ∀ a w, L a w → anyG P md ops S Q fuel (listed.setIfInBounds n true) a w)
    (h1 : loudStep P ops false oi K a w) (h2 : loudStep P ops false on L a w) : anyG P md ops S Q (fuel + 1) listed a w := by
  intro w' hw'
  refine ⟨fun e => (by rw [hr] at e; cases e), fun j hj => ?_⟩
  rw [hr] at hj
  have hj2 : j = i ∨ j = n := by simpa using hj
  unfold opG
  rcases hj2 with rfl | rfl
  · simp only [hi]
    unfold loudStep at h1
    by_cases hw : Region.wanted oi (yielded ops a.tmps) = true
    · simp only [hw, if_true] at h1 ⊢
      exact Oper.wp_mono (fun a' w'' hh => ⟨fun _ => hh.1 (by simp), hK _ _ hh.2⟩) (h1 w' hw')
    · simp only [hw] at h1 ⊢
      exact ⟨fun _ => Grow.refl _, anyG_later (hK _ _ h1) hw'⟩
  · simp only [hn]
    unfold loudStep at h2
    by_cases hw : Region.wanted on (yielded ops a.tmps) = true
    · simp only [hw, if_true] at h2 ⊢
      exact Oper.wp_mono (fun a' w'' hh => ⟨fun _ => hh.1 (by simp), hL _ _ hh.2⟩) (h2 w' hw')
    · simp only [hw] at h2 ⊢
      exact ⟨fun _ => Grow.refl _, anyG_later (hL _ _ h2) hw'⟩

theorem anyG_of_mix (hs : Region.noSelect ops = true) : ∀ (l : List (Nat × Nat)) (listed : Array Bool) (a : Act) (w : World), Closed md ops listed → mixB md ops l listed = true →
    (∀ x ∈ l, x.2 = 2 → S x.1 = true) → (∀ j, S j = true → listed.getD j false = true ∨ syncOf l j = true) → wpMix P ops Q l a w → anyG P md ops S Q (mixLen l) listed a w
  | [], listed, a, w, _, hB, _, _, h => fun w' hw' => ⟨by simpa [mixB] using hB, h w' hw'⟩
  | (i, 0) :: r, listed, a, w, hcl, hB, hS, hcov, h => by
    simp only [mixB, Bool.and_eq_true] at hB
    obtain ⟨⟨⟨hr, hf⟩, hanc⟩, hB'⟩ := hB
    have hri : i ∈ Region.ready md ops listed := by simpa using hr
    have hcov' : ∀ j, S j = true → listed.getD j false = true ∨ syncOf r j = true := fun j hj => (hcov j hj).imp id fun h1 => by simpa [syncOf] using h1
    have hcov2 : ∀ j, S j = true → (listed.setIfInBounds i true).getD j false = true ∨ syncOf r j = true := fun j hj => (hcov' j hj).imp getD_set_true id
    have hanc' : ∀ j, j ≠ i → S j = true → listed.getD j false = true ∨ ∃ f, ancB md ops f i j = true := fun j hji hj => (hcov' j hj).imp id fun h1 => by
      unfold syncOf at h1
      obtain ⟨x, hx, hx2⟩ := List.any_eq_true.1 h1
      simp only [Bool.and_eq_true, beq_iff_eq, decide_eq_true_eq] at hx2
      have h2 := List.all_eq_true.1 hanc x hx
      simp only [Bool.or_eq_true, beq_iff_eq, decide_eq_true_eq] at h2
      rcases h2 with (h2 | h2) | h2
      · omega
      · exact absurd (hx2.1.symm.trans h2) hji
      · rw [hx2.1] at h2; exact ⟨_, h2⟩
    have hS' : ∀ x ∈ r, x.2 = 2 → S x.1 = true := fun x hx => hS x (List.mem_cons_of_mem _ hx)
    simp only [wpMix] at h
    split at h
    · exact h.elim
    · rename_i o ho
      unfold calmStep at h
      by_cases hw : Region.wanted o (yielded ops a.tmps) = true
      · simp only [hw, if_true] at h
        obtain ⟨v, h1, h2⟩ := h
        exact anyG_first ho (Region.noSelect_spec hs) (mixLen r) listed a w (Region.free_spec ho hf) hcl hanc' hri (.inl ⟨hw, fun w' hw' => h1 ⟨w', hw'⟩⟩) (anyG_of_mix hs r _ _ _ (hcl.set hri) hB' hS' hcov2 h2)
      · simp only [hw] at h
        exact anyG_first ho (Region.noSelect_spec hs) (mixLen r) listed a w (Region.free_spec ho hf) hcl hanc' hri (.inr ⟨by simpa using hw, rfl⟩) (anyG_of_mix hs r _ _ _ (hcl.set hri) hB' hS' hcov2 h)
  | (i, 1) :: r, listed, a, w, hcl, hB, hS, hcov, h => by
    simp only [mixB, Bool.and_eq_true, beq_iff_eq] at hB
    obtain ⟨hr, hB'⟩ := hB
    have hri : i ∈ Region.ready md ops listed := by rw [hr]; simp
    have hcov2 : ∀ j, S j = true → (listed.setIfInBounds i true).getD j false = true ∨ syncOf r j = true := fun j hj => (hcov j hj).imp getD_set_true fun h1 => by simpa [syncOf] using h1
    have hS' : ∀ x ∈ r, x.2 = 2 → S x.1 = true := fun x hx => hS x (List.mem_cons_of_mem _ hx)
    simp only [wpMix] at h
    split at h
    · exact h.elim
    · rename_i o ho
      intro w' hw'
      refine ⟨fun e => (by rw [hr] at e; cases e), fun j hj => ?_⟩
      rw [hr] at hj
      obtain rfl : j = i := by simpa using hj
      unfold opG
      simp only [ho]
      unfold loudStep at h
      by_cases hw : Region.wanted o (yielded ops a.tmps) = true
      · simp only [hw, if_true] at h ⊢
        exact Oper.wp_mono (fun a' w'' hh => ⟨fun _ => hh.1 (by simp), anyG_of_mix hs r _ _ _ (hcl.set hri) hB' hS' hcov2 hh.2⟩) (h w' hw')
      · simp only [hw] at h ⊢
        exact ⟨fun _ => Grow.refl _, anyG_later (anyG_of_mix hs r _ _ _ (hcl.set hri) hB' hS' hcov2 h) hw'⟩
  | (i, 2) :: r, listed, a, w, hcl, hB, hS, hcov, h => by
    simp only [mixB, Bool.and_eq_true, beq_iff_eq] at hB
    obtain ⟨hr, hB'⟩ := hB
    have hri : i ∈ Region.ready md ops listed := by rw [hr]; simp
    have hSi : S i = true := hS (i, 2) (by simp) rfl
    have hcov2 : ∀ j, S j = true → (listed.setIfInBounds i true).getD j false = true ∨ syncOf r j = true := fun j hj => by
      rcases hcov j hj with h1 | h1
      · exact .inl (getD_set_true h1)
      · unfold syncOf at h1 ⊢
        simp only [List.any_cons, Bool.or_eq_true, Bool.and_eq_true, beq_iff_eq] at h1
        rcases h1 with h1 | h1
        · rw [← h1.1]; exact .inl (getD_set_self (mem_ready.1 hri).1)
        · exact .inr h1
    have hS' : ∀ x ∈ r, x.2 = 2 → S x.1 = true := fun x hx => hS x (List.mem_cons_of_mem _ hx)
    simp only [wpMix] at h
    split at h
    · exact h.elim
    · rename_i o ho
      intro w' hw'
      refine ⟨fun e => (by rw [hr] at e; cases e), fun j hj => ?_⟩
      rw [hr] at hj
      obtain rfl : j = i := by simpa using hj
      unfold opG
      simp only [ho]
      unfold loudStep at h
      by_cases hw : Region.wanted o (yielded ops a.tmps) = true
      · simp only [hw, if_true] at h ⊢
        exact Oper.wp_mono (fun a' w'' hh => ⟨fun e => (by rw [hSi] at e; cases e), anyG_of_mix hs r _ _ _ (hcl.set hri) hB' hS' hcov2 hh.2⟩) (h w' hw')
      · simp only [hw] at h ⊢
        exact ⟨fun e => (by rw [hSi] at e; cases e), anyG_later (anyG_of_mix hs r _ _ _ (hcl.set hri) hB' hS' hcov2 h) hw'⟩
  | (i, 3) :: r, listed, a, w, hcl, hB, hS, hcov, h => by
    simp only [mixB, Bool.and_eq_true] at hB
    obtain ⟨⟨hr, hf⟩, hB'⟩ := hB
    have hri : i ∈ Region.ready md ops listed := by simpa using hr
    have hcov2 : ∀ j, S j = true → (listed.setIfInBounds i true).getD j false = true ∨ syncOf r j = true := fun j hj => (hcov j hj).imp getD_set_true fun h1 => by simpa [syncOf] using h1
    have hS' : ∀ x ∈ r, x.2 = 2 → S x.1 = true := fun x hx => hS x (List.mem_cons_of_mem _ hx)
    simp only [wpMix] at h
    split at h
    · exact h.elim
    · rename_i o ho
      unfold pureStep at h
      by_cases hw : Region.wanted o (yielded ops a.tmps) = true
      · simp only [hw, if_true] at h
        obtain ⟨v, h1, h2⟩ := h
        exact anyG_pure ho (Region.noSelect_spec hs) (mixLen r) listed a w (Region.free_spec ho hf) hri (.inl ⟨hw, h1⟩) (anyG_of_mix hs r _ _ _ (hcl.set hri) hB' hS' hcov2 h2)
      · simp only [hw] at h
        exact anyG_pure ho (Region.noSelect_spec hs) (mixLen r) listed a w (Region.free_spec ho hf) hri (.inr ⟨by simpa using hw, rfl⟩) (anyG_of_mix hs r _ _ _ (hcl.set hri) hB' hS' hcov2 h)
  | (i, n + 4) :: r, listed, a, w, hcl, hB, hS, hcov, h => by
    simp only [mixB, Bool.and_eq_true, beq_iff_eq, decide_eq_true_eq] at hB
    obtain ⟨⟨⟨⟨hr, hrn⟩, hri'⟩, hne⟩, hB'⟩ := hB
    have hri : i ∈ Region.ready md ops listed := by rw [hr]; simp
    have hrn2 : n ∈ Region.ready md ops (listed.setIfInBounds i true) := by rw [hrn]; simp
    have hcov2 : ∀ j, S j = true → ((listed.setIfInBounds i true).setIfInBounds n true).getD j false = true ∨ syncOf r j = true := fun j hj => (hcov j hj).imp (fun h => getD_set_true (getD_set_true h)) fun h1 => by simpa [syncOf] using h1
    have hS' : ∀ x ∈ r, x.2 = 2 → S x.1 = true := fun x hx => hS x (List.mem_cons_of_mem _ hx)
    have hcl2 := (hcl.set hri).set hrn2
    simp only [wpMix] at h
    split at h
    · rename_i oi on hoi hon
      have T : ∀ a w, wpMix P ops Q r a w → anyG P md ops S Q (mixLen r) ((listed.setIfInBounds i true).setIfInBounds n true) a w := fun a w h => anyG_of_mix hs r _ a w hcl2 hB' hS' hcov2 h
      refine anyG_two hoi hon hr ?_ ?_ h.1 h.2
      · exact fun a w h => anyG_loud hon hrn T h
      · refine fun a w h => anyG_loud hoi hri' (fun a w h => ?_) h
        rw [Array.setIfInBounds_comm _ _ (Ne.symm hne)]
        exact T a w h
    · exact h.elim

theorem closed_start (n : Nat) : Closed md ops (Array.replicate n false) := by
  intro j oj _ h
  rcases Nat.lt_or_ge j n with h' | h' <;> simp [h'] at h

/-- The region, in the chosen order. -/
theorem wp_region_mix {id : Nat} {Q' : Exit → Act → World → Prop} {a : Act} {w : World} {l : List Oper} (order : List (Nat × Nat)) (hm : P.follows .mixedOrders = true)
    (hB : (Region.noSelect l.toArray && decide (mixLen order = l.length) && mixB .any l.toArray order (Array.replicate l.length false)) = true)
    (h : wpMix P l.toArray (fun a' w' => Q' .normal a' w') order a w) : (Code.region id l.toArray true).wp P Q' a w := by
  simp only [Bool.and_eq_true, decide_eq_true_eq] at hB
  obtain ⟨⟨hs, hl⟩, hB⟩ := hB
  refine wp_region_any hm (wpAny_of_G (S := syncOf order) (Q := fun a' w' => Q' .normal a' w') (fun _ _ h => h) _ _ _ _ ?_)
  have h2 := anyG_later (anyG_of_mix (md := .any) (S := syncOf order) hs order (Array.replicate l.length false) a w (closed_start _) hB
    (fun x hx hx2 => List.any_eq_true.2 ⟨x, hx, by simp [hx2]⟩) (fun j hj => .inr hj) h) (Grow.drew w)
  rw [hl] at h2
  simpa using h2

/-! ### Its steps -/

theorem mix_nil {a : Act} {w : World} (h : ∀ w', Grow w w' → Q a w') : wpMix P ops Q [] a w := h

theorem mix_calm {i : Nat} {r : List (Nat × Nat)} {o : Oper} {a : Act} {w : World} (ho : ops[i]? = some o)
    (h : ∀ K : Act → Prop, (∀ a, wpMix P ops Q r a w → K a) → calmStep P ops o K a w) : wpMix P ops Q ((i, 0) :: r) a w := by
  simp only [wpMix, ho]; exact h _ fun _ h => h

theorem wp_of_list {o : Oper} {a : Act} {w : World} {K : Act → World → Prop} (hw : Region.wanted o (yielded ops a.tmps) = true) (h1 : wpList P ops (Exit.then K NoQ) [o] a w) : o.wp P a w K NoQ := by
  unfold wpList at h1
  rw [if_pos hw] at h1
  rcases h1 with h1 | ⟨_, _, _, h1⟩
  · have h2 : o.wp P a w (wpList P ops (Exit.then K NoQ) []) NoQ := by
      unfold Oper.wp at *
      generalize (execOp a.eval o).run P w = x at *
      cases x with
      | ok n y =>
        cases n <;> simp only [Oper.upon] at h1 ⊢
        case enter f args =>
          exact Calls.mono h1 fun e w'' he => by
            cases e with
            | returned u => exact he
            | panicked c => exact he
            | outgrown => obtain ⟨_, _, h⟩ := he; exact h.elim
        all_goals exact h1
      | halt x y => cases x <;> simp only [Oper.upon] at h1 ⊢ <;> exact h1
    exact Oper.wp_mono (fun a' w'' hh => hh) h2
  · exact h1.elim

theorem mix_pure {i : Nat} {r : List (Nat × Nat)} {o : Oper} {a : Act} {w : World} (ho : ops[i]? = some o)
    (h : ∀ K : Act → Prop, (∀ a, wpMix P ops Q r a w → K a) → pureStep P ops o K a) : wpMix P ops Q ((i, 3) :: r) a w := by
  simp only [wpMix, ho]; exact h _ fun _ h => h

theorem mix_loud {i : Nat} {r : List (Nat × Nat)} {o : Oper} {a : Act} {w : World} (ho : ops[i]? = some o) (hw : Region.wanted o (yielded ops a.tmps) = true)
    (h : ∀ w', Grow w w' → ∀ K : Act → World → Prop, (∀ a' w'', Grow w' w'' → wpMix P ops Q r a' w'' → K a' w'') → wpList P ops (Exit.then K NoQ) [o] a w') : wpMix P ops Q ((i, 1) :: r) a w := by
  simp only [wpMix, ho, loudStep, hw, if_true]
  exact fun w' hw' => wp_of_list hw (h w' hw' _ fun a' w'' h1 h2 => ⟨fun _ => h1, h2⟩)

theorem mix_sync {i : Nat} {r : List (Nat × Nat)} {o : Oper} {a : Act} {w : World} (ho : ops[i]? = some o) (hw : Region.wanted o (yielded ops a.tmps) = true)
    (h : ∀ w', Grow w w' → ∀ K : Act → World → Prop, (∀ a' w'', wpMix P ops Q r a' w'' → K a' w'') → wpList P ops (Exit.then K NoQ) [o] a w') : wpMix P ops Q ((i, 2) :: r) a w := by
  simp only [wpMix, ho, loudStep, hw, if_true]
  exact fun w' hw' => wp_of_list hw (h w' hw' _ fun a' w'' h2 => ⟨fun e => (by cases e), h2⟩)

theorem mix_loud_skip {i : Nat} {r : List (Nat × Nat)} {o : Oper} {a : Act} {w : World} (ho : ops[i]? = some o) (hw : Region.wanted o (yielded ops a.tmps) = false)
    (h : wpMix P ops Q r (a.put o.dst undef) w) : wpMix P ops Q ((i, 1) :: r) a w := by
  simp only [wpMix, ho, loudStep, hw]; exact h

theorem mix_sync_skip {i : Nat} {r : List (Nat × Nat)} {o : Oper} {a : Act} {w : World} (ho : ops[i]? = some o) (hw : Region.wanted o (yielded ops a.tmps) = false)
    (h : wpMix P ops Q r (a.put o.dst undef) w) : wpMix P ops Q ((i, 2) :: r) a w := by
  simp only [wpMix, ho, loudStep, hw]; exact h

/-- Two loud ones that may come up in either order. -/
theorem mix_fork {i n : Nat} {r : List (Nat × Nat)} {oi on : Oper} {a : Act} {w : World} (hi : ops[i]? = some oi) (hn : ops[n]? = some on)
    (wi : ∀ a : Act, Region.wanted oi (yielded ops a.tmps) = true) (wn : ∀ a : Act, Region.wanted on (yielded ops a.tmps) = true)
    (h1 : ∀ w', Grow w w' → ∀ K : Act → World → Prop, (∀ a' w'', Grow w' w'' → (∀ w2, Grow w'' w2 → ∀ K2 : Act → World → Prop, (∀ a2 w3, Grow w2 w3 → wpMix P ops Q r a2 w3 → K2 a2 w3) → wpList P ops (Exit.then K2 NoQ) [on] a' w2) → K a' w'') → wpList P ops (Exit.then K NoQ) [oi] a w')
    (h2 : ∀ w', Grow w w' → ∀ K : Act → World → Prop, (∀ a' w'', Grow w' w'' → (∀ w2, Grow w'' w2 → ∀ K2 : Act → World → Prop, (∀ a2 w3, Grow w2 w3 → wpMix P ops Q r a2 w3 → K2 a2 w3) → wpList P ops (Exit.then K2 NoQ) [oi] a' w2) → K a' w'') → wpList P ops (Exit.then K NoQ) [on] a w') :
    wpMix P ops Q ((i, n + 4) :: r) a w := by
  simp only [wpMix, hi, hn, loudStep, wi, wn, if_true]
  refine ⟨fun w' hw' => wp_of_list (wi _) (h1 w' hw' _ fun a' w'' g hh => ⟨fun _ => g, fun w2 hw2 => wp_of_list (wn _) (hh w2 hw2 _ fun a2 w3 g2 hh2 => ⟨fun _ => g2, hh2⟩)⟩),
    fun w' hw' => wp_of_list (wn _) (h2 w' hw' _ fun a' w'' g hh => ⟨fun _ => g, fun w2 hw2 => wp_of_list (wi _) (hh w2 hw2 _ fun a2 w3 g2 hh2 => ⟨fun _ => g2, hh2⟩)⟩)⟩

/-- A callee that hands back one known value and only makes memory. -/
theorem calls_calm {f : FuncId} {args : Array Value} {w : World} {v : Value} (h : Calls P f args w fun e w' => e = .returned v ∧ w = w') : Calls P f args w fun e w'' => e = .returned v ∧ Grow w w'' :=
  h.mono fun _ _ ⟨he, hw⟩ => ⟨he, by rw [← hw]; exact Grow.refl _⟩

end
attribute [go_sem] calmStep pureStep calmAt calmUpon
end Go.Mix
namespace Go.Mix
open Go.RowKit

section
variable {P : Program} {ops : Array Oper} {Q : Act → World → Prop}

structure MG (P : Program) (ops : Array Oper) (Q : Act → World → Prop) (r : List (Nat × Nat)) (a : Act) (w : World) : Prop where
  out : wpMix P ops Q r a w

theorem wp_region_mg {id : Nat} {Q' : Exit → Act → World → Prop} {a : Act} {w : World} {l : List Oper} (order : List (Nat × Nat)) (hm : P.follows .mixedOrders = true)
    (hB : (Region.noSelect l.toArray && decide (mixLen order = l.length) && mixB .any l.toArray order (Array.replicate l.length false)) = true)
    (h : MG P l.toArray (fun a' w' => Q' .normal a' w') order a w) : (Code.region id l.toArray true).wp P Q' a w := wp_region_mix order hm hB h.out
theorem mg_nil {a : Act} {w : World} (h : ∀ w', Grow w w' → Q a w') : MG P ops Q [] a w := ⟨h⟩
theorem mg_calm {i : Nat} {r : List (Nat × Nat)} {o : Oper} {a : Act} {w : World} (ho : ops[i]? = some o)
    (h : ∀ K : Act → Prop, (∀ a, MG P ops Q r a w → K a) → calmStep P ops o K a w) : MG P ops Q ((i, 0) :: r) a w :=
  ⟨mix_calm ho fun K hK => h K fun a h => hK a h.out⟩
theorem mg_skip {i : Nat} {r : List (Nat × Nat)} {o : Oper} {a : Act} {w : World} (ho : ops[i]? = some o) (hw : Region.wanted o (yielded ops a.tmps) = false)
    (h : MG P ops Q r (a.put o.dst undef) w) : MG P ops Q ((i, 0) :: r) a w := mg_calm ho fun K hK => by
  unfold calmStep
  rw [hw]
  exact hK _ h
theorem mg_load {i : Nat} {r : List (Nat × Nat)} {o : Oper} {a : Act} {w : World} (ho : ops[i]? = some o) (hw : Region.wanted o (yielded ops a.tmps) = true)
    (ty : TypeId) (x : Operand) (hop : o.op = .load ty x) (V v : Value) (hx : a.eval x = V) (hl : ∀ y : Later w, (Instr.loadAt ty V).run P y.1 = .ok v y.1)
    (h : MG P ops Q r (a.put o.dst v) w) : MG P ops Q ((i, 0) :: r) a w := mg_calm ho fun K hK => by
  unfold calmStep
  rw [if_pos hw]
  refine ⟨v, fun y => ?_, hK _ h⟩
  unfold calmAt execOp
  simp only [hop, hx, Sem.run_bind, Sem.run_pure, Result.andThen_ok, hl y]
  exact ⟨rfl, rfl⟩
theorem mg_build {i : Nat} {r : List (Nat × Nat)} {o : Oper} {a : Act} {w : World} (ho : ops[i]? = some o) (hw : Region.wanted o (yielded ops a.tmps) = true)
    (ty : TypeId) (ps : Array (Nat × Operand)) (hop : o.op = .build ty ps) (PS : List (Nat × Value)) (v : Value) (hx : (ps.toList.map fun p => (p.1, a.eval p.2)) = PS) (hl : ∀ y : World, (Instr.build ty PS.toArray).run P y = .ok v y)
    (h : MG P ops Q r (a.put o.dst v) w) : MG P ops Q ((i, 0) :: r) a w := mg_calm ho fun K hK => by
  unfold calmStep
  rw [if_pos hw]
  refine ⟨v, fun y => ?_, hK _ h⟩
  unfold calmAt execOp
  have e : (ps.map fun (i, x) => (i, a.eval x)) = PS.toArray := Array.ext' (by rw [Array.toList_map]; exact hx)
  simp only [hop, e, Sem.run_bind, Sem.run_pure, Result.andThen_ok, hl y.1]
  exact ⟨rfl, rfl⟩
theorem mg_loud {i : Nat} {r : List (Nat × Nat)} {o : Oper} {a : Act} {w : World} (ho : ops[i]? = some o) (hw : Region.wanted o (yielded ops a.tmps) = true)
    (h : ∀ w', Grow w w' → ∀ K : Act → World → Prop, (∀ a' w'', Grow w' w'' → MG P ops Q r a' w'' → K a' w'') → wpList P ops (Exit.then K NoQ) [o] a w') : MG P ops Q ((i, 1) :: r) a w :=
  ⟨mix_loud ho hw fun w' hw' K hK => h w' hw' K fun a' w'' g h => hK a' w'' g h.out⟩
theorem mg_sync {i : Nat} {r : List (Nat × Nat)} {o : Oper} {a : Act} {w : World} (ho : ops[i]? = some o) (hw : Region.wanted o (yielded ops a.tmps) = true)
    (h : ∀ w', Grow w w' → ∀ K : Act → World → Prop, (∀ a' w'', MG P ops Q r a' w'' → K a' w'') → wpList P ops (Exit.then K NoQ) [o] a w') : MG P ops Q ((i, 2) :: r) a w :=
  ⟨mix_sync ho hw fun w' hw' K hK => h w' hw' K fun a' w'' h => hK a' w'' h.out⟩
end
end Go.Mix
namespace Go.Proofs.YtponfkfeflnilaaGreatDoor
open Go.RowKit

/-- The address of what begins k further. -/
def subAt (a : Option Addr) (cap k : Nat) : Option Addr := if cap = k then a else a.map (·.add k)

theorem add_add (x : Addr) (k j : Nat) : (x.add k).add j = x.add (k + j) := by
  unfold Addr.add
  by_cases hk : k = 0
  · subst hk; simp
  · by_cases hj : j = 0
    · subst hj; simp [hk]
    · simp [hk, hj]; omega

theorem Bs.drop {w : World} {a : Option Addr} {l : List UInt8} (h : Bs w a l) (cap k : Nat) (hc : l.length ≤ cap) : Bs w (subAt a cap k) (l.drop k) := by
  by_cases hk : l.length ≤ k
  · exact .inl (List.drop_of_length_le hk)
  · rcases h with rfl | ⟨b, off, rfl, hcell⟩
    · simp at hk
    · refine .inr ⟨b, off + k, ?_, fun j hj => ?_⟩
      · unfold subAt; rw [if_neg (by omega)]; unfold Addr.add; by_cases h0 : k = 0 <;> simp [h0]
      · rw [Nat.add_assoc, hcell (k + j) (by simp at hj; omega)]; simp

theorem run_slice_from {P : Program} (t : TypeId) {e : TypeId} (ht : P.underlying t = some (.slice e)) (hs : ∀ w : World, (sizeOf e).run P w = .ok 1 w) (a : Option Addr) (len cap k : Nat) (hk : k ≤ len) (w : World) :
    (Instr.slice t (.slice a len cap) (some (.int .i64 (k : Int))) none none).run P w = .ok (.slice (subAt a cap k) (len - k) (cap - k)) w := by
  have he : P.elem t = e := by simp [Program.elem, ht]
  rw [run_slice_l w t a len cap (by rw [he]; exact ht) .i64 k (by omega) (by omega), he, hs]
  simp [Result.andThen, sliced, subAt]

theorem run_slice_mid {P : Program} (t : TypeId) {e : TypeId} (ht : P.underlying t = some (.slice e)) (hs : ∀ w : World, (sizeOf e).run P w = .ok 1 w) (a : Option Addr) (len cap i k : Nat) (hi : i ≤ k) (hk : k ≤ cap) (w : World) :
    (Instr.slice t (.slice a len cap) (some (.int .i64 (i : Int))) (some (.int .i64 (k : Int))) none).run P w = .ok (.slice (subAt a cap i) (k - i) (cap - i)) w := by
  have he : P.elem t = e := by simp [Program.elem, ht]
  rw [run_slice_lh w t a len cap (by rw [he]; exact ht) .i64 .i64 i k (by omega) (by omega) (by omega), he, hs]
  simp [Result.andThen, sliced, subAt]

/-- 'b[k:]', under names of its own. -/
theorem cut_from {P : Program} {w0 : World} {a : Option Addr} {l : List UInt8} (h : Bs w0 a l) (t : TypeId) {e : TypeId} (ht : P.underlying t = some (.slice e)) (hs : ∀ w : World, (sizeOf e).run P w = .ok 1 w) (cap k : Nat) (hc : l.length ≤ cap) (hn : a = none → cap = 0) (hk : k ≤ l.length) :
    ∃ a2 l2 cap2, l2 = l.drop k ∧ Bs w0 a2 l2 ∧ l2.length ≤ cap2 ∧ cap2 ≤ cap ∧ (a2 = none → cap2 = 0) ∧ ∀ w : World, (Instr.slice t (.slice a l.length cap) (some (.int .i64 (k : Int))) none none).run P w = .ok (.slice a2 l2.length cap2) w :=
  ⟨subAt a cap k, l.drop k, cap - k, rfl, h.drop cap k hc, by simp; omega, by omega, fun e => by
    unfold subAt at e
    split at e
    · omega
    · cases a with
      | none => have := hn rfl; omega
      | some x => simp at e, fun w => by rw [run_slice_from t ht hs a l.length cap k hk w]; simp⟩

/-- 'b[i:k]', under names of its own. -/
theorem cut_mid {P : Program} {w0 : World} {a : Option Addr} {l : List UInt8} (h : Bs w0 a l) (t : TypeId) {e : TypeId} (ht : P.underlying t = some (.slice e)) (hs : ∀ w : World, (sizeOf e).run P w = .ok 1 w) (cap i k : Nat) (hc : l.length ≤ cap) (hn : a = none → cap = 0) (hi : i ≤ k) (hk : k ≤ l.length) :
    ∃ a2 l2 cap2, l2 = (l.drop i).take (k - i) ∧ l2.length = k - i ∧ Bs w0 a2 l2 ∧ l2.length ≤ cap2 ∧ cap2 ≤ cap ∧ (a2 = none → cap2 = 0) ∧ ∀ w : World, (Instr.slice t (.slice a l.length cap) (some (.int .i64 (i : Int))) (some (.int .i64 (k : Int))) none).run P w = .ok (.slice a2 l2.length cap2) w :=
  ⟨subAt a cap i, (l.drop i).take (k - i), cap - i, rfl, by simp; omega, (h.drop cap i hc).take _, by simp; omega, by omega, fun e => by
    unfold subAt at e
    split at e
    · omega
    · cases a with
      | none => have := hn rfl; omega
      | some x => simp at e, fun w => by
        rw [run_slice_mid t ht hs a l.length cap i k hi (by omega) w]
        congr 2
        simp; omega⟩

/-- A 'move', by itself: for a law that wants the operation behind it. -/
theorem wpList_move {P : Program} {ops : Array Oper} {Q : Exit → Act → World → Prop} {rest : List Oper} {o : Oper} {a : Act} {w : World} {x : Operand} (hg : o.guard = none) (ho : o.op = .move x) (h : wpList P ops Q rest (a.put o.dst (a.eval x)) w) :
    wpList P ops Q (o :: rest) a w :=
  wpList_plain hg fun K hK => by
    unfold Oper.wp
    rw [show execOp a.eval o = pure (.value (a.eval x)) from by simp [execOp, ho]]
    exact hK _ _ h

end Go.Proofs.YtponfkfeflnilaaGreatDoor
