/-
  Bytes of the call's own that grow: one byte, a row of bytes; slices whose bounds are Ints.
-/
import Derived.Test.YtnlkanhakmkejaaDoorCut
import Derived.Test.YtnlkanhakmkejaaDoorMix
namespace Go.Proofs.YtnlkanhakmkejaaDoor
open Go.RowKit Go.Mix

/-- v holds l, in memory from B on; what was in w0 below B has not changed. -/
def Buf (B : Nat) (w0 w : World) (v : Value) (l : List UInt8) : Prop := OwnB w B v l ∧ Below B w0 w ∧ B ≤ w0.heap.size

theorem OwnB.slice {w : World} {B : Nat} {v : Value} {l : List UInt8} (h : OwnB w B v l) : ∃ a n c, v = .slice a n c := by
  obtain ⟨a, c, e, _⟩ := h.bs; exact ⟨a, _, c, e⟩

theorem Buf.nil {B : Nat} {w0 w : World} (h : Below B w0 w) (hB : B ≤ w0.heap.size) : Buf B w0 w (.slice none 0 0) [] := ⟨OwnB.nil _ _, h, hB⟩

theorem Buf.later {B : Nat} {w0 w w' : World} {v : Value} {l : List UInt8} (h : Buf B w0 w v l) (g : Below w.heap.size w w') : Buf B w0 w' v l :=
  ⟨h.1.below g, h.2.1.trans (g.mono (Nat.le_trans h.2.2 h.2.1.size)), h.2.2⟩

theorem Buf.le {B : Nat} {w0 w : World} {v : Value} {l : List UInt8} (h : Buf B w0 w v l) : B ≤ w.heap.size := Nat.le_trans h.2.2 h.2.1.size

theorem Buf.grown {B : Nat} {w0 w w' : World} {v v' : Value} {l l' : List UInt8} (h : Buf B w0 w v l) (ho : OwnB w' B v' l') (hg : w.grownBy w' v.ownBlock) : Buf B w0 w' v' l' :=
  ⟨ho, h.2.1.grown hg h.le (fun k hk => (h.1.lt k hk).1), h.2.2⟩

theorem wpList_append_buf {w : World} {ops : Array Oper} {rest : List Oper} {o : Oper} {a : Act} {Q : Exit → Act → World → Prop} (hgd : o.guard = none) (s x : Operand)
    (ho : o.op = .call { callee := .builtin .append, args := #[s, x], argTypes := #[51, 51] })
    {B : Nat} {w0 : World} (v : Value) (xs : List UInt8) (hs : a.eval s = v) (hb : Buf B w0 w v xs) (ad : Option Addr) (c : Nat) (l : List UInt8) (hx : a.eval x = .slice ad l.length c) (hl : Bs w ad l)
    (hn : ad = none → c = 0) (hlen : xs.length + l.length ≤ 140737488355328)
    (h : ∀ v' w', Buf B w0 w' v' (xs ++ l) → w.grownBy w' v.ownBlock → wpList Tryd.prog ops Q rest (a.put o.dst v') w') : wpList Tryd.prog ops Q (o :: rest) a w :=
  wpList_append_bytes hgd s x ho B v xs hs hb.1 ad c l hx hl hn hlen hb.le (fun v' w' h1 h2 => h v' w' (hb.grown h1 h2) h2)

/-- One byte, that lies in a new block. -/
theorem wpList_append_one {w : World} {ops : Array Oper} {rest : List Oper} {o : Oper} {a : Act} {Q : Exit → Act → World → Prop} (hgd : o.guard = none) (s x : Operand)
    (ho : o.op = .call { callee := .builtin .append, args := #[s, x], argTypes := #[51, 51] })
    {B : Nat} {w0 : World} (v : Value) (xs : List UInt8) (hs : a.eval s = v) (hb : Buf B w0 w v xs) (n : Int) (b : UInt8) (hnb : n = (b.toNat : Int)) (hx : a.eval x = .slice (some ⟨w.heap.size, 0, none⟩) 1 1)
    (hlen : xs.length + 1 ≤ 140737488355328)
    (h : ∀ v' w', Buf B w0 w' v' (xs ++ [b]) → w.grownBy w' v.ownBlock → wpList Tryd.prog ops Q rest (a.put o.dst v') w') : wpList Tryd.prog ops Q (o :: rest) a (w.alloc (.cells #[.int .u8 n] 5)) := by
  subst hnb
  have g : Below w.heap.size w (w.alloc (.cells #[.int .u8 (b.toNat : Int)] 5)) := (Below.refl _ _).alloc (Nat.le_refl _) _
  refine wpList_append_buf hgd s x ho v xs hs (hb.later g) _ 1 [b] hx (.block (heap_alloc_last _ _ _ rfl) rfl) (by simp) hlen (fun v' w' h1 h2 => h v' w' h1 ?_)
  exact ⟨h2.os, h2.tape, h2.output, Nat.le_trans g.size h2.size, fun k hk hne => (h2.block k (Nat.lt_of_lt_of_le hk g.size) hne).trans (g.block k hk)⟩

/-- A row of bytes that lies in a new block. -/
theorem wpList_append_new {w : World} {ops : Array Oper} {rest : List Oper} {o : Oper} {a : Act} {Q : Exit → Act → World → Prop} (hgd : o.guard = none) (s x : Operand)
    (ho : o.op = .call { callee := .builtin .append, args := #[s, x], argTypes := #[51, 51] })
    {B : Nat} {w0 : World} (v : Value) (xs : List UInt8) (hs : a.eval s = v) (hb : Buf B w0 w v xs) (C : Array Value) (l : List UInt8) (hC : C.toList = bcells l) (n c : Nat) (hx : a.eval x = .slice (some ⟨w.heap.size, 0, none⟩) n c) (hn : n = l.length)
    (hlen : xs.length + l.length ≤ 140737488355328)
    (h : ∀ v' w', Buf B w0 w' v' (xs ++ l) → w.grownBy w' v.ownBlock → wpList Tryd.prog ops Q rest (a.put o.dst v') w') : wpList Tryd.prog ops Q (o :: rest) a (w.alloc (.cells C 5)) := by
  subst hn
  have g : Below w.heap.size w (w.alloc (.cells C 5)) := (Below.refl _ _).alloc (Nat.le_refl _) _
  refine wpList_append_buf hgd s x ho v xs hs (hb.later g) _ c l hx (.block (heap_alloc_last _ _ _ rfl) ?_) (by simp) hlen (fun v' w' h1 h2 => h v' w' h1 ?_)
  · rw [hC, List.take_of_length_le (by rw [bcells_length]; omega)]; rfl
  · exact ⟨h2.os, h2.tape, h2.output, Nat.le_trans g.size h2.size, fun k hk hne => (h2.block k (Nat.lt_of_lt_of_le hk g.size) hne).trans (g.block k hk)⟩

/-- '[]byte{}'. -/
theorem Buf.made {B : Nat} {w0 w : World} (h : Below B w0 w) (hB : B ≤ w0.heap.size) : Buf B w0 (w.alloc (.cells #[] 5)) (.slice (some ⟨w.heap.size, 0, none⟩) 0 0) [] :=
  ⟨World.ownsRow_made w #[] 0 (Nat.le_trans hB h.size) (by decide) rfl, h.alloc (Nat.le_trans hB h.size) _, hB⟩

/-- 'b[k:]', k an Int. -/
theorem cut_from_i {P : Program} {w0 : World} {a : Option Addr} {l : List UInt8} (h : Bs w0 a l) (t : TypeId) {e : TypeId} (ht : P.underlying t = some (.slice e)) (hs : ∀ w : World, (sizeOf e).run P w = .ok 1 w) (cap : Nat) (ki : Int) (k : Nat) (hki : ki = k) (hc : l.length ≤ cap) (hn : a = none → cap = 0) (hk : k ≤ l.length) :
    ∃ a2 l2 cap2, l2 = l.drop k ∧ Bs w0 a2 l2 ∧ l2.length ≤ cap2 ∧ cap2 ≤ cap ∧ (a2 = none → cap2 = 0) ∧ ∀ w : World, (Instr.slice t (.slice a l.length cap) (some (.int .i64 ki)) none none).run P w = .ok (.slice a2 l2.length cap2) w := by
  subst hki; exact cut_from h t ht hs cap k hc hn hk

/-- 'b[i:k]', both Ints. -/
theorem cut_mid_i {P : Program} {w0 : World} {a : Option Addr} {l : List UInt8} (h : Bs w0 a l) (t : TypeId) {e : TypeId} (ht : P.underlying t = some (.slice e)) (hs : ∀ w : World, (sizeOf e).run P w = .ok 1 w) (cap : Nat) (ii ki : Int) (i k : Nat) (hii : ii = i) (hki : ki = k) (hc : l.length ≤ cap) (hn : a = none → cap = 0) (hi : i ≤ k) (hk : k ≤ l.length) :
    ∃ a2 l2 cap2, l2 = (l.drop i).take (k - i) ∧ l2.length = k - i ∧ Bs w0 a2 l2 ∧ l2.length ≤ cap2 ∧ cap2 ≤ cap ∧ (a2 = none → cap2 = 0) ∧ ∀ w : World, (Instr.slice t (.slice a l.length cap) (some (.int .i64 ii)) (some (.int .i64 ki)) none).run P w = .ok (.slice a2 l2.length cap2) w := by
  subst hii hki; exact cut_mid h t ht hs cap i k hc hn hi hk

/-- 'b[:k]', k an Int. -/
theorem cut_to_i {P : Program} {w0 : World} {a : Option Addr} {l : List UInt8} (h : Bs w0 a l) (t : TypeId) {e : TypeId} (ht : P.underlying t = some (.slice e)) (hs : ∀ w : World, (sizeOf e).run P w = .ok 1 w) (cap : Nat) (ki : Int) (k : Nat) (hki : ki = k) (hc : l.length ≤ cap) (hn : a = none → cap = 0) (hk : k ≤ l.length) :
    ∃ l2, l2 = l.take k ∧ l2.length = k ∧ Bs w0 a l2 ∧ ∀ w : World, (Instr.slice t (.slice a l.length cap) none (some (.int .i64 ki)) none).run P w = .ok (.slice a l2.length cap) w := by
  subst hki
  refine ⟨l.take k, rfl, by rw [List.length_take]; omega, h.take k, fun w => ?_⟩
  rw [run_slice_to t ht a l.length cap k (by omega) hn hs w, List.length_take, Nat.min_eq_left hk]

end Go.Proofs.YtnlkanhakmkejaaDoor
