/-
  Sizes of types; small laws on bytes.
-/
import Derived.Test.YtnlkanhakmkejaaDoorBuf
import Derived.Test.YtnlkanhakmkejaaDoorBox
import Derived.Lib.ConvBytes
namespace Go.Proofs.YtnlkanhakmkejaaDoor
open Go.RowKit Go.Mix

theorem sizeOf_u8 (w : World) : (sizeOf 5).run Tryd.prog w = .ok 1 w := by kernel_rfl
theorem neq0 (x : Nat) (h : x ≠ 0) : (((x : Nat) : Int) != 0) = true := by rw [bne_iff_ne]; omega
theorem eq0 (x : Nat) (h : x ≠ 0) : (((x : Nat) : Int) == 0) = false := by rw [beq_eq_false_iff_ne]; omega

theorem xor_255 : ∀ x, x < 256 → 255 ^^^ x = 255 - x := by decide +kernel
theorem not_u8 (x : Int) (k : Nat) (hx : x = (k : Int)) (h : k < 256) : bits .xor .u8 IntKind.u8.max x = ((255 - k : Nat) : Int) := by
  subst hx
  have e : IntKind.u8.max = ((255 : Nat) : Int) := by decide
  rw [e, u8_xor_nat 255 k (by decide) h, xor_255 k h]

theorem OwnB.other {w : World} {B P : Nat} {v : Value} {l : List UInt8} {C : Array Value} {e : TypeId} {fr : Nat × Nat} (h : OwnB w B v l) (hP : w.heap[P]? = some (.cells C e fr)) (he : e ≠ 5) : v.ownBlock ≠ some P := by
  rcases h.2 with ⟨rfl, _⟩ | ⟨g, cap, cur, rfl, _, hg, _⟩
  · simp [Value.ownBlock]
  · simp [Value.ownBlock]
    rintro rfl
    rw [hg] at hP
    simp at hP
    exact he hP.2.1.symm

theorem OwnB.apart {w w' : World} {B : Nat} {v v2 : Value} {l : List UInt8} (h : OwnB w B v l) (hlt : ∀ k, v2.ownBlock = some k → k < B) (hg : w.grownBy w' v2.ownBlock) : OwnB w' B v l := by
  refine World.ownsRow.kept h hg ?_
  cases hv : v.ownBlock with
  | none => exact .inl rfl
  | some k =>
    refine .inr fun e => ?_
    have h1 := (World.ownsRow.lt h k hv).1
    have h2 := hlt k e.symm
    omega

theorem OwnB.bs_of {w : World} {B : Nat} {a : Option Addr} {n c : Nat} {l : List UInt8} (h : OwnB w B (.slice a n c) l) : Bs w a l := by
  obtain ⟨a', c', e, hb, _⟩ := h.bs
  injection e with e1
  rw [e1]; exact hb

theorem Buf.rebase {B B' : Nat} {w0 w1 w : World} {v : Value} {l : List UInt8} (h : Buf B' w1 w v l) (hB : B ≤ B') (g : Below B w0 w1) (hB2 : B ≤ w0.heap.size) : Buf B w0 w v l := by
  refine ⟨?_, g.trans (h.2.1.mono hB), hB2⟩
  obtain ⟨h1, h2⟩ := h.1
  refine ⟨h1, h2.imp id ?_⟩
  rintro ⟨g, cap, cur, e, hg, r⟩
  exact ⟨g, cap, cur, e, Nat.le_trans hB hg, r⟩

/-- The slice (a, l.length, cap) reads as l. -/
structure Sl (w : World) (a : Option Addr) (cap : Nat) (l : List UInt8) : Prop where
  bs : Bs w a l
  le : l.length ≤ cap
  max : cap ≤ 9223372036854775807
  non : a = none → cap = 0

theorem Sl.below {w w' : World} {a : Option Addr} {cap : Nat} {l : List UInt8} (h : Sl w a cap l) (g : Below w.heap.size w w') : Sl w' a cap l := ⟨h.bs.below g, h.le, h.max, h.non⟩

theorem OwnB.sl {w : World} {B : Nat} {v : Value} {l : List UInt8} (h : OwnB w B v l) : ∃ a cap, v = .slice a l.length cap ∧ Sl w a cap l := by
  obtain ⟨a, cap, rfl, hb, hc, hm, hn⟩ := h.bs
  exact ⟨a, cap, rfl, hb, hc, hm, fun e => (hn e).2⟩

theorem Sl.str {w : World} {a : Option Addr} {cap : Nat} {l : List UInt8} (h : Sl w a cap l) : (convert 51 9 (.slice a l.length cap)).run Tryd.prog w = .ok (.string ⟨l.toArray⟩) w :=
  run_string_of_bytes (P := Tryd.prog) h.bs 51 5 9 Tryd.underlying51 Tryd.underlying5 Tryd.underlying9 cap

def RowIn (w : World) (a : Option Addr) (len cap : Nat) (zs : List Int) : Prop :=
  (a = none ∧ len = 0 ∧ cap = 0 ∧ zs = []) ∨ ∃ x, a = some x ∧ len ≤ cap ∧ cap ≤ maxLen ∧ zs.length = cap ∧ (∀ i, i < zs.length → w.cell? (x.add i) = some (.int .u8 (zs.getD i 0))) ∧ ∀ n ∈ zs, (Lit.int .u8 n).wf = true

/-- What an argument of a law is. -/
theorem open_sl {w : World} {a : Option Addr} {len cap : Nat} {zs : List Int} (h : RowIn w a len cap zs) : ∃ L : List UInt8, L.length = len ∧ Sl w a cap L := by
  obtain ⟨L, hL, hb, hle, hc, hn⟩ := open_row h
  exact ⟨L.take len, by rw [List.length_take]; omega, hb.take _, by rw [List.length_take]; omega, hc, fun e => (hn e).2⟩

/-- 's[:k]', 's[k:]', 's[i:k]' of such a slice, the bounds as Ints. -/
theorem Sl.to {w : World} {a : Option Addr} {cap : Nat} {l : List UInt8} (h : Sl w a cap l) (ki : Int) (k : Nat) (hki : ki = k) (hk : k ≤ l.length) :
    ∃ l2, l2 = l.take k ∧ l2.length = k ∧ Sl w a cap l2 ∧ ∀ w : World, (Instr.slice 51 (.slice a l.length cap) none (some (.int .i64 ki)) none).run Tryd.prog w = .ok (.slice a l2.length cap) w := by
  obtain ⟨l2, h1, h2, h3, h4⟩ := cut_to_i (P := Tryd.prog) h.bs 51 Tryd.underlying51 sizeOf_u8 cap ki k hki h.le h.non hk
  exact ⟨l2, h1, h2, ⟨h3, by have := h.le; omega, h.max, h.non⟩, h4⟩
theorem Sl.from {w : World} {a : Option Addr} {cap : Nat} {l : List UInt8} (h : Sl w a cap l) (ki : Int) (k : Nat) (hki : ki = k) (hk : k ≤ l.length) :
    ∃ a2 l2 cap2, l2 = l.drop k ∧ Sl w a2 cap2 l2 ∧ ∀ w : World, (Instr.slice 51 (.slice a l.length cap) (some (.int .i64 ki)) none none).run Tryd.prog w = .ok (.slice a2 l2.length cap2) w := by
  obtain ⟨a2, l2, cap2, h1, h2, h3, h4, h5, h6⟩ := cut_from_i (P := Tryd.prog) h.bs 51 Tryd.underlying51 sizeOf_u8 cap ki k hki h.le h.non hk
  exact ⟨a2, l2, cap2, h1, ⟨h2, h3, by have := h.max; omega, h5⟩, h6⟩
theorem Sl.mid {w : World} {a : Option Addr} {cap : Nat} {l : List UInt8} (h : Sl w a cap l) (ii ki : Int) (i k : Nat) (hii : ii = i) (hki : ki = k) (hi : i ≤ k) (hk : k ≤ l.length) :
    ∃ a2 l2 cap2, l2 = (l.drop i).take (k - i) ∧ l2.length = k - i ∧ Sl w a2 cap2 l2 ∧ ∀ w : World, (Instr.slice 51 (.slice a l.length cap) (some (.int .i64 ii)) (some (.int .i64 ki)) none).run Tryd.prog w = .ok (.slice a2 l2.length cap2) w := by
  obtain ⟨a2, l2, cap2, h1, h1n, h2, h3, h4, h5, h6⟩ := cut_mid_i (P := Tryd.prog) h.bs 51 Tryd.underlying51 sizeOf_u8 cap ii ki i k hii hki h.le h.non hi hk
  exact ⟨a2, l2, cap2, h1, h1n, ⟨h2, h3, by have := h.max; omega, h5⟩, h6⟩
/-- 's[k]': where it lies, what it holds. -/
theorem Sl.at {w : World} {a : Option Addr} {cap : Nat} {l : List UInt8} (h : Sl w a cap l) (ki : Int) (k : Nat) (hki : ki = k) (hk : k < l.length) :
    (∀ w : World, (Instr.indexAt 51 (.slice a l.length cap) (.int .i64 ki)).run Tryd.prog w = .ok (.pointer (some (elt a k))) w) ∧ w.cell? (elt a k) = some (.int .u8 (l[k].toNat : Int)) := by
  subst hki
  exact ⟨fun w => run_index_any (P := Tryd.prog) h.bs.cells 51 Tryd.underlying51 sizeOf_u8 cap (n := l.length) hk (by rw [bcells_length]; omega) .i64 w, h.bs.cell hk⟩

/-- '[]byte(s)'. -/
theorem bytes_made (w : World) (s : ByteArray) (hs : s.size ≤ 140737488355328) :
    ∃ cap w', (convert 9 51 (.string s)).run Tryd.prog w = .ok (.slice (some ⟨w.heap.size, 0, none⟩) s.size cap) w' ∧ Sl w' (some ⟨w.heap.size, 0, none⟩) cap s.data.toList ∧ Below w.heap.size w w' := by
  have hsz : s.data.toList.length = s.size := Array.length_toList
  refine ⟨_, _, Lib.run_convert_string_bytes w 9 51 5 s Tryd.underlying9 Tryd.underlying51 Tryd.underlying5, ⟨?_, ?_, ?_, fun h => nomatch h⟩, ?_⟩
  · have hlen : (Lib.bytesCells w 5 s).toList.take s.data.toList.length = bcells s.data.toList := by
      unfold Lib.bytesCells
      rw [Array.toList_append, List.take_append_of_le_length (by simp)]
      refine (List.take_of_length_le ?_).trans ?_
      · simp
      · simp [bcells]
    exact .block (Lib.bytesWorld_at_new w 5 s) hlen
  · rw [hsz]; exact grownCap_ge _ _ _ _
  · have := grownCap_le_maxLen w s.size 0 5 (by unfold maxLen; omega)
    unfold maxLen at this; omega
  · refine ⟨rfl, rfl, rfl, by rw [Lib.bytesWorld_size]; omega, fun k hk => Lib.bytesWorld_at_old w _ _ k hk⟩
end Go.Proofs.YtnlkanhakmkejaaDoor
