/-
  The law's acts as they lie; how an argument that is a slice of them is opened.
-/
import Derived.Test.YthjjdcfkdmhmlaaDoorOpen7
import Derived.Test.YthjjdcfkdmhmlaaDoorStCrashP
namespace Go.Proofs.YthjjdcfkdmhmlaaDoor
open Go.RowKit Go.ChangeShapes Go.WideShapes Go.Deep Go.WideMaps

/-- An act as it lies. -/
structure ActA where
  kind : Int
  path : Bytes
  dst : Bytes
  num : Int
  ba : Option Addr
  bn : Nat
  bc : Nat
  ka : Option Addr
  kn : Nat
  kc : Nat
def act0 : ActA := ⟨0, [], [], 0, none, 0, 0, none, 0, 0⟩
instance : Inhabited ActA := ⟨act0⟩
def encA (x : ActA) : List Value := [.int .i64 x.kind, .string (strOf x.path), .string (strOf x.dst), .int .i64 x.num, .slice x.ba x.bn x.bc, .slice x.ka x.kn x.kc]
theorem strOf_nil : strOf [] = ByteArray.empty := rfl
set_option maxRecDepth 100000 in
theorem tyA : RecTy ActA encA 6 42 49 :=
  ⟨by decide, by decide, fun _ => rfl, fun x u hu => by simp [encA] at hu; rcases hu with rfl | rfl | rfl | rfl | rfl | rfl <;> rfl, Tryd.underlying42, ⟨_, Tryd.underlying49⟩, fun w => by kernel_rfl, by kernel_rfl, ⟨(encA act0).toArray, 96, by kernel_rfl, rfl, by decide⟩⟩
/-- What it says. -/
structure ActIs (w : World) (x : ActA) : Prop where
  kind : (Lit.int .i64 x.kind).wf = true
  num : (Lit.int .i64 x.num).wf = true
  path : x.path.length ≤ 9223372036854775807
  dst : x.dst.length ≤ 9223372036854775807
  bytes : ∃ b : Bytes, x.bn = b.length ∧ Sl w x.ba x.bc b
  keep : ∃ K : List Int, x.kn = K.length ∧ RsAt encI 1 w x.ka x.kc K
theorem act_cells {w : World} {b q : Nat} {x : ActA} (h : w.rangeAt b q (encA x)) :
    w.cell? ⟨b, q, none⟩ = some (.int .i64 x.kind) ∧ w.cell? ⟨b, q + 1, none⟩ = some (.string (strOf x.path)) ∧ w.cell? ⟨b, q + 2, none⟩ = some (.string (strOf x.dst)) ∧ w.cell? ⟨b, q + 3, none⟩ = some (.int .i64 x.num) ∧ w.cell? ⟨b, q + 4, none⟩ = some (.slice x.ba x.bn x.bc) ∧ w.cell? ⟨b, q + 5, none⟩ = some (.slice x.ka x.kn x.kc) :=
  ⟨h 0 _ rfl, h 1 _ rfl, h 2 _ rfl, h 3 _ rfl, h 4 _ rfl, h 5 _ rfl⟩

section
variable {H : Type} {enc' : TypeId × Value → H} {w : World}
theorem trod_struct6 {t : TypeId} {f0 f1 f2 f3 f4 f5 : Field} {fuel : Nat} {cs : List Value} {x : DataW H × List MemPlace} (ht : Tryd.prog.underlying t = some (.struct #[f0, f1, f2, f3, f4, f5])) (h : DataW.trod enc' Tryd.prog w 0 (fun _ => true) true fuel t cs = some x) :
    ∃ y0 y1 y2 y3 y4 y5 n, cs.length = Tryd.prog.cellsOf t ∧ DataW.trod enc' Tryd.prog w 0 (fun _ => true) true n f0.type ((cs.drop f0.offset).take (Tryd.prog.cellsOf f0.type)) = some y0 ∧
      DataW.trod enc' Tryd.prog w 0 (fun _ => true) true n f1.type ((cs.drop f1.offset).take (Tryd.prog.cellsOf f1.type)) = some y1 ∧ DataW.trod enc' Tryd.prog w 0 (fun _ => true) true n f2.type ((cs.drop f2.offset).take (Tryd.prog.cellsOf f2.type)) = some y2 ∧
      DataW.trod enc' Tryd.prog w 0 (fun _ => true) true n f3.type ((cs.drop f3.offset).take (Tryd.prog.cellsOf f3.type)) = some y3 ∧ DataW.trod enc' Tryd.prog w 0 (fun _ => true) true n f4.type ((cs.drop f4.offset).take (Tryd.prog.cellsOf f4.type)) = some y4 ∧
      DataW.trod enc' Tryd.prog w 0 (fun _ => true) true n f5.type ((cs.drop f5.offset).take (Tryd.prog.cellsOf f5.type)) = some y5 := by
  obtain ⟨xs, n, _, rfl, hl, hlen, hf⟩ := DataW.trod_struct ht h
  match xs, hlen with
  | [y0, y1, y2, y3, y4, y5], _ => exact ⟨y0, y1, y2, y3, y4, y5, n, hl, by simpa using hf 0 f0 rfl, by simpa using hf 1 f1 rfl, by simpa using hf 2 f2 rfl, by simpa using hf 3 f3 rfl, by simpa using hf 4 f4 rfl, by simpa using hf 5 f5 rfl⟩
/-- A slice of ints as it was opened. -/
theorem ints_rs {fuel : Nat} {x : DataW H × List MemPlace} {cs : List Value} (h : DataW.trod enc' Tryd.prog w 0 (fun _ => true) true fuel 47 cs = some x) :
    ∃ (a : Option Addr) (n c : Nat) (K : List Int), cs = [.slice a n c] ∧ n = K.length ∧ RsAt encI 1 w a c K := by
  rcases open_ints Tryd.underlying47 Tryd.underlying3 (by kernel_rfl) h with ⟨hcs, _⟩ | ⟨y, l, c, zs, hcs, _, hl, hm, hz, _, hcell, hwz⟩
  · exact ⟨none, 0, 0, [], hcs, rfl, RsAt.nil w⟩
  · have hm' : c ≤ 9223372036854775807 := Nat.le_trans hm (by decide)
    simp only [if_true] at hz
    exact ⟨some y, l, c, (List.range l).map fun i => zs.getD i 0, hcs, by rw [List.length_map, List.length_range], rs_ones _ hl hm' (fun i hi => hcell i (by omega))⟩
theorem bytes_sl {fuel : Nat} {x : DataW H × List MemPlace} {cs : List Value} (h : DataW.trod enc' Tryd.prog w 0 (fun _ => true) true fuel 28 cs = some x) :
    ∃ (a : Option Addr) (n c : Nat) (b : Bytes), cs = [.slice a n c] ∧ n = b.length ∧ Sl w a c b := by
  rcases open_ints Tryd.underlying28 Tryd.underlying5 (by kernel_rfl) h with ⟨hcs, _⟩ | ⟨y, l, c, zs, hcs, _, hl, hm, hz, _, hcell, hwz⟩
  · exact ⟨none, 0, 0, [], hcs, rfl, ⟨.inl rfl, Nat.le_refl _, by decide, fun _ => rfl⟩⟩
  · simp only [if_true] at hz
    obtain ⟨b, hb1, hb2⟩ := open_sl (w := w) (a := some y) (len := l) (cap := c) (zs := zs) (.inr ⟨y, rfl, hl, hm, hz, hcell, hwz⟩)
    exact ⟨some y, l, c, b, hcs, hb1.symm, hb2⟩
set_option maxRecDepth 100000 in
theorem open_acts {a : Option Addr} {len cap fuel : Nat} {x : DataW H × List MemPlace} (h : DataW.trod enc' Tryd.prog w 0 (fun _ => true) true fuel 42 (Value.slice a len cap).cells.toList = some x) :
    ∃ l : List ActA, l.length = len ∧ RsAt encA 6 w a cap l ∧ ∀ p ∈ l, ActIs w p := by
  rcases open_slice Tryd.underlying42 h with ⟨hcs, _⟩ | ⟨y, l, c, m, n, D, Pl, hcs, _, hl, hmx, hm, _, hi⟩
  · simp [Value.cells] at hcs
    obtain ⟨rfl, rfl, rfl⟩ := hcs
    exact ⟨[], rfl, RsAt.nil w, fun _ h => (by simp at h)⟩
  · simp [Value.cells] at hcs
    obtain ⟨rfl, rfl, rfl⟩ := hcs
    have hC : Tryd.prog.cellsOf 49 = 6 := by kernel_rfl
    have hC1 : Tryd.prog.cellsOf 9 = 1 := by kernel_rfl
    have hC2 : Tryd.prog.cellsOf 3 = 1 := by kernel_rfl
    have hC3 : Tryd.prog.cellsOf 28 = 1 := by kernel_rfl
    have hC4 : Tryd.prog.cellsOf 47 = 1 := by kernel_rfl
    have hml : len ≤ m := by rw [hm]; simp; exact hl
    have hbig : cap ≤ 9223372036854775807 := Nat.le_trans hmx (by decide)
    have key : ∀ i, ∃ p : ActA, i < len → ActIs w p ∧ ∀ j v, (encA p)[j]? = some v → w.cell? ((y.add (i * 6)).add j) = some v := by
      intro i
      by_cases hil : i < len
      · obtain ⟨cs', hc, ht⟩ := hi i (by omega)
        rw [hC] at hc
        obtain ⟨_, hcl, hat⟩ := World.cells?_some hc
        obtain ⟨y0, y1, y2, y3, y4, y5, k, -, h0, h1, h2, h3, h4, h5⟩ := trod_struct6 Tryd.underlying49 ht
        simp only [hC1, hC2, hC3, hC4] at h0 h1 h2 h3 h4 h5
        obtain ⟨c0, c1, c2, c3, c4, c5, rfl⟩ : ∃ c0 c1 c2 c3 c4 c5, cs' = [c0, c1, c2, c3, c4, c5] := by
          match cs', hcl with
          | [c0, c1, c2, c3, c4, c5], _ => exact ⟨c0, c1, c2, c3, c4, c5, rfl⟩
        simp only [List.drop_zero, List.drop_succ_cons, List.take_succ_cons, List.take_zero] at h0 h1 h2 h3 h4 h5
        have hsl : ∀ s : ByteArray, s.size ≤ maxLen → s.data.toList.length ≤ 9223372036854775807 := fun s w1 => by
          have e : s.data.toList.length = s.size := Array.length_toList
          have e2 : maxLen = 9223372036854775807 := by decide
          rw [e]; rw [e2] at w1; exact w1
        have es : ∀ s : ByteArray, strOf s.data.toList = s := fun s => by cases s; simp [strOf]
        obtain ⟨n0, e0, -, w0⟩ := DataW.trod_int Tryd.underlying3 h0
        obtain ⟨s1, e1, -, w1⟩ := DataW.trod_string Tryd.underlying9 h1
        obtain ⟨s2, e2, -, w2⟩ := DataW.trod_string Tryd.underlying9 h2
        obtain ⟨n3, e3, -, w3⟩ := DataW.trod_int Tryd.underlying3 h3
        obtain ⟨a4, l4, c4', b4, e4, w4, s4⟩ := bytes_sl h4
        obtain ⟨a5, l5, c5', b5, e5, w5, s5⟩ := ints_rs h5
        injection e0 with e0
        injection e1 with e1
        injection e2 with e2
        injection e3 with e3
        injection e4 with e4
        injection e5 with e5
        subst e0 e1 e2 e3 e4 e5
        refine ⟨⟨n0, s1.data.toList, s2.data.toList, n3, a4, l4, c4', a5, l5, c5'⟩, fun _ => ⟨⟨w0, w3, hsl s1 w1, hsl s2 w2, ⟨b4, w4, s4⟩, ⟨b5, w5, s5⟩⟩, fun j v hj => ?_⟩⟩
        have hjl : j < 6 := (List.getElem?_eq_some_iff.1 hj).1
        rw [hat j hjl]
        have he : encA ⟨n0, s1.data.toList, s2.data.toList, n3, a4, l4, c4', a5, l5, c5'⟩ = [.int .i64 n0, .string s1, .string s2, .int .i64 n3, .slice a4 l4 c4', .slice a5 l5 c5'] := by unfold encA; rw [es, es]
        rw [he] at hj; exact hj
      · exact ⟨default, fun h => absurd h hil⟩
    obtain ⟨F, hF⟩ := Classical.axiomOfChoice key
    have gl : ((List.range len).map F).length = len := by rw [List.length_map, List.length_range]
    refine ⟨(List.range len).map F, gl, ⟨by rw [gl]; exact hl, hbig, (fun h => nomatch h), ?_⟩, fun p hp => ?_⟩
    · by_cases h0 : len = 0
      · subst h0; exact .inl rfl
      · have hp := addr_plain ((hF 0 (by omega)).2 0 _ rfl)
        obtain ⟨yb, yo, ys⟩ := y
        have hys : ys = none := by
          obtain ⟨b, o, e⟩ := hp
          revert e
          simp only [Addr.add]
          cases ys <;> simp
        subst hys
        refine .inr ⟨yb, yo, rfl, fun j hj k v hk => ?_⟩
        rw [gl] at hj
        have e1 : ((List.range len).map F)[j]! = F j := by
          rw [getElem!_pos _ j (by rw [gl]; exact hj)]; simp
        rw [e1] at hk
        have := (hF j hj).2 k v hk
        rw [Addr.add_mid, Addr.add_mid] at this
        exact this
    · obtain ⟨i, hi, rfl⟩ := List.mem_map.1 hp
      exact (hF i (List.mem_range.1 hi)).1
end
end Go.Proofs.YthjjdcfkdmhmlaaDoor
