/-
  The law's Do: an act done to a store: the walk.
-/
import Derived.Test.YthjjdcfkdmhmlaaDoorAct
import Derived.Test.YthjjdcfkdmhmlaaDoorStWrite2
import Derived.Test.YthjjdcfkdmhmlaaDoorStCrash2
import Derived.Test.YthjjdcfkdmhmlaaDoorFlPure
import Derived.Test.YthjjdcfkdmhmlaaDoorStrOps
namespace Go.Proofs.YthjjdcfkdmhmlaaDoor
open Go.RowKit Go.Mix Go.WideMaps Go.Maps

/-- An act, plain. -/
structure ActP where
  kind : Nat
  path : Bytes
  dst : Bytes
  num : Int
  b : Bytes
  keep : List Int
def actS (S : StP) (x : ActP) : StP × Int :=
  if x.kind = 0 then writeS S x.path x.num x.b else
  if x.kind = 1 then cutS S x.path x.num else
  if x.kind = 2 then syncS S x.path else
  if x.kind = 3 then renameS S x.path x.dst else
  if x.kind = 4 then removeS S x.path else
  if x.kind = 5 then (armS S x.num, 0) else
  if x.kind = 6 then (crashS S x.keep, 0) else (S, 0)
/-- An act that lies says this. -/
structure ActOf (w : World) (a : ActA) (x : ActP) : Prop where
  kind : a.kind = (x.kind : Int)
  few : x.kind < 7
  path : a.path = x.path
  dst : a.dst = x.dst
  num : a.num = x.num
  wf : -9223372036854775808 ≤ x.num ∧ x.num ≤ 9223372036854775807
  pl : x.path.length ≤ 300
  dl : x.dst.length ≤ 300
  bl : x.b.length ≤ 300
  kl : x.keep.length ≤ 20
  bn : a.bn = x.b.length
  bs : Sl w a.ba a.bc x.b
  kn : a.kn = x.keep.length
  ks : RsAt encI 1 w a.ka a.kc x.keep
theorem ActOf.below {w w' : World} {a : ActA} {x : ActP} (h : ActOf w a x) (g : Below w.heap.size w w') : ActOf w' a x :=
  { h with bs := h.bs.below g, ks := h.ks.below g }
theorem rs_blk {w : World} {a : Option Addr} {c : Nat} {l : List Int} (h : RsAt encI 1 w a c l) (hl : l ≠ []) : ∀ x, a = some x → x.block < w.heap.size := fun x hx => by
  rcases h.cells with h | ⟨b, o, e, hc⟩
  · exact absurd h hl
  · rw [e] at hx
    injection hx with hx
    subst hx
    exact lt_of_cell (hc 0 (List.length_pos_iff.2 hl) 0 _ rfl)
theorem Left.before {own : Owns} {w w1 w' : World} {p : Nat} {r : StP × Int} {e : Ending} (g : Below w.heap.size w w1) (hlt : ∀ k, own k ≠ none → k < w.heap.size) (h : Left own w1 p r e w') : Left own w p r e w' := by
  obtain ⟨e1, own', h1, h2⟩ := h
  exact ⟨e1, own', h1, (Turn.below (T := Any) g hlt).trans h2⟩

set_option maxRecDepth 100000 in
set_option maxHeartbeats 4000000 in
theorem act_any {own : Owns} {w : World} {p Z : Nat} {S : StP} (h : StoreAt own w p S) (ok : OkS Z S) (hZ : Z ≤ 100000000) {a : ActA} {x : ActP} (ha : ActOf w a x) (hbo : x.b ≠ [] → ∀ y, a.ba = some y → own y.block = none) (hko : x.keep ≠ [] → ∀ y, a.ka = some y → own y.block = none) :
    Calls Tryd.prog 20 #[ptr p, .agg (recA encA a)] w fun e w' => Left own w p (actS S x) e w' := by
  have hlt := h.lt
  have hb1 : Below w.heap.size w (w.alloc (.cells (recA encA a) 49)) := (Below.refl _ _).alloc (Nat.le_refl _) _
  have hr1 := act_cells (x := a) (w := w.alloc (.cells (recA encA a) 49)) (b := w.heap.size) (q := 0) (fun i v hv => by rw [cell_of_row _ _ _ _ _ _ (heap_alloc_last w _ _ rfl), Nat.zero_add]; simpa [recA] using hv)
  have h1 := h.below hb1
  have ha1 := ha.below hb1
  have HH := Lib.hid (And.intro h1 (And.intro ok (And.intro hZ (And.intro ha1 (And.intro hbo (And.intro hko (And.intro hb1 hlt)))))))
  clear h ok hZ hbo hko hb1 hlt h1 ha1
  obtain ⟨kind, path, dst, num, ba, bn, bc, ka, kn, kc⟩ := a
  obtain ⟨kind', path', dst', num', b, K⟩ := x
  obtain ⟨e1, hfew, e2, e3, e4, hwf, hpl, hdl, hbl, hkl, hbn, hbs, hkn, hks⟩ := ha
  simp only at e1 e2 e3 e4 hfew hwf hpl hdl hbl hkl hbn hkn
  subst e1 e2 e3 e4
  obtain ⟨k0, k1, k2, k3, k4, k5⟩ := hr1
  clear hbs hks
  dsimp only at k0 k1 k2 k3 k4 k5
  have HB := Lib.hid (And.intro hfew (And.intro hwf (And.intro hpl (And.intro hdl (And.intro hbl (And.intro hkl (And.intro hbn hkn)))))))
  subst hbn hkn
  clear hwf hpl hdl hbl hkl
  go_enter Tryd.func20, Tryd.ntmps20
  go_upto_region 1 with (fail)
  generalize w.alloc (.cells (recA encA ⟨(kind' : Int), path, dst, num, ba, b.length, bc, ka, K.length, kc⟩) 49) = w1 at *
  obtain rfl | rfl | rfl | rfl | rfl | rfl | rfl : kind' = 0 ∨ kind' = 1 ∨ kind' = 2 ∨ kind' = 3 ∨ kind' = 4 ∨ kind' = 5 ∨ kind' = 6 := by have : kind' < 7 := hfew; omega
  · have C := write_at2 HH.out.1 HH.out.2.1 HH.out.2.2.1 path (by have := HB.out.2.2.1; omega) num HB.out.2.1 HH.out.2.2.2.1.bs rfl (by have := HB.out.2.2.2.2.1; show b.length ≤ _; omega) HH.out.2.2.2.2.1
    clear hfew
    go_wp2_with fail
    refine C.mono ?_
    clear C
    rintro e w2 hl
    have hl2 := Left.before HH.out.2.2.2.2.2.2.1 HH.out.2.2.2.2.2.2.2 hl
    obtain ⟨rfl, hl3⟩ := hl2
    have H2 := Lib.hid hl3
    clear hl hl3
    go_wp2_with fail
    go_ret
    exact ⟨rfl, H2.out⟩
  · have C := cut_at HH.out.1 HH.out.2.1 HH.out.2.2.1 path (by have := HB.out.2.2.1; omega) num HB.out.2.1
    clear hfew
    go_wp2_with fail
    refine C.mono ?_
    clear C
    rintro e w2 hl
    have hl2 := Left.before HH.out.2.2.2.2.2.2.1 HH.out.2.2.2.2.2.2.2 hl
    obtain ⟨rfl, hl3⟩ := hl2
    have H2 := Lib.hid hl3
    clear hl hl3
    go_wp2_with fail
    go_ret
    exact ⟨rfl, H2.out⟩
  · have C := sync_at HH.out.1 HH.out.2.1 path (by have := HB.out.2.2.1; omega)
    clear hfew
    go_wp2_with fail
    refine C.mono ?_
    clear C
    rintro e w2 hl
    have hl2 := Left.before HH.out.2.2.2.2.2.2.1 HH.out.2.2.2.2.2.2.2 hl
    obtain ⟨rfl, hl3⟩ := hl2
    have H2 := Lib.hid hl3
    clear hl hl3
    go_wp2_with fail
    go_ret
    exact ⟨rfl, H2.out⟩
  · have C := rename_at HH.out.1 HH.out.2.1 HH.out.2.2.1 path dst (by have := HB.out.2.2.1; omega) (by have := HB.out.2.2.2.1; omega)
    clear hfew
    go_wp2_with fail
    refine C.mono ?_
    clear C
    rintro e w2 hl
    have hl2 := Left.before HH.out.2.2.2.2.2.2.1 HH.out.2.2.2.2.2.2.2 hl
    obtain ⟨rfl, hl3⟩ := hl2
    have H2 := Lib.hid hl3
    clear hl hl3
    go_wp2_with fail
    go_ret
    exact ⟨rfl, H2.out⟩
  · have C := remove_at HH.out.1 HH.out.2.1 HH.out.2.2.1 path (by have := HB.out.2.2.1; omega)
    clear hfew
    go_wp2_with fail
    refine C.mono ?_
    clear C
    rintro e w2 hl
    have hl2 := Left.before HH.out.2.2.2.2.2.2.1 HH.out.2.2.2.2.2.2.2 hl
    obtain ⟨rfl, hl3⟩ := hl2
    have H2 := Lib.hid hl3
    clear hl hl3
    go_wp2_with fail
    go_ret
    exact ⟨rfl, H2.out⟩
  · have C := arm_at HH.out.1 num
    clear hfew
    go_wp2_with fail
    refine C.mono ?_
    clear C
    rintro e w2 hl
    obtain ⟨rfl, own', hl3, ht3⟩ := hl
    have H2 := Lib.hid (And.intro hl3 ((Turn.below (T := Any) HH.out.2.2.2.2.2.2.1 HH.out.2.2.2.2.2.2.2).trans ht3))
    clear hl3 ht3
    go_wp2_with fail
    go_ret
    exact ⟨rfl, own', H2.out⟩
  · have C := crash_at2 HH.out.1 HH.out.2.1 HH.out.2.2.1 HH.out.2.2.2.1.ks rfl (by have := HB.out.2.2.2.2.2.1; show K.length ≤ _; omega) HH.out.2.2.2.2.2.1
    clear hfew
    go_wp2_with fail
    refine C.mono ?_
    clear C
    rintro e w2 hl
    obtain ⟨rfl, own', hl3, ht3⟩ := hl
    have H2 := Lib.hid (And.intro hl3 ((Turn.below (T := Any) HH.out.2.2.2.2.2.2.1 HH.out.2.2.2.2.2.2.2).trans ht3))
    clear hl3 ht3
    go_wp2_with fail
    go_ret
    exact ⟨rfl, own', H2.out⟩
end Go.Proofs.YthjjdcfkdmhmlaaDoor
