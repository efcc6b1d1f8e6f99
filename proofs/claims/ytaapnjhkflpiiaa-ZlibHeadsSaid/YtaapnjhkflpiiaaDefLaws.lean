/-
  deflate.Raw; the helpers of law04; the laws DeflateSizes, DeflateShort, walked.
-/
import Derived.Test.YtaapnjhkflpiiaaFixed
namespace Go.Proofs.Ytaapnjhkflpiiaa
open Go.RowKit Go.Mix

theorem Sl.nil (w : World) : Sl w none 0 [] := ⟨.inl rfl, Nat.le_refl _, by decide, fun _ => rfl⟩

theorem stored_ret {w : World} {a : Option Addr} {cap : Nat} {b : List UInt8} (hs : Sl w a cap b) (hl : b.length ≤ 1000000) :
    Calls Try.prog 21 #[.slice a b.length cap] w fun e w' => ∃ a2 c2, e = .returned (.slice a2 (storedOf b).length c2) ∧ Sl w' a2 c2 (storedOf b) ∧ Below w.heap.size w w' :=
  (stored_sl a cap b w hs hl).mono fun e w' h => by
    obtain ⟨v, rfl, hb⟩ := h
    obtain ⟨a2, c2, rfl, h2⟩ := hb.1.sl
    exact ⟨a2, c2, rfl, h2, hb.2.1⟩

theorem fixed_ret {w : World} {a : Option Addr} {cap : Nat} {b : List UInt8} (hs : Sl w a cap b) (hl : b.length ≤ 1000000) :
    Calls Try.prog 33 #[.slice a b.length cap] w fun e w' => ∃ a2 c2, e = .returned (.slice a2 (fixedOf b).length c2) ∧ Sl w' a2 c2 (fixedOf b) ∧ Below w.heap.size w w' :=
  (fixed_sl a cap b w hs hl).mono fun e w' h => by
    obtain ⟨v, rfl, hb⟩ := h
    obtain ⟨a2, c2, rfl, h2⟩ := hb.sl
    exact ⟨a2, c2, rfl, h2, hb.frame.toBelow (fun k hk => hk)⟩

theorem rawpack_ret {w : World} {a : Option Addr} {cap : Nat} {b : List UInt8} (hs : Sl w a cap b) (hl : b.length ≤ 1000000) :
    Calls Try.prog 19 #[.slice a b.length cap] w fun e w' => ∃ a2 c2, e = .returned (.slice a2 (rawPackOf b).length c2) ∧ Sl w' a2 c2 (rawPackOf b) ∧ Below w.heap.size w w' := by
  have HR := Lib.hid (show rawPackOf b = if (fixedOf b).length ≤ (storedOf b).length then fixedOf b else storedOf b from rfl)
  go_enter Try.func19, Try.ntmps19
  go_wp2_with fail
  refine (fixed_ret hs hl).mono ?_
  rintro e w1 ⟨a2, c2, rfl, h2, g1⟩
  generalize fixedOf b = x at *
  go_wp2_with fail
  refine (stored_ret (hs.below g1) hl).mono ?_
  rintro e w2 ⟨a3, c3, rfl, h3, g2⟩
  generalize storedOf b = y at *
  have G2 := g1.trans (g2.mono g1.size)
  have h22 := h2.below g2
  by_cases hle : x.length ≤ y.length
  · have ht : decide (x.length ≤ y.length) = true := decide_eq_true hle
    go_wp2_with fail
    go_ret
    exact ⟨a2, c2, by rw [HR.out, if_pos hle]; rfl, by rw [HR.out, if_pos hle]; exact h22, G2⟩
  · have ht : decide (x.length ≤ y.length) = false := decide_eq_false hle
    go_wp2_with fail
    go_ret
    exact ⟨a3, c3, by rw [HR.out, if_neg hle]; rfl, by rw [HR.out, if_neg hle]; exact h3, G2⟩

theorem known04_any (w : World) :
    Calls Try.prog 20 #[] w fun e w' => e = .returned (.bool true) ∧ Below w.heap.size w w' := by
  have kc := run_convert_const (P := Try.prog) 22 5 Try.underlying22 Try.underlying5
  have e1 : storedOf [97] = [1, 1, 0, 254, 255, 97] := by decide +kernel
  have e2 : storedOf [] = [1, 0, 0, 255, 255] := by decide +kernel
  have e3 : rawPackOf [] = [3, 0] := by decide +kernel
  have E := Lib.hid (And.intro e1 (And.intro e2 e3))
  clear e1 e2 e3
  go_enter Try.func20, Try.ntmps20
  go_wp2_with fail
  have hs : Sl (w.alloc (.cells #[.int .u8 97] 5 (1, 2))) (some ⟨w.heap.size, 0, none⟩) 1 [97] := ⟨.block (heap_alloc_last _ _ _ rfl) rfl, by decide, by decide, by simp⟩
  have C1 := stored_ret hs (by simp)
  rw [show ([97] : List UInt8).length = 1 from rfl] at C1
  refine C1.mono ?_
  clear C1
  rintro e w1 ⟨a2, c2, rfl, h2, g1⟩
  rw [E.out.1] at h2 ⊢
  have t1 := h2.str
  rw [show ([1, 1, 0, 254, 255, 97] : List UInt8).length = 6 from rfl] at t1 ⊢
  have G1 : Below w.heap.size w w1 := ((Below.refl _ _).alloc (Nat.le_refl _) _).trans (g1.mono (by simp))
  clear g1 hs kc
  go_wp2_with fail
  have C2 := fun W => stored_ret (Sl.nil W) (by simp)
  simp only [List.length_nil] at C2
  refine (C2 _).mono ?_
  clear C2
  rintro e w2 ⟨a3, c3, rfl, h3, g2⟩
  rw [E.out.2.1] at h3 ⊢
  have t2 := h3.str
  rw [show ([1, 0, 0, 255, 255] : List UInt8).length = 5 from rfl] at t2 ⊢
  have G2 := G1.trans (g2.mono G1.size)
  clear G1 g2 t1
  go_wp2_with fail
  have C3 := fun W => rawpack_ret (Sl.nil W) (by simp)
  simp only [List.length_nil] at C3
  refine (C3 _).mono ?_
  clear C3
  rintro e w3 ⟨a4, c4, rfl, h4, g3⟩
  rw [E.out.2.2] at h4 ⊢
  rw [show ([3, 0] : List UInt8).length = 2 from rfl]
  have G3 := G2.trans (g3.mono G2.size)
  clear G2 g3 t2
  go_wp2_with fail
  go_ret
  exact ⟨rfl, G3⟩

end Go.Proofs.Ytaapnjhkflpiiaa
