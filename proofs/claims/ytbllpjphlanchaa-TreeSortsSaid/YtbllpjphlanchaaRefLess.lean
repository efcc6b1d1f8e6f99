/-
  The document's Less: the walk.
-/
import Derived.Test.YtbllpjphlanchaaRefDig
import Derived.Test.YtbllpjphlanchaaCmp
import Derived.Test.YtbllpjphlanchaaBox
namespace Go.Proofs.Ytbllpjphlanchaa
open Go.RowKit Go.Mix Go.WideMaps

/-- Does an entry stand ahead of another one? -/
def lessE (x y : Ent) : Bool := lessB (thoughtL x) (thoughtL y)

set_option maxRecDepth 100000 in
set_option maxHeartbeats 4000000 in
theorem refLess_any (x y : Ent) (hx : x.name.length ≤ 1000000) (hy : y.name.length ≤ 1000000) (w : World) : Calls Try.prog 18 #[.agg (recA encE x), .agg (recA encE y)] w fun e w' => e = .returned (.bool (lessE x y)) ∧ Below w.heap.size w w' := by
  obtain ⟨w1, hw1⟩ : ∃ w1, w1 = (w.alloc (.cells (recA encE x) 43)).alloc (.cells (recA encE y) 43) := ⟨_, rfl⟩
  have hb : Below w.heap.size w w1 := by rw [hw1]; exact ((Below.refl _ _).alloc (Nat.le_refl _) _).alloc (by simp) _
  have k0 : w1.heap[w.heap.size]? = some (.cells (recA encE x) 43 (0, 0)) := by
    rw [hw1, Below.block ((Below.refl _ _).alloc (Nat.le_refl _) _) _ (by simp)]; exact heap_alloc_last _ _ _ rfl
  have k1 : w1.heap[w.heap.size + 1]? = some (.cells (recA encE y) 43 (0, 0)) := by
    rw [hw1]; exact heap_alloc_last _ _ _ (by simp)
  obtain ⟨p0, p1, -⟩ := ent_fields (recBox k0)
  obtain ⟨q0, q1, -⟩ := ent_fields (recBox k1)
  rw [Nat.zero_add] at p1 q1
  have AX : ∀ W, (Op.stringOp .add (strOf x.name) ⟨#[47]⟩).run Try.prog W = .ok (.string (strOf (x.name ++ [47]))) W := fun W => Go.run_string_add_lists (P := Try.prog) W x.name [47] (by omega) (by decide)
  have AY : ∀ W, (Op.stringOp .add (strOf y.name) ⟨#[47]⟩).run Try.prog W = .ok (.string (strOf (y.name ++ [47]))) W := fun W => Go.run_string_add_lists (P := Try.prog) W y.name [47] (by omega) (by decide)
  have HB := Lib.hid hb
  have HW := Lib.hid hw1
  obtain ⟨X, hX⟩ : ∃ X, X = thoughtL x := ⟨_, rfl⟩
  obtain ⟨Y, hY⟩ : ∃ Y, Y = thoughtL y := ⟨_, rfl⟩
  have hlX : X.length ≤ 1000001 := by rw [hX]; unfold thoughtL; split <;> (try rw [List.length_append, List.length_singleton]) <;> omega
  have hlY : Y.length ≤ 1000001 := by rw [hY]; unfold thoughtL; split <;> (try rw [List.length_append, List.length_singleton]) <;> omega
  have hR : lessE x y = lessB X Y := by rw [hX, hY]; rfl
  rw [hR]
  have TX : (x.mode = 16384 ∧ strOf (x.name ++ [47]) = strOf X) ∨ (x.mode ≠ 16384 ∧ strOf x.name = strOf X) := by
    rw [hX]; unfold thoughtL
    by_cases h : x.mode = 16384
    · exact .inl ⟨h, by rw [if_pos h]⟩
    · exact .inr ⟨h, by rw [if_neg h]⟩
  have TY : (y.mode = 16384 ∧ strOf (y.name ++ [47]) = strOf Y) ∨ (y.mode ≠ 16384 ∧ strOf y.name = strOf Y) := by
    rw [hY]; unfold thoughtL
    by_cases h : y.mode = 16384
    · exact .inl ⟨h, by rw [if_pos h]⟩
    · exact .inr ⟨h, by rw [if_neg h]⟩
  clear hX hY hR k0 k1 hb hx hy
  have HX := Lib.hid TX
  have HY := Lib.hid TY
  clear TX TY
  generalize strOf (x.name ++ [47]) = X1 at *
  generalize strOf x.name = X0 at *
  generalize strOf (y.name ++ [47]) = Y1 at *
  generalize strOf y.name = Y0 at *
  generalize x.mode = mx at *
  generalize y.mode = my at *
  go_enter Try.func18, Try.ntmps18
  go_upto_region 1 with (fail)
  rw [← HW.out]
  clear hw1
  go_region
  have HSX := Lib.hid (strOf_size X)
  have HSY := Lib.hid (strOf_size Y)
  have HIX := Lib.hid (fun (i : Nat) (h : i < X.length) (W : World) => str_at Try.underlying9 X (i : Int) rfl (List.getElem?_eq_getElem h) W)
  have HIY := Lib.hid (fun (i : Nat) (h : i < Y.length) (W : World) => str_at Try.underlying9 Y (i : Int) rfl (List.getElem?_eq_getElem h) W)
  rcases HX.out with ⟨hm, rfl⟩ | ⟨hm, rfl⟩ <;> rcases HY.out with ⟨hn, rfl⟩ | ⟨hn, rfl⟩
  all_goals
    clear HX HY
    have hsx := HSX.out
    have hsy := HSY.out
    generalize strOf X = SX at *
    generalize strOf Y = SY at *
    first | (have em : (mx == 16384) = true := by rw [beq_iff_eq]; exact hm) | (have em : (mx == 16384) = false := by rw [beq_eq_false_iff_ne]; exact hm)
    first | (have en : (my == 16384) = true := by rw [beq_iff_eq]; exact hn) | (have en : (my == 16384) = false := by rw [beq_eq_false_iff_ne]; exact hn)
    clear hm hn
    go_wp2_with fail
    clear em en
    go_loopw [7] (fun s7 wr => ∃ i : Nat, s7 = .int .i64 (i : Int) ∧ i ≤ X.length ∧ i ≤ Y.length ∧ X.take i = Y.take i ∧ Below w.heap.size w wr) (fun s7 _ => X.length - (intOf s7).toNat)
    case atStart => exact ⟨0, rfl, Nat.zero_le _, Nat.zero_le _, rfl, HB.out.drew⟩
    case round =>
      obtain ⟨i, rfl, hix, hiy, ht, hbel⟩ := hrel
      have HT := Lib.hid (And.intro ht hbel)
      clear ht hbel
      by_cases hx1 : i < X.length
      · have tx : (i : Int) < (X.length : Int) := by omega
        by_cases hy1 : i < Y.length
        · have ty : (i : Int) < (Y.length : Int) := by omega
          have IX := HIX.out i hx1
          have IY := HIY.out i hy1
          have HC := Lib.hid (And.intro (show X[i] = X[i] from rfl) (show Y[i] = Y[i] from rfl))
          by_cases hc : X[i] = Y[i]
          · have HS := Lib.hid (show X.take (i + 1) = Y.take (i + 1) by rw [List.take_succ_eq_append_getElem hx1, List.take_succ_eq_append_getElem hy1, HT.out.1, hc])
            have tc : ((X[i].toNat : Int) != (Y[i].toNat : Int)) = false := by rw [hc]; simp
            generalize (X[i].toNat : Int) = cx at *
            generalize (Y[i].toNat : Int) = cy at *
            clear hc
            go_wp2_with fail
            go_region
            all_goals go_wp2_with fail
            go_roundw
            case rel => exact ⟨i + 1, by go_num, hx1, hy1, HS.out, HT.out.2.drew⟩
            case measure => simp [intOf]; omega
          · have HS := Lib.hid (cmp_step hx1 hy1 HT.out.1 hc)
            have tc : ((X[i].toNat : Int) != (Y[i].toNat : Int)) = true := by
              simp only [bne_iff_ne, ne_eq]
              intro h; exact hc (UInt8.toNat_inj.1 (by omega))
            have tl : decide ((X[i].toNat : Int) < (Y[i].toNat : Int)) = decide (X[i] < Y[i]) := by
              congr 1
              rw [UInt8.lt_iff_toNat_lt]
              simp
            rw [← HS.out] at tl
            have HTL := Lib.hid tl
            clear tl
            generalize (X[i].toNat : Int) = cx at *
            generalize (Y[i].toNat : Int) = cy at *
            clear hc
            go_wp2_with fail
            go_region
            all_goals go_wp2_with fail
            go_region
            all_goals go_wp2_with fail
            go_ret
            exact ⟨by rw [← HTL.out]; rfl, HT.out.2.drew.drew⟩
        · have ty : ¬ (i : Int) < (Y.length : Int) := by omega
          have HE := Lib.hid (cmp_end hix hiy (.inr (by omega)) HT.out.1)
          go_wp2_with fail
          go_ret
          exact ⟨by rw [HE.out]; rfl, HT.out.2⟩
      · have tx : ¬ (i : Int) < (X.length : Int) := by omega
        have HE := Lib.hid (cmp_end hix hiy (.inl (by omega)) HT.out.1)
        go_wp2_with fail
        go_ret
        exact ⟨by rw [HE.out]; rfl, HT.out.2⟩
end Go.Proofs.Ytbllpjphlanchaa
