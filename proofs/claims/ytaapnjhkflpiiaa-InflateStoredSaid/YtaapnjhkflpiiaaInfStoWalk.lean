/-
  The law InflateStored, walked.
-/
import Derived.Test.YtaapnjhkflpiiaaInf13
import Derived.Test.YtaapnjhkflpiiaaInfSto
import Derived.Test.YtaapnjhkflpiiaaDefSizesWalk
namespace Go.Proofs.Ytaapnjhkflpiiaa
open Go.RowKit Go.Mix

theorem head_law (n l : Nat) (hn : n ≤ 2000) (hl : l < 2) :
    (#[Value.int .u8 (l : Int), .int .u8 ((n : Int) % 256), .int .u8 ((n : Int) / 256), .int .u8 (wrap64 (255 - bits .and .i64 (n : Int) 255) % 256), .int .u8 (255 - (n : Int) / 256)] : Array Value).toList = bcells (storedHead n l) := by
  have e : bits .and .i64 (n : Int) 255 = ((n % 256 : Nat) : Int) := by
    rw [show (255 : Int) = ((255 : Nat) : Int) from rfl, (i64_bits_nat n 255 (by omega) (by decide)).1]
    congr 1
    exact Nat.and_two_pow_sub_one_eq_mod n 8
  have e2 : wrap64 (255 - ((n % 256 : Nat) : Int)) = 255 - ((n % 256 : Nat) : Int) := IntWalk.wrap64_in _ ⟨by omega, by omega⟩
  rw [e, e2]
  simp [bcells, storedHead]
  omega

set_option maxRecDepth 100000 in
set_option maxHeartbeats 1000000 in
theorem law_stored {w : World} {a : Option Addr} {cap : Nat} {b : List UInt8} (hs : Sl w a cap b) (hl : b.length ≤ 2000) (each : Nat) (h1 : 1 ≤ each) (h2 : each ≤ 2000) :
    Calls Try.prog 25 #[.slice a b.length cap, .int .i64 (each : Int)] w fun e w' => ∃ v, e = .returned v ∧ RowB (· < w.heap.size) w w' v (storedE each (b.length + 1) b) := by
  go_enter Try.func25, Try.ntmps25
  go_wp2_with fail
  go_loopw [0, 5] (fun s v wr => ∃ (a2 : Option Addr) (cap2 : Nat) (l2 o : List UInt8) (f : Nat), s = .slice a2 l2.length cap2 ∧ Sl w a2 cap2 l2 ∧ l2.length ≤ 2000 ∧ l2.length < f ∧ o ++ storedE each f l2 = storedE each (b.length + 1) b ∧ o.length + 7 * l2.length ≤ 20000 ∧ RowB (· < w.heap.size) w wr v o) (fun s _ _ => match s with | .slice _ n _ => n | _ => 0)
  case atStart => exact ⟨a, cap, b, [], b.length + 1, rfl, hs, hl, by omega, rfl, by simp; omega, Row.nil (FrameS.refl fun k hk => hk)⟩
  case round =>
    obtain ⟨a2, cap2, l2, o, f, rfl, hs2, hl2, hf, hgo, hr, hrow⟩ := hrel
    obtain ⟨f, rfl⟩ : ∃ g, f = g + 1 := ⟨f - 1, by omega⟩
    rw [storedE] at hgo
    have hle2 := hs2.le
    have hmx2 := hs2.max
    by_cases hlast : l2.length ≤ each
    · have hmin := min_run (l2.length : Int) (each : Int) l2.length (by split <;> omega)
      rw [show min l2.length each = l2.length from by omega, if_pos rfl] at hgo
      obtain ⟨l3, hl3, hl3n, hs3, hsl3⟩ := hs2.to l2.length l2.length rfl (Nat.le_refl _)
      obtain ⟨a4, l4, cap4, -, -, hsl4⟩ := hs2.from l2.length l2.length rfl (Nat.le_refl _)
      rw [← hl3, ← List.append_assoc] at hgo
      have HG := Lib.hid hgo
      have HL := Lib.hid hl3n
      clear hgo hl3 hl3n
      go_wp2_with (first
        | (at_builtin; refine wpList_append_n rfl (.tmp 16) (.tmp 31) rfl _ o rfl hrow _ (storedHead l2.length 1) (head_law l2.length 1 (by omega) (by decide)) 5 5 rfl rfl (by simp [storedHead]; omega) ?_; intro v5 w5 hb5 hgr5)
        | (at_builtin; refine wpList_append_b rfl (.tmp 33) (.tmp 36) rfl v5 _ rfl hb5 a2 cap2 l3 rfl (hs3.below (hb5.frame.toBelow (fun k hk => hk))) (by have := HL.out; simp [storedHead]; omega) ?_; intro v6 w6 hb6 hgr6))
      go_ret
      exact ⟨v6, rfl, by rw [← HG.out]; exact hb6⟩
    · have hmin := min_run (l2.length : Int) (each : Int) each (by split <;> omega)
      rw [show min l2.length each = each from by omega, if_neg (by omega)] at hgo
      obtain ⟨l3, hl3, hl3n, hs3, hsl3⟩ := hs2.to each each rfl (by omega)
      obtain ⟨a4, l4, cap4, hl4, hs4, hsl4⟩ := hs2.from each each rfl (by omega)
      have hl4n : l4.length + each = l2.length := by rw [hl4, List.length_drop]; omega
      have ht : ((each : Int) == (l2.length : Int)) = false := by rw [beq_eq_false_iff_ne]; omega
      rw [← hl3, ← hl4] at hgo
      have HG := Lib.hid (show o ++ storedHead each 0 ++ l3 ++ storedE each f l4 = storedE each (b.length + 1) b by rw [← hgo]; simp)
      have HL := Lib.hid (And.intro hl3n hl4n)
      clear hgo hl3 hl3n hl4 hl4n
      go_wp2_with (first
        | (at_builtin; refine wpList_append_n rfl (.tmp 16) (.tmp 31) rfl _ o rfl hrow _ (storedHead each 0) (head_law each 0 (by omega) (by decide)) 5 5 rfl rfl (by simp [storedHead]; omega) ?_; intro v5 w5 hb5 hgr5)
        | (at_builtin; refine wpList_append_b rfl (.tmp 33) (.tmp 36) rfl v5 _ rfl hb5 a2 cap2 l3 rfl (hs3.below (hb5.frame.toBelow (fun k hk => hk))) (by have := HL.out; simp [storedHead]; omega) ?_; intro v6 w6 hb6 hgr6))
      go_roundw
      case rel => exact ⟨a4, cap4, l4, _, f, rfl, hs4, by have := HL.out; omega, by have := HL.out; omega, HG.out, by have := HL.out; simp [storedHead]; omega, hb6⟩
      case measure => have := HL.out; show l4.length < l2.length; omega

set_option maxRecDepth 100000 in
set_option maxHeartbeats 2000000 in
theorem inflateStored_walk (a : Option Addr) (len cap : Nat) (zs : List Int) (each : Int) (w : World) (h : RowIn w a len cap zs) (_hw : (Lit.int .i64 each).wf = true) :
    Calls Try.prog 10 #[.slice a len cap, .int .i64 each] w fun e w' => e = .returned (.bool true) ∧ Below w.heap.size w w' := by
  obtain ⟨L, rfl, hL⟩ := open_sl h
  clear h
  have hLl := hL.le
  have hLm := hL.max
  obtain ⟨bq, hbq⟩ : ∃ bq, bq = min L.length 2000 := ⟨_, rfl⟩
  obtain ⟨b, hb, hbl, hsb, hb1⟩ := hL.to (bq : Int) bq rfl (by omega)
  have hmin1 := min_run (L.length : Int) 2000 bq (by split <;> omega)
  have hb6 : b.length ≤ 2000 := by omega
  clear hb hbl hL hbq
  obtain ⟨t, ht, em0⟩ := u64_mod each 2000 (by decide) (by decide)
  have em : wrap64 ((IntKind.u64.wrap each).tmod 2000) = (t : Int) := em0
  clear em0
  have HE := Lib.hid (rawOf_storedE (t + 1) (by omega) (by omega) (b.length + 1) b (Nat.lt_succ_self _) (b.length : Int) (Int.le_refl _))
  have C1 := Lib.hid (law_stored hsb hb6 (t + 1) (by omega) (by omega))
  have hln : (storedE (t + 1) (b.length + 1) b).length ≤ 20000 := by
    have : ∀ (f : Nat) (c : List UInt8), c.length < f → (storedE (t + 1) f c).length ≤ 6 * c.length + 5 := by
      intro f
      induction f with
      | zero => intro c h; omega
      | succ f ih =>
        intro c h
        rw [storedE]
        split
        · rw [List.length_append, List.length_take]; show 5 + _ ≤ _; omega
        · have := ih (c.drop (min c.length (t + 1))) (by rw [List.length_drop]; omega)
          rw [List.length_drop] at this
          rw [List.length_append, List.length_append, List.length_take]; show 5 + _ + _ ≤ _; omega
    have := this (b.length + 1) b (by omega)
    omega
  generalize storedE (t + 1) (b.length + 1) b = S at *
  go_enter Try.func10, Try.ntmps10
  go_wp2_with fail
  clear hb1 hmin1
  rw [show 1 + (t : Int) = ((t + 1 : Nat) : Int) by omega]
  refine Calls.mono C1.out ?_
  rintro e w1 ⟨v, rfl, hb1⟩
  obtain ⟨a1, c1, rfl, hs1⟩ := hb1.sl
  have g1 := hb1.frame.toBelow (fun k hk => hk)
  have hsb1 := hsb.below g1
  clear C1 hb1 hsb em
  go_wp2_with fail
  refine (raw_sl HE.out hs1 (by omega) (by omega)).mono ?_
  rintro e w2 ⟨a2, c2, rfl, h2, g2⟩
  have hsb2 := hsb1.below g2
  have G2 := g1.trans (g2.mono g1.size)
  clear hs1 hsb1 g1 g2
  go_wp2_with fail
  refine (known03_any _).mono ?_
  rintro e w3 ⟨rfl, g3⟩
  have t1 := (hsb2.below g3).str
  have t2 := (h2.below g3).str
  have G3 := G2.trans (g3.mono G2.size)
  clear hsb2 h2 G2 g3
  go_wp2_with fail
  go_ret
  exact ⟨rfl, G3⟩

end Go.Proofs.Ytaapnjhkflpiiaa
