/-
  The document's Heads: the walk.
-/
import Derived.Test.YtkkfolfplpafhaaHeads
namespace Go.Proofs.Ytkkfolfplpafhaa
open Go.RowKit Go.Mix

section
variable {w : World} {g : List (List Int)} {es : List (Option Addr × Nat)} {a : Option Addr} {cap : Nat}

set_option maxRecDepth 100000 in
set_option maxHeartbeats 2000000 in
theorem refHeads_any (hg : GraphAt w a cap g es) (hn1 : g.length ≤ 1000) (hk1 : ∀ k, (g.getD k []).length ≤ 1000) :
    Calls Try.prog 18 #[.slice a g.length cap] w fun e w' => ∃ v, e = .returned v ∧ Row (· < w.heap.size) 3 w w' v (icells (headsL g)) := by
  obtain ⟨n, hn⟩ : ∃ n, n = g.length := ⟨_, rfl⟩
  have HNG := Lib.hid hn
  have HGA := Lib.hid hg
  rw [← hn] at hn1 ⊢
  have HHL := Lib.hid (show headsL g = (List.range n).filter fun k => !usedB g n k by unfold headsL; rw [hn])
  clear hn hg
  have hF0 : FrameS (· < w.heap.size) w w := FrameS.refl fun _ hk => hk
  go_enter Try.func18, Try.ntmps18
  go_wp2_with fail
  go_loopw [3, 4] (fun s3 s4 wr => ∃ i : Nat, s4 = .int .i64 (i : Int) ∧ i ≤ n ∧ Row (· < w.heap.size) 3 w wr s3 (icells ((List.range i).filter fun k => !usedB g n k))) (fun _ s4 _ => n - (intOf s4).toNat)
  case atStart => exact ⟨0, rfl, Nat.zero_le _, Row.nil hF0⟩
  case round =>
    obtain ⟨i, rfl, hi, hrow⟩ := hrel
    by_cases hin : i < n
    · have t1 : decide ((i : Int) < (n : Int)) = true := decide_eq_true (by omega)
      have t1' : decide (i < n) = true := decide_eq_true hin
      have hgw := HGA.out.below (hrow.frame.toBelow fun _ hk => hk)
      have HGW := Lib.hid hgw
      have HHAS := Lib.hid (fun (k : Nat) (hk : k < g.length) => has_any (cap := (es.getD k (none, 0)).2) (hgw.ints k hk) (by have := hk1 k; omega) (i : Int))
      have HUS := Lib.hid (fun m => usedB_succ g m i)
      have HU0 := Lib.hid (show usedB g 0 i = false from rfl)
      have HFT := Lib.hid (show (List.range (i + 1)).filter (fun k => !usedB g n k) = if (!usedB g n i) = true then (List.range i).filter (fun k => !usedB g n k) ++ [i] else (List.range i).filter (fun k => !usedB g n k) from filter_take (fun k => !usedB g n k) i)
      have HLN := Lib.hid (show (icells ((List.range i).filter fun k => !usedB g n k)).length ≤ 1000 by
        rw [icells_length]
        have := List.length_filter_le (fun k => !usedB g n k) (List.range i)
        rw [List.length_range] at this
        omega)
      generalize hF1 : (List.range (i + 1)).filter (fun k => !usedB g n k) = F1 at *
      generalize (List.range i).filter (fun k => !usedB g n k) = F0 at *
      clear hgw
      go_wp2_with fail
      go_loop [5, 6] (fun s5 s6 => ∃ k : Nat, s6 = .int .i64 (k : Int) ∧ k ≤ n ∧ s5 = .bool (usedB g k i)) (fun _ s6 => n - (intOf s6).toNat)
      case atStart => exact ⟨0, rfl, Nat.zero_le _, by rw [HU0.out]⟩
      case round =>
        obtain ⟨k, rfl, hk, rfl⟩ := hrel
        by_cases hkn : k < n
        · have u1 : decide ((k : Int) < (n : Int)) = true := decide_eq_true (by omega)
          have u1' : decide (k < n) = true := decide_eq_true hkn
          have hkg : k < g.length := by rw [← HNG.out]; exact hkn
          obtain ⟨GK, GC⟩ := HGW.out.at (k : Int) k rfl hkg
          rw [← HNG.out] at GK
          have C := HHAS.out k hkg
          have HUK := Lib.hid (HUS.out k)
          generalize hU1 : usedB g (k + 1) i = U1 at *
          generalize usedB g k i = U0 at *
          generalize decide ((i : Int) ∈ g.getD k []) = D at *
          generalize (es.getD k (none, 0)).1 = e1 at *
          generalize (es.getD k (none, 0)).2 = e2 at *
          generalize (g.getD k []).length = gl at *
          cases U0 with
          | true =>
            have HUE := Lib.hid (show U1 = true by rw [HUK.out, Bool.true_or])
            clear HUK C
            go_wp2_with fail
            go_round
            case rel => exact ⟨k + 1, by go_num, by omega, by rw [hU1, HUE.out]⟩
            case measure => simp [intOf]; omega
          | false =>
            have HUE := Lib.hid (show U1 = D by rw [HUK.out, Bool.false_or])
            clear HUK
            go_wp2_with fail
            refine C.mono ?_
            rintro e w' ⟨rfl, rfl⟩
            go_wp2_with fail
            go_round
            case rel => exact ⟨k + 1, by go_num, by omega, by rw [hU1, HUE.out]⟩
            case measure => simp [intOf]; omega
        · obtain rfl : k = n := by omega
          have u1 : decide ((k : Int) < (k : Int)) = false := decide_eq_false (by omega)
          have u1' : decide (k < k) = false := decide_eq_false (by omega)
          have HFT2 := Lib.hid HFT.out
          generalize usedB g k i = U at *
          cases U with
          | false =>
            have HF2 := Lib.hid (HFT2.out.trans (if_pos (by rfl)))
            clear HFT HFT2
            go_wp2_with (at_builtin; refine wpList_append_fresh elemInt rfl (.tmp 30) (.tmp 32) rfl _ _ rfl hrow _ [.int .i64 (i : Int)] rfl 1 1 rfl rfl (by simp [Value.oneCell']) (by have := HLN.out; simp only [List.length_singleton]; omega) (by have := HLN.out; simp only [List.length_singleton]; omega) ?_; intro v5 w5 hb5 hgr5)
            have hicx : icells F0 ++ [Value.int .i64 (i : Int)] = icells (F0 ++ [i]) := by simp [icells]
            rw [hicx, ← HF2.out] at hb5
            go_roundw
            case rel => exact ⟨i + 1, by go_num, by omega, by rw [hF1]; exact hb5⟩
            case measure => simp [intOf]; omega
          | true =>
            have HF2 := Lib.hid (HFT2.out.trans (if_neg (by simp)))
            clear HFT HFT2
            go_wp2_with fail
            go_roundw
            case rel => exact ⟨i + 1, by go_num, by omega, by rw [hF1, HF2.out]; exact hrow⟩
            case measure => simp [intOf]; omega
    · obtain rfl : i = n := by omega
      have t1 : decide ((i : Int) < (i : Int)) = false := decide_eq_false (by omega)
      have t1' : decide (i < i) = false := decide_eq_false (by omega)
      rw [← HHL.out] at hrow
      go_wp2_with fail
      go_ret
      exact ⟨_, rfl, hrow⟩
end
end Go.Proofs.Ytkkfolfplpafhaa
