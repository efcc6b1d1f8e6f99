/-
  The document's Order: the walk.
-/
import Derived.Test.YtkkfolfplpafhaaWalkRef
import Derived.Test.YtkkfolfplpafhaaOrder
namespace Go.Proofs.Ytkkfolfplpafhaa
open Go.RowKit Go.Mix

/-- What the document's Order hands back. -/
def RefOrderEnds (g : List (List Int)) (w0 : World) (e : Ending) (w' : World) : Prop := match orderG g with
  | some l => ∃ v, e = .returned (.tuple #[v, .bool true]) ∧ Row (· < w0.heap.size) 3 w0 w' v (icells l)
  | none => e = .returned (.tuple #[.slice none 0 0, .bool false]) ∧ Below w0.heap.size w0 w'
def optI : Option Nat → Int
  | none => -1
  | some x => (x : Int)

set_option maxRecDepth 100000 in
set_option maxHeartbeats 2000000 in
theorem refOrder_any {w : World} {g : List (List Int)} {es : List (Option Addr × Nat)} {a : Option Addr} {cap : Nat} (hg : GraphAt w a cap g es) (hn1 : g.length ≤ 1000) (hgb : ∀ k, (g.getD k []).length ≤ 1000) :
    Calls Try.prog 10 #[.slice a g.length cap] w (RefOrderEnds g w) := by
  obtain ⟨n, hn⟩ : ∃ n, n = g.length := ⟨_, rfl⟩
  have HNG := Lib.hid hn
  rw [← hn] at hn1
  have HGA := Lib.hid hg
  rw [← hn]
  clear hn hg
  have hF0 : FrameS (· < w.heap.size) w w := FrameS.refl fun _ hk => hk
  go_enter Try.func10, Try.ntmps10
  go_wp2_with fail
  go_loopw [4] (fun s4 wr => ∃ (f : Nat) (out : List Nat), Row (· < w.heap.size) 3 w wr s4 (icells out) ∧ orderF g f out = orderG g ∧ n ≤ f + out.length ∧ out.length ≤ n) (fun s4 _ => n - lenV s4)
  case atStart => exact ⟨n, [], Row.nil hF0, by rw [HNG.out]; rfl, by simp, by simp⟩
  case round =>
    obtain ⟨f, out, hrow, hof, hnf, hol⟩ := hrel
    obtain ⟨ao, co, hvo, hcel, -, -, -⟩ := hrow.slice
    rw [icells_length] at hvo
    subst hvo
    have HOF := Lib.hid hof
    clear hof hF0
    by_cases hlt : out.length < n
    · have t1 : decide ((out.length : Int) < (n : Int)) = true := decide_eq_true (by omega)
      have t1' : decide (out.length < n) = true := decide_eq_true hlt
      cases f with
      | zero => omega
      | succ f =>
      have hst : orderG g = match leastFrom g out 0 n with
          | none => none
          | some i => orderF g f (out ++ [i]) := by
        rw [← HOF.out, orderF, if_neg (by rw [← HNG.out]; omega), ← HNG.out]
        rfl
      have HST := Lib.hid hst
      have hgw := HGA.out.below (hrow.frame.toBelow fun _ hk => hk)
      have hcz : Cells wr ao (zcells (natsZ out)) := by rw [← icells_z]; exact hcel
      clear hst hcel
      go_wp2_with fail
      go_loop [5, 6] (fun s5 s6 => ∃ k : Nat, k ≤ n ∧ s6 = .int .i64 ((k : Int) - 1) ∧ s5 = .int .i64 (optI (leastFrom g out k (n - k)))) (fun _ s6 => (intOf s6 + 1).toNat)
      case atStart => exact ⟨n, Nat.le_refl _, rfl, by rw [Nat.sub_self]; rfl⟩
      case round =>
        obtain ⟨k, hk, rfl, rfl⟩ := hrel
        by_cases hk0 : 0 < k
        · obtain ⟨i, hi⟩ : ∃ i, i = k - 1 := ⟨_, rfl⟩
          have hki : (k : Int) - 1 = (i : Int) := by omega
          have t2 : decide ((0 : Int) ≤ (k : Int) - 1) = true := decide_eq_true (by omega)
          have t2' : decide (1 ≤ k) = true := decide_eq_true hk0
          have t2'' : decide ((1 : Int) ≤ (k : Int)) = true := decide_eq_true (by omega)
          have hlf : leastFrom g out i (n - i) = if readyB g out i = true then some i else leastFrom g out k (n - k) := by
            rw [show n - i = (n - k) + 1 by omega, leastFrom, show i + 1 = k by omega]
          have C1 := has_any (cap := co) hcz (by rw [natsZ_len]; omega) ((k : Int) - 1)
          rw [natsZ_len, hki, hasZ_eq] at C1
          have hin : i < n := by omega
          obtain ⟨IKg, ICg⟩ := hgw.at ((k : Int) - 1) i hki (by rw [← HNG.out]; exact hin)
          rw [← HNG.out, hki] at IKg
          have C2 := all_any (cb := co) (ca := (es.getD i (none, 0)).2) (hgw.ints i (by rw [← HNG.out]; exact hin)) hcz (by have := hgb i; omega) (by rw [natsZ_len]; omega)
          rw [natsZ_len] at C2
          have hall : ((g.getD i []).all fun z => decide (z ∈ natsZ out)) = (g.getD i []).all (hasI out) := by
            congr 1; funext z; exact hasZ_eq out z
          rw [hall] at C2
          have hrd : readyB g out i = (!(hasI out (i : Int)) && (g.getD i []).all (hasI out)) := rfl
          generalize (g.getD i []).all (hasI out) = A at *
          generalize hasI out (i : Int) = B at *
          have HLF := Lib.hid hlf
          have HRD := Lib.hid hrd
          generalize leastFrom g out k (n - k) = nx at *
          rw [hki]
          clear hlf hrd hall hi t2' t2''
          have t2 : decide ((0 : Int) ≤ (i : Int)) = true := decide_eq_true (by omega)
          have hk1 : k = i + 1 := by omega
          clear hki hk0
          cases B with
          | true =>
            have HN := Lib.hid (show leastFrom g out i (n - i) = nx by rw [HLF.out, HRD.out]; rfl)
            clear C2
            go_wp2_with fail
            refine C1.mono ?_
            rintro e w' ⟨rfl, rfl⟩
            go_wp2_with fail
            go_round
            case rel => exact ⟨i, by omega, by first | rfl | go_num, by rw [HN.out]⟩
            case measure => (simp [intOf] <;> omega)
          | false =>
            go_wp2_with fail
            refine C1.mono ?_
            rintro e w' ⟨rfl, rfl⟩
            go_wp2_with fail
            refine C2.mono ?_
            rintro e w' ⟨rfl, rfl⟩
            clear C1 C2
            cases A with
            | true =>
              have HN := Lib.hid (show leastFrom g out i (n - i) = some i by rw [HLF.out, HRD.out]; rfl)
              go_wp2_with fail
              go_round
              case rel => exact ⟨i, by omega, by first | rfl | go_num, by rw [HN.out]; rfl⟩
              case measure => (simp [intOf] <;> omega)
            | false =>
              have HN := Lib.hid (show leastFrom g out i (n - i) = nx by rw [HLF.out, HRD.out]; rfl)
              go_wp2_with fail
              go_round
              case rel => exact ⟨i, by omega, by first | rfl | go_num, by rw [HN.out]⟩
              case measure => (simp [intOf] <;> omega)
        · obtain rfl : k = 0 := by omega
          have t2 : decide ((0 : Int) ≤ ((0 : Nat) : Int) - 1) = false := rfl
          rw [Nat.sub_zero]
          have hfr := hrow.frame.toBelow (fun _ hk => hk)
          have HOL := Lib.hid (icells_length out)
          cases hx : leastFrom g out 0 n with
          | none =>
            have HO := Lib.hid (show orderG g = none by rw [HST.out, hx])
            have u1 : decide (optI none < 0) = true := rfl
            clear hx hgw hcz
            go_wp2_with fail
            go_ret2
            unfold RefOrderEnds
            rw [HO.out]
            exact ⟨rfl, hfr⟩
          | some x =>
            have HO := Lib.hid (show orderG g = orderF g f (out ++ [x]) by rw [HST.out, hx])
            have hox : optI (some x) = (x : Int) := rfl
            rw [hox]
            have u1 : decide ((x : Int) < 0) = false := decide_eq_false (by omega)
            clear hx hgw hcz hox
            go_wp2_with (at_builtin; refine wpList_append_fresh elemInt rfl (.tmp 34) (.tmp 36) rfl _ _ rfl hrow _ [.int .i64 (x : Int)] rfl 1 1 rfl rfl (by simp [Value.oneCell']) (by rw [HOL.out]; simp only [List.length_singleton]; omega) (by rw [HOL.out]; simp only [List.length_singleton]; omega) ?_; intro v5 w5 hb5 hgr5)
            have hicx : icells out ++ [Value.int .i64 (x : Int)] = icells (out ++ [x]) := by simp [icells]
            rw [hicx] at hb5
            go_roundw
            case rel => exact ⟨f, out ++ [x], hb5, HO.out.symm, by rw [List.length_append, List.length_singleton]; omega, by rw [List.length_append, List.length_singleton]; omega⟩
            case measure =>
              obtain ⟨a9, c9, e9, -, -, -, -⟩ := hb5.slice
              rw [icells_length] at e9
              rw [e9]
              show n - (out ++ [x]).length < n - out.length
              rw [List.length_append, List.length_singleton]
              omega
    · have t1 : decide ((out.length : Int) < (n : Int)) = false := decide_eq_false (by omega)
      have t1' : decide (out.length < n) = false := decide_eq_false hlt
      have HO := Lib.hid (show orderG g = some out by
        rw [← HOF.out]
        cases f with
        | zero => rw [orderF, if_pos (by rw [← HNG.out]; omega)]
        | succ f => rw [orderF, if_pos (by rw [← HNG.out]; omega)])
      go_wp2_with fail
      go_ret2
      unfold RefOrderEnds
      rw [HO.out]
      exact ⟨_, rfl, hrow⟩
end Go.Proofs.Ytkkfolfplpafhaa
