/-
  The document's Parse: the walk.
-/
import Derived.Test.YtbllpjphlanchaaRefStep
import Derived.Test.YtbllpjphlanchaaRefRight
import Derived.Test.YtbllpjphlanchaaBuildE
import Derived.Deep.CutBlock
namespace Go.Proofs.Ytbllpjphlanchaa
open Go.RowKit Go.Mix Go.WideMaps

set_option maxRecDepth 100000 in
set_option maxHeartbeats 4000000 in
theorem refParse_any {w : World} {b : List UInt8} {a : Option Addr} {cap : Nat} (hs : Bs w a b) (hb : b.length ≤ 10000) (hcap : b.length ≤ cap) (hn : a = none → cap = 0) :
    Calls Try.prog 20 #[.slice a b.length cap] w fun e w' =>
      (∃ l, readE b.length b = some l ∧ RightE l ∧ ∃ v, e = .returned (.tuple #[v, .int .i64 0]) ∧ OwnR encE 22 43 w w' v l) ∨
      ((readE b.length b = none ∨ ∃ l, readE b.length b = some l ∧ ¬ RightE l) ∧ e = .returned (.tuple #[.slice none 0 0, .int .i64 4]) ∧ Below w.heap.size w w') := by
  obtain ⟨Z, hZ⟩ : ∃ Z, Z = recA encE ent0 := ⟨_, rfl⟩
  have z : ∀ w, (zeroValue 43).run Try.prog w = .ok (.agg Z) w := fun w => by rw [hZ]; kernel_rfl
  have HZ := Lib.hid hZ
  have HBS := Lib.hid (And.intro hs (And.intro hcap hn))
  have HF0 := Lib.hid (Below.refl w.heap.size w)
  clear hZ hs hcap hn
  obtain ⟨N, hN⟩ : ∃ N, N = b.length := ⟨_, rfl⟩
  have HN := Lib.hid hN
  rw [← hN] at hb ⊢
  clear hN
  go_enter Try.func20, Try.ntmps20
  go_wp2_with fail
  go_loopw [4, 5, 6, 7, 9, 10, 11] (fun s4 s5 _ _ _ _ _ wr => ∃ (at_ : Nat) (pre : List Ent), s5 = .int .i64 (at_ : Int) ∧ at_ ≤ N ∧ pre.length ≤ at_ ∧ readE b.length b = (readE (b.drop at_).length (b.drop at_)).map (pre ++ ·) ∧ (∀ p ∈ pre, p.name.length ≤ N) ∧ OwnR encE 22 43 w wr s4 pre) (fun _ s5 _ _ _ _ _ _ => N - (intOf s5).toNat)
  case atStart => exact ⟨0, [], rfl, Nat.zero_le _, Nat.le_refl _, by simp, fun _ h => (by simp at h), OwnR.nil HF0.out⟩
  case round =>
    obtain ⟨at_, pre, rfl, hat, hpl, hread, hnm, hrow⟩ := hrel
    obtain ⟨wo, rfl⟩ : ∃ wo : World, wo = wr := ⟨_, rfl⟩
    have HR := Lib.hid (And.intro hpl (And.intro hread (And.intro hnm hrow)))
    clear hpl hread hnm hrow
    by_cases hlt : at_ < N
    · have t1 : (at_ : Int) < (N : Int) := by omega
      obtain ⟨r, hr⟩ : ∃ r, r = b.drop at_ := ⟨_, rfl⟩
      have hrl : r.length = N - at_ := by rw [hr, List.length_drop, HN.out]
      have hri : ∀ i : Nat, r[i]? = b[at_ + i]? := fun i => by rw [hr, List.getElem?_drop]
      have HRR := Lib.hid (And.intro hr (And.intro hrl hri))
      clear hr hrl hri
      have IXA : Hid (∀ p : Nat, p < N → ∀ W : World, (Instr.indexAt 26 (.slice a N cap) (.int .i64 (p : Int))).run Try.prog W = .ok (.pointer (some (elt a p))) W) := Lib.hid fun p hp W => run_index_any HBS.out.1.cells 26 Try.underlying26 (fun w => by kernel_rfl) cap hp (by rw [bcells_length, HN.out]; exact Nat.le_refl _) .i64 W
      have HCL : Hid (∀ (p : Nat) (hp : p < b.length) (W : World), Below w.heap.size w W → W.cell? (elt a p) = some (.int .u8 (b[p].toNat : Int))) := Lib.hid fun p hp W hW => (HBS.out.1.below hW).cell hp
      obtain ⟨E, hE⟩ : ∃ E, E = wo.heap.size := ⟨_, rfl⟩
      have hbx : (wo.alloc (.cells Z 43)).heap[E]? = some (.cells (encE ent0).toArray 43 (0, 0)) := by rw [hE, HZ.out]; exact heap_alloc_last _ _ _ rfl
      have hbw : Below wo.heap.size wo (wo.alloc (.cells Z 43)) := (Below.refl _ _).alloc (Nat.le_refl _) _
      have HW1 := Lib.hid (And.intro hbx hbw)
      have HEE := Lib.hid hE
      have HWR : Hid (∀ W, Below wo.heap.size wo W → Below w.heap.size w W) := Lib.hid fun W h => HR.out.2.2.2.frame.trans (h.mono HR.out.2.2.2.frame.size)
      go_upto_block 2 with (fail)
      rw [← hE]
      clear hbx hbw hE
      generalize wo.alloc (.cells Z 43) = w1 at *
      -- the word
      go_cut [5, 7] from 16 to 41 (fun s5 s7 W => ∃ p : Nat, s5 = .int .i64 (p : Int) ∧ s7 = .string (strOf (r.take (p - at_))) ∧ at_ ≤ p ∧ p ≤ N ∧ WordAt r (p - at_) ∧ W.heap[E]? = some (.cells (encE ent0).toArray 43 (0, 0)) ∧ Below wo.heap.size wo W)
      case first =>
        go_wp2_with fail
        go_loopw [5, 7] (fun s5 s7 W => ∃ p : Nat, s5 = .int .i64 (p : Int) ∧ s7 = .string (strOf (r.take (p - at_))) ∧ at_ ≤ p ∧ p ≤ N ∧ p ≤ at_ + 7 ∧ (∀ k : Nat, k < p - at_ → r[k]? ≠ some 32) ∧ W.heap[E]? = some (.cells (encE ent0).toArray 43 (0, 0)) ∧ Below wo.heap.size wo W) (fun s5 _ _ => N - (intOf s5).toNat)
        case atStart => exact ⟨at_, rfl, by rw [Nat.sub_self]; rfl, Nat.le_refl _, by omega, by omega, fun k hk => by omega, HW1.out.1, HW1.out.2⟩
        case round =>
          obtain ⟨p, rfl, rfl, hp1, hp2, hp3, hpw, hpb, hpg⟩ := hrel
          have HP := Lib.hid (And.intro hpw (And.intro hpb hpg))
          clear hpw hpb hpg
          have hwl : (strOf (r.take (p - at_))).size = p - at_ := by rw [strOf_size, List.length_take, HRR.out.2.1]; omega
          have HMEET : Hid ((p = N ∨ r[p - at_]? = some 32 ∨ p = at_ + 7) → ∃ p' : Nat, Value.int .i64 (p : Int) = .int .i64 (p' : Int) ∧ Value.string (strOf (r.take (p - at_))) = .string (strOf (r.take (p' - at_))) ∧ at_ ≤ p' ∧ p' ≤ N ∧ WordAt r (p' - at_) ∧ wr.heap[E]? = some (.cells (encE ent0).toArray 43 (0, 0)) ∧ Below wo.heap.size wo wr) := Lib.hid fun h => by
            refine ⟨p, rfl, rfl, hp1, hp2, ⟨by rw [HRR.out.2.1]; omega, by omega, HP.out.1, ?_⟩, HP.out.2.1, HP.out.2.2⟩
            rw [HRR.out.2.1]
            rcases h with h | h | h
            · exact .inl (by omega)
            · exact .inr (.inl h)
            · exact .inr (.inr (by omega))
          by_cases hpn : p < N
          · have t2 : (p : Int) < (N : Int) := by omega
            have IX := IXA.out p hpn
            have CL := HCL.out p (by rw [← HN.out]; exact hpn) wr (HWR.out wr HP.out.2.2)
            have hrp : r[p - at_]? = some (b[p]'(by rw [← HN.out]; exact hpn)) := by
              rw [HRR.out.2.2, show at_ + (p - at_) = p by omega, List.getElem?_eq_getElem]
            obtain ⟨c, hc⟩ : ∃ c, c = b[p]'(by rw [← HN.out]; exact hpn) := ⟨_, rfl⟩
            rw [← hc] at CL hrp
            by_cases h32 : c = 32
            · have t3 : ((c.toNat : Int) != 32) = false := by rw [h32]; rfl
              have HM := Lib.hid (HMEET.out (.inr (.inl (by rw [hrp, h32]))))
              clear h32 hrp hc
              generalize strOf (r.take (p - at_)) = SW at *
              go_wp2_with fail
              go_meet
              case rel => exact HM.out
            · have t3 : ((c.toNat : Int) != 32) = true := by
                simp only [bne_iff_ne, ne_eq]
                intro h; exact h32 (UInt8.toNat_inj.1 (by show c.toNat = 32; omega))
              by_cases h7 : p = at_ + 7
              · have HM := Lib.hid (HMEET.out (.inr (.inr h7)))
                have t4 : ¬ ((p - at_ : Nat) : Int) < 7 := by omega
                have t5 : ¬ (p - at_) < 7 := by omega
                clear h32 hrp hc h7
                generalize strOf (r.take (p - at_)) = SW at *
                generalize p - at_ = pl at *
                go_wp2_with fail
                go_meet
                case rel => exact HM.out
              · have t4 : ((p - at_ : Nat) : Int) < 7 := by omega
                have t5 : (p - at_) < 7 := by omega
                have CV : (convert 26 9 (.slice (some ⟨wr.heap.size, 0, none⟩) 1 1)).run Try.prog (wr.alloc (.cells #[.int .u8 (c.toNat : Int)] 5)) = .ok (.string (strOf [c])) (wr.alloc (.cells #[.int .u8 (c.toNat : Int)] 5)) :=
                  run_string_of_bytes (l := [c]) (.block (heap_alloc_last _ _ _ rfl) rfl) _ 5 _ Try.underlying26 Try.underlying5 Try.underlying9 1
                have hsucc : r.take (p + 1 - at_) = r.take (p - at_) ++ [c] := by
                  rw [show p + 1 - at_ = (p - at_) + 1 by omega, List.take_add_one, hrp]; rfl
                have AD : ∀ W, (Op.stringOp .add (strOf (r.take (p - at_))) (strOf [c])).run Try.prog W = .ok (.string (strOf (r.take (p + 1 - at_)))) W := fun W => by
                  rw [hsucc]; exact Go.run_string_add_lists (P := Try.prog) W _ [c] (by rw [List.length_take]; omega) (by simp)
                have HN32 : Hid (∀ k : Nat, k < p + 1 - at_ → r[k]? ≠ some 32) := Lib.hid fun k hk => by
                  rcases Nat.lt_or_ge k (p - at_) with h | h
                  · exact HP.out.1 k h
                  · obtain rfl : k = p - at_ := by omega
                    rw [hrp]; intro h; exact h32 (by injection h)
                have HG := Lib.hid ((HP.out.2.2).trans (((Below.refl _ wr).alloc (Nat.le_refl _) (.cells #[.int .u8 (c.toNat : Int)] 5)).mono HP.out.2.2.size))
                have HBX := Lib.hid (blockR_below HP.out.2.1 ((Below.refl _ wr).alloc (Nat.le_refl _) (.cells #[.int .u8 (c.toNat : Int)] 5)))
                clear h32 hrp hc h7 hsucc HMEET
                generalize hS1 : strOf (r.take (p + 1 - at_)) = S1 at *
                have HS1 := Lib.hid hS1
                clear hS1
                generalize strOf (r.take (p - at_)) = SW at *
                generalize strOf [c] = SC at *
                generalize hpl : p - at_ = pl at *
                have HPL := Lib.hid hpl
                clear hpl
                go_wp2_with fail
                go_roundw
                case rel => exact ⟨p + 1, by go_num, by rw [HS1.out], by omega, by omega, by have := HPL.out; omega, HN32.out, HBX.out, HG.out⟩
                case measure => simp [intOf]; omega
          · have t2 : ¬ (p : Int) < (N : Int) := by omega
            have HM := Lib.hid (HMEET.out (.inl (by omega)))
            generalize strOf (r.take (p - at_)) = SW at *
            go_wp2_with fail
            go_meet
            case rel => exact HM.out
      case rest =>
        obtain ⟨p, rfl, rfl, hp1, hp2, hwa, hbx, hbg⟩ := hcut
        have HC := Lib.hid (And.intro hwa (And.intro hbx hbg))
        clear hwa hbx hbg
        obtain ⟨WD, hWD⟩ : ∃ WD, WD = r.take (p - at_) := ⟨_, rfl⟩
        rw [← hWD]
        have HWD := Lib.hid hWD
        clear hWD
        obtain ⟨MB, hMB⟩ : ∃ MB, MB = wc.heap.size := ⟨_, rfl⟩
        have hm0 : (wc.alloc (.cells #[.int .i64 16384, .int .i64 33188, .int .i64 33261, .int .i64 40960, .int .i64 57344] 3)).heap[MB]? = some (.cells modesC 3 (0, 0)) := by rw [hMB]; exact heap_alloc_last _ _ _ rfl
        have gm := (Below.refl _ wc).alloc (Nat.le_refl _) (.cells #[.int .i64 16384, .int .i64 33188, .int .i64 33261, .int .i64 40960, .int .i64 57344] 3)
        have HM0 := Lib.hid (And.intro hm0 (And.intro (blockR_below HC.out.2.1 gm) (HC.out.2.2.trans (gm.mono HC.out.2.2.size))))
        have hEM : E ≠ MB := by rw [hMB]; have := lt_of_block HC.out.2.1; omega
        have hEo : wo.heap.size ≤ E := by rw [HEE.out]; exact Nat.le_refl _
        have HEM := Lib.hid (And.intro hEM hEo)
        clear hm0 gm hEM hEo
        go_wp2_with fail
        rw [← hMB]
        clear hMB
        generalize wc.alloc (.cells #[.int .i64 16384, .int .i64 33188, .int .i64 33261, .int .i64 40960, .int .i64 57344] 3) = w3 at *
        go_loopw [9, 44] (fun _ s44 W => ∃ (k : Nat) (M : Int), s44 = .int .i64 (k : Int) ∧ k ≤ 5 ∧ ((M = 0 ∧ ∀ j (hj : j < modesL.length), j < k → digs modesL[j] ≠ WD) ∨ (∃ j, ∃ hj : j < modesL.length, j < k ∧ digs modesL[j] = WD ∧ M = modesL[j])) ∧ W.heap[E]? = some (.cells (encE ⟨M, [], id0⟩).toArray 43 (0, 0)) ∧ W.heap[MB]? = some (.cells modesC 3 (0, 0)) ∧ Below wo.heap.size wo W) (fun _ s44 _ => 5 - (intOf s44).toNat)
        case atStart => exact ⟨0, 0, rfl, by omega, .inl ⟨rfl, fun _ _ h => absurd h (Nat.not_lt_zero _)⟩, HM0.out.2.1, HM0.out.1, HM0.out.2.2⟩
        case round =>
          obtain ⟨k, M, rfl, hk, hM, hbE, hbM, hbl⟩ := hrel
          have HL := Lib.hid (And.intro hM (And.intro hbE (And.intro hbM hbl)))
          clear hM hbE hbM hbl
          by_cases hk5 : k < 5
          · have t2 : (k : Int) < 5 := by omega
            have hkl : k < modesL.length := hk5
            have c0 : wr.cell? ⟨MB, k, none⟩ = some (.int .i64 modesL[k]) := by
              rw [cell_of_row _ _ _ _ _ _ HL.out.2.2.1]
              match k, hk5 with
              | 0, _ => rfl
              | 1, _ => rfl
              | 2, _ => rfl
              | 3, _ => rfl
              | 4, _ => rfl
            have CD := fun W => refDigits_any modesL[k] W
            have hE : ((strOf (digs modesL[k])).toList == (strOf WD).toList) = decide (digs modesL[k] = WD) := by
              rw [strOf_list, strOf_list, Bool.eq_iff_iff, beq_iff_eq, decide_eq_true_eq]
            obtain ⟨d, hd⟩ : ∃ d, d = decide (digs modesL[k] = WD) := ⟨_, rfl⟩
            rw [← hd] at hE
            have HD := Lib.hid hd
            obtain ⟨m, hm⟩ : ∃ m, m = modesL[k] := ⟨_, rfl⟩
            have HMM := Lib.hid hm
            rw [← hm] at c0 CD hE
            generalize strOf (digs m) = SM at *
            generalize strOf WD = SW at *
            clear hd hm
            go_wp2_with fail
            refine (CD _).mono ?_
            rintro e w4 ⟨rfl, hw4⟩
            have HW4 := Lib.hid (And.intro (blockR_below HL.out.2.1 hw4) (And.intro (blockR_below HL.out.2.2.1 hw4) (HL.out.2.2.2.trans (hw4.mono HL.out.2.2.2.size))))
            clear CD c0 hw4
            cases d
            · go_wp2_with fail
              go_roundw
              case rel =>
                refine ⟨k + 1, M, by go_num, by omega, ?_, HW4.out.1, HW4.out.2.1, HW4.out.2.2⟩
                rcases HL.out.1 with ⟨h1, h2⟩ | ⟨j, hj, h1, h2, h3⟩
                · refine .inl ⟨h1, fun j hj hjk => ?_⟩
                  rcases Nat.lt_or_ge j k with h | h
                  · exact h2 j hj h
                  · obtain rfl : j = k := by omega
                    exact of_decide_eq_false HD.out.symm
                · exact .inr ⟨j, hj, by omega, h2, h3⟩
              case measure => simp [intOf]; omega
            · have hset : (w4.setRow E ((encE ⟨M, [], id0⟩).take 0 ++ [Value.int .i64 m] ++ (encE ⟨M, [], id0⟩).drop (0 + 1)).toArray) = w4.setRow E (encE ⟨m, [], id0⟩).toArray := rfl
              have HX4 := Lib.hid (And.intro (setRow_heap w4 E _ (encE ⟨m, [], id0⟩).toArray 43 (0, 0) HW4.out.1) (And.intro ((setRow_other w4 E MB (encE ⟨m, [], id0⟩).toArray (Ne.symm HEM.out.1)).trans HW4.out.2.1) (below_setRow HW4.out.2.2 HEM.out.2 (encE ⟨m, [], id0⟩).toArray)))
              go_wp2_with (first | (refine wpList_store_cell rfl 3 _ _ rfl rfl E 0 (.int .i64 m) rfl rfl rfl 43 (encE ⟨M, [], id0⟩) HW4.out.1 (by rw [encE_len]; omega) (by kernel_rfl) ?_; rw [hset]; clear hset))
              go_roundw
              case rel =>
                refine ⟨k + 1, m, by go_num, by omega, .inr ⟨k, hkl, by omega, of_decide_eq_true HD.out.symm, HMM.out⟩, HX4.out.1, HX4.out.2.1, HX4.out.2.2⟩
              case measure => simp [intOf]; omega
          · obtain rfl : k = 5 := by omega
            have hmode : M = modeOf WD := by
              rcases HL.out.1 with ⟨h1, h2⟩ | ⟨j, hj, h1, h2, h3⟩
              · rw [h1, modeOf_no fun j hj => h2 j hj hj]
              · rw [h3, modeOf_at hj h2]
            have HMO := Lib.hid hmode
            clear hmode
            have c0 : wr.cell? ⟨E, 0, none⟩ = some (.int .i64 M) := by rw [cell_of_row _ _ _ _ _ _ HL.out.2.1]; rfl
            have hr0 : r ≠ [] := fun h => by have := HRR.out.2.1; rw [h] at this; simp at this; omega
            have HFAIL : Hid (∀ W, Below wo.heap.size wo W → stepE r = none → readE N b = none ∧ Below w.heap.size w W) := Lib.hid fun W hW hst => by
              refine ⟨?_, HWR.out W hW⟩
              have h1 := HR.out.2.1
              rw [← HRR.out.1, readE_none hr0 hst] at h1
              rw [HN.out, h1]; rfl
            have HBE := Lib.hid (And.intro HL.out.2.1 HL.out.2.2.2)
            clear hr0
            obtain ⟨w5, hw5⟩ : ∃ w5 : World, w5 = wr := ⟨_, rfl⟩
            rw [← hw5] at HBE c0 ⊢
            clear hw5
            by_cases hm0 : M = 0
            · have m0 : (M == 0) = true := by rw [beq_iff_eq]; exact hm0
              have HST := Lib.hid (ref_none1 HC.out.1 (.inl (by rw [← HWD.out, ← HMO.out]; exact hm0)))
              clear hm0
              go_wp2_with fail
              go_ret2
              exact .inr ⟨.inl (HFAIL.out _ (HBE.out.2) (HST.out)).1, rfl, (HFAIL.out _ (HBE.out.2) (HST.out)).2⟩
            have m0 : (M == 0) = false := by rw [beq_eq_false_iff_ne]; exact hm0
            have HMN := Lib.hid (show modeOf (r.take (p - at_)) ≠ 0 by rw [← HWD.out, ← HMO.out]; exact hm0)
            clear hm0
            by_cases hpN : p < N
            case neg =>
              have t3 : (N : Int) ≤ (p : Int) := by omega
              have t3' : N ≤ p := by omega
              have HST := Lib.hid (ref_none1 HC.out.1 (.inr (by rw [HRR.out.2.2, List.getElem?_eq_none (by rw [← HN.out]; omega)]; simp)))
              go_wp2_with fail
              go_ret2
              exact .inr ⟨.inl (HFAIL.out _ (HBE.out.2) (HST.out)).1, rfl, (HFAIL.out _ (HBE.out.2) (HST.out)).2⟩
            have t3 : ¬ (N : Int) ≤ (p : Int) := by omega
            have IX := IXA.out p hpN
            have CL := HCL.out p (by rw [← HN.out]; exact hpN) w5 (HWR.out w5 HBE.out.2)
            have hrp : r[p - at_]? = some (b[p]'(by rw [← HN.out]; exact hpN)) := by
              rw [HRR.out.2.2, show at_ + (p - at_) = p by omega, List.getElem?_eq_getElem]
            obtain ⟨c, hc⟩ : ∃ c, c = b[p]'(by rw [← HN.out]; exact hpN) := ⟨_, rfl⟩
            rw [← hc] at CL hrp
            clear hc
            by_cases h32 : c = 32
            case neg =>
              have t4 : ((c.toNat : Int) != 32) = true := by
                simp only [bne_iff_ne, ne_eq]
                intro h; exact h32 (UInt8.toNat_inj.1 (by show c.toNat = 32; omega))
              have HST := Lib.hid (ref_none1 HC.out.1 (.inr (by rw [hrp]; intro h; exact h32 (by injection h))))
              clear h32 hrp
              go_wp2_with fail
              go_ret2
              exact .inr ⟨.inl (HFAIL.out _ (HBE.out.2) (HST.out)).1, rfl, (HFAIL.out _ (HBE.out.2) (HST.out)).2⟩
            have t4 : ((c.toNat : Int) != 32) = false := by rw [h32]; rfl
            have H32 := Lib.hid (show r[p - at_]? = some 32 by rw [hrp, h32])
            clear h32 hrp
            go_upto_block 6 with (fail)
            clear IX CL c0 m0 t3 t4
            -- the name
            go_cut [5] from 74 to 86 (fun s5 W => ∃ q : Nat, s5 = .int .i64 (q : Int) ∧ p < q ∧ q ≤ N ∧ NameAt r (p - at_) (q - at_) ∧ W = w5)
            case first =>
              go_wp2_with fail
              go_loopw [5] (fun s5 W => ∃ q : Nat, s5 = .int .i64 (q : Int) ∧ p < q ∧ q ≤ N ∧ (∀ k : Nat, p < k → k < q → b[k]? ≠ some 0) ∧ W = w5) (fun s5 _ => N - (intOf s5).toNat)
              case atStart => exact ⟨p + 1, by go_num, by omega, by omega, fun k h1 h2 => by omega, rfl⟩
              case round =>
                obtain ⟨q, rfl, hq1, hq2, hqn, rfl⟩ := hrel
                have HQ := Lib.hid hqn
                have HMEET : Hid ((q = N ∨ b[q]? = some 0) → NameAt r (p - at_) (q - at_)) := Lib.hid fun h => by
                  refine ⟨by omega, by rw [HRR.out.2.1]; omega, fun k h1 h2 => ?_, ?_⟩
                  · rw [HRR.out.2.2]; exact HQ.out _ (by omega) (by omega)
                  · rw [HRR.out.2.1, HRR.out.2.2, show at_ + (q - at_) = q by omega]
                    rcases h with h | h
                    · exact .inl (by omega)
                    · exact .inr h
                clear hqn
                by_cases hqN : q < N
                · have t5 : (q : Int) < (N : Int) := by omega
                  have IX := IXA.out q hqN
                  have CL := HCL.out q (by rw [← HN.out]; exact hqN) wr (HWR.out wr HBE.out.2)
                  have hbq : b[q]? = some (b[q]'(by rw [← HN.out]; exact hqN)) := List.getElem?_eq_getElem _
                  obtain ⟨c2, hc2⟩ : ∃ c2, c2 = b[q]'(by rw [← HN.out]; exact hqN) := ⟨_, rfl⟩
                  rw [← hc2] at CL hbq
                  clear hc2
                  by_cases hz : c2 = 0
                  · have t6 : ((c2.toNat : Int) != 0) = false := by rw [hz]; rfl
                    have HM := Lib.hid (HMEET.out (.inr (by rw [hbq, hz])))
                    clear hz hbq HMEET
                    go_wp2_with fail
                    go_meet
                    case rel => exact ⟨q, rfl, hq1, hq2, HM.out, rfl⟩
                  · have t6 : ((c2.toNat : Int) != 0) = true := by
                      simp only [bne_iff_ne, ne_eq]
                      intro h; exact hz (UInt8.toNat_inj.1 (by show c2.toNat = 0; omega))
                    have HNZ : Hid (∀ k : Nat, p < k → k < q + 1 → b[k]? ≠ some 0) := Lib.hid fun k h1 h2 => by
                      rcases Nat.lt_or_ge k q with h | h
                      · exact HQ.out k h1 h
                      · obtain rfl : k = q := by omega
                        rw [hbq]; intro h; exact hz (by injection h)
                    clear hz hbq HMEET
                    go_wp2_with fail
                    go_roundw
                    case rel => exact ⟨q + 1, by go_num, by omega, by omega, HNZ.out, by first | rfl | trivial⟩
                    case measure => simp [intOf]; omega
                · have t5 : ¬ (q : Int) < (N : Int) := by omega
                  have HM := Lib.hid (HMEET.out (.inl (by omega)))
                  clear HMEET
                  go_wp2_with fail
                  go_meet
                  case rel => exact ⟨q, rfl, hq1, hq2, HM.out, rfl⟩
            case rest =>
              obtain ⟨q, rfl, hq1, hq2, hna, rfl⟩ := hcut
              have HNA := Lib.hid hna
              clear hna
              by_cases hqN : q < N
              case neg =>
                have t5 : (N : Int) ≤ (q : Int) := by omega
                have t5' : N ≤ q := by omega
                have HST := Lib.hid (ref_none2 HC.out.1 HMN.out H32.out HNA.out (.inl (by rw [HRR.out.2.1]; omega)))
                go_wp2_with fail
                go_ret2
                exact .inr ⟨.inl (HFAIL.out _ (HBE.out.2) (HST.out)).1, rfl, (HFAIL.out _ (HBE.out.2) (HST.out)).2⟩
              have t5 : ¬ (N : Int) ≤ (q : Int) := by omega
              by_cases h21 : N - q < 21
              · have t6 : (N : Int) - (q : Int) < 21 := by omega
                have HST := Lib.hid (ref_none2 HC.out.1 HMN.out H32.out HNA.out (.inr (by rw [HRR.out.2.1]; omega)))
                go_wp2_with fail
                go_ret2
                exact .inr ⟨.inl (HFAIL.out _ (HBE.out.2) (HST.out)).1, rfl, (HFAIL.out _ (HBE.out.2) (HST.out)).2⟩
              have t6 : ¬ (N : Int) - (q : Int) < 21 := by omega
              obtain ⟨x, hx, hst⟩ := ref_some HC.out.1 HMN.out H32.out HNA.out (by rw [HRR.out.2.1]; omega)
              have hq20 : q + 21 ≤ N := by omega
              obtain ⟨a2, nm, cap2, hnm, hnl, hbn, hcn, -, -, CUT⟩ := cut_mid_i (P := Try.prog) HBS.out.1 26 Try.underlying26 (fun w => by kernel_rfl) cap ((p : Int) + 1) (q : Int) (p + 1) q (by omega) rfl HBS.out.2.1 HBS.out.2.2 (by omega) (by rw [← HN.out]; omega)
              rw [← HN.out] at CUT
              have CVN : (convert 26 9 (.slice a2 nm.length cap2)).run Try.prog wc = .ok (.string (strOf nm)) wc := run_string_of_bytes (hbn.below (HWR.out wc HBE.out.2)) _ 5 _ Try.underlying26 Try.underlying5 Try.underlying9 cap2
              have hnr : nm = (r.take (q - at_)).drop (p - at_ + 1) := by
                rw [hnm, HRR.out.1]
                apply List.ext_getElem?
                intro i
                rw [List.getElem?_take, List.getElem?_drop, List.getElem?_drop, List.getElem?_take, List.getElem?_drop]
                by_cases h : i < q - (p + 1)
                · rw [if_pos h, if_pos (by omega)]; congr 1; omega
                · rw [if_neg h, if_neg (by omega)]
              have hxb : x.1 = (b.drop (q + 1)).take 20 := by
                rw [hx, HRR.out.1, List.drop_drop]
                congr 2; omega
              have hrest : (r.drop (q - at_ + 1 + 20)) = b.drop (q + 21) := by
                rw [HRR.out.1, List.drop_drop]
                congr 1; omega
              rw [← hnr, hrest, ← HWD.out, ← HMO.out] at hst
              have HX := Lib.hid (And.intro hxb (And.intro hst (show nm.length ≤ N by omega)))
              clear hx hst hnm hnl hbn hcn hnr hxb hrest
              have hset1 : (wc.setRow E ((encE ⟨M, [], id0⟩).take 1 ++ [Value.string (strOf nm)] ++ (encE ⟨M, [], id0⟩).drop (1 + 1)).toArray) = wc.setRow E (encE ⟨M, nm, id0⟩).toArray := rfl
              have HX4 := Lib.hid (And.intro (setRow_heap wc E _ (encE ⟨M, nm, id0⟩).toArray 43 (0, 0) HBE.out.1) (below_setRow HBE.out.2 HEM.out.2 (encE ⟨M, nm, id0⟩).toArray))
              go_wp2_with (first | (refine wpList_store_cell rfl 9 _ _ rfl rfl E 1 (.string (strOf nm)) rfl rfl rfl 43 (encE ⟨M, [], id0⟩) HBE.out.1 (by rw [encE_len]; omega) (by kernel_rfl) ?_; rw [hset1]; clear hset1 CVN CUT))
              generalize wc.setRow E (encE ⟨M, nm, id0⟩).toArray = w6 at *
              -- the sum
              go_loopw [11] (fun s11 W => ∃ k : Nat, s11 = .int .i64 (k : Int) ∧ k ≤ 20 ∧ W.heap[E]? = some (.cells ([Value.int .i64 M, Value.string (strOf nm)] ++ bcells (x.1.take k ++ (List.replicate 20 0).drop k)).toArray 43 (0, 0)) ∧ Below wo.heap.size wo W) (fun s11 _ => 20 - (intOf s11).toNat)
              case atStart => exact ⟨0, rfl, by omega, HX4.out.1, HX4.out.2⟩
              case round =>
                obtain ⟨k, rfl, hk, hbk, hgk⟩ := hrel
                have HK := Lib.hid (And.intro hbk hgk)
                clear hbk hgk
                by_cases hk20 : k < 20
                · have t7 : (k : Int) < 20 := by omega
                  have IX : ∀ W : World, (Instr.indexAt 26 (.slice a N cap) (.int .i64 ((q : Int) + 1 + (k : Int)))).run Try.prog W = .ok (.pointer (some (elt a (q + 1 + k)))) W := fun W => by
                    have := IXA.out (q + 1 + k) (by omega) W
                    push_cast at this
                    exact this
                  have CL := HCL.out (q + 1 + k) (by rw [← HN.out]; omega) wr (HWR.out wr HK.out.2)
                  obtain ⟨c, hc⟩ : ∃ c, c = b[q + 1 + k]'(by rw [← HN.out]; omega) := ⟨_, rfl⟩
                  rw [← hc] at CL
                  have hxl := x.2
                  have hxk : x.1[k]'(by rw [hxl]; exact hk20) = c := by
                    have h1 : x.1[k]? = some c := by
                      rw [HX.out.1, List.getElem?_take, if_pos hk20, List.getElem?_drop, show q + 1 + k = q + 1 + k from rfl, hc, List.getElem?_eq_getElem]
                    rw [List.getElem?_eq_getElem (by rw [hxl]; exact hk20)] at h1
                    injection h1
                  have hcells : ([Value.int .i64 M, Value.string (strOf nm)] ++ bcells (x.1.take k ++ (List.replicate 20 0).drop k)).take (2 + k) ++ [Value.int .u8 (c.toNat : Int)] ++ ([Value.int .i64 M, Value.string (strOf nm)] ++ bcells (x.1.take k ++ (List.replicate 20 0).drop k)).drop (2 + k + 1) = [Value.int .i64 M, Value.string (strOf nm)] ++ bcells (x.1.take (k + 1) ++ (List.replicate 20 0).drop (k + 1)) := by
                    have e1 : (bcells (x.1.take k)).length = k := by rw [bcells_length, List.length_take, hxl]; omega
                    have e2 : ([Value.int .i64 M, Value.string (strOf nm)] ++ bcells (x.1.take k)).length = 2 + k := by rw [List.length_append, e1]; rfl
                    rw [bcells_append, ← List.append_assoc, List.take_append_of_le_length (by omega), List.take_of_length_le (by omega), List.drop_append, List.drop_of_length_le (by omega), List.nil_append, e2, show 2 + k + 1 - (2 + k) = 1 by omega,
                      List.take_succ_eq_append_getElem (by rw [hxl]; exact hk20), hxk, bcells_append, bcells_append]
                    have e3 : (bcells ((List.replicate 20 (0 : UInt8)).drop k)).drop 1 = bcells ((List.replicate 20 0).drop (k + 1)) := by
                      unfold bcells
                      rw [← List.map_drop, List.drop_drop]
                    rw [e3]
                    simp [bcells, List.append_assoc]
                  have hlen : ([Value.int .i64 M, Value.string (strOf nm)] ++ bcells (x.1.take k ++ (List.replicate 20 0).drop k)).length = 22 := by
                    simp [bcells_length, hxl]; omega
                  have HX7 := Lib.hid (And.intro (setRow_heap wr E _ ([Value.int .i64 M, Value.string (strOf nm)] ++ bcells (x.1.take (k + 1) ++ (List.replicate 20 0).drop (k + 1))).toArray 43 (0, 0) HK.out.1) (below_setRow HK.out.2 HEM.out.2 ([Value.int .i64 M, Value.string (strOf nm)] ++ bcells (x.1.take (k + 1) ++ (List.replicate 20 0).drop (k + 1))).toArray))
                  have HCE := Lib.hid hcells
                  have HLE := Lib.hid hlen
                  clear hcells hlen hxk hxl hc
                  go_wp2_with (first | (refine wpList_store_cell rfl 5 _ _ rfl rfl E (2 + k) (.int .u8 (c.toNat : Int)) rfl rfl rfl 43 _ HK.out.1 (by rw [HLE.out]; omega) (by kernel_rfl) ?_; rw [HCE.out]))
                  go_roundw
                  case rel => exact ⟨k + 1, by go_num, by omega, HX7.out.1, HX7.out.2⟩
                  case measure => simp [intOf]; omega
                · obtain rfl : k = 20 := by omega
                  have hfull : ([Value.int .i64 M, Value.string (strOf nm)] ++ bcells (x.1.take 20 ++ (List.replicate 20 0).drop 20)) = encE ⟨M, nm, x⟩ := by
                    rw [List.take_of_length_le (by rw [x.2]; exact Nat.le_refl _), List.drop_of_length_le (by simp), List.append_nil]; rfl
                  have hbE := HK.out.1
                  rw [hfull] at hbE
                  have L6 := tyF.load ⟨M, nm, x⟩ E 0 wr (recBox hbE)
                  have S1 := tyF.slice1 ⟨M, nm, x⟩ wr
                  have hrow := HR.out.2.2.2.later HK.out.2
                  have hp9 := RsAt.one (enc := encE) (L := 22) wr 43 ⟨M, nm, x⟩
                  have hrow9 := hrow.later ((Below.refl _ _).alloc (Nat.le_refl _) (.cells (recA encE ⟨M, nm, x⟩) 43))
                  have hpl : pre.length + 1 ≤ 1000000000 := by have := HR.out.1; omega
                  have H9 := Lib.hid (And.intro hp9 (And.intro hrow9 hpl))
                  clear hrow hp9 hrow9 hfull hbE hpl
                  go_wp2_with (first | (refine wpList_load_at rfl _ _ rfl _ _ rfl L6 ?_) | (refine wpList_buildSlice_at rfl _ _ _ rfl [(0, .agg (recA encE ⟨M, nm, x⟩))] _ rfl S1 ?_) | (refine wpList_append_r tyF rfl (.tmp 121) (.tmp 123) rfl _ pre rfl H9.out.2.1 (some ⟨wr.heap.size, 0, none⟩) 1 1 [⟨M, nm, x⟩] rfl rfl H9.out.1 H9.out.2.2 ?_; intro v8 w8 hb8 hg8 hn8; have H8 := Lib.hid hb8; clear hb8 hg8 hn8 L6 S1))
                  go_roundw
                  case rel =>
                    refine ⟨q + 21, pre ++ [⟨M, nm, x⟩], by go_num, by omega, by have := HR.out.1; rw [List.length_append]; simp; omega, ?_, ?_, H8.out⟩
                    · rw [HR.out.2.1, ← HRR.out.1, readE_some HX.out.2.1, Option.map_map]
                      congr 1
                      funext l
                      simp
                    · intro p' hp'
                      rcases List.mem_append.1 hp' with h | h
                      · exact HR.out.2.2.1 p' h
                      · simp at h; rw [h]; exact HX.out.2.2
                  case measure => simp [intOf]; omega
    · obtain rfl : at_ = N := by omega
      have t1 : ¬ (at_ : Int) < (at_ : Int) := by omega
      have hread : readE b.length b = some pre := by
        have h1 := HR.out.2.1
        rw [List.drop_of_length_le (by rw [← HN.out]; exact Nat.le_refl _)] at h1
        rw [h1]
        simp [readE]
      obtain ⟨v, c, rfl, hrs, -⟩ := HR.out.2.2.2.rs tyF
      have CR := refRight_any hrs (by have := HR.out.1; omega) (fun p hp => by have := HR.out.2.2.1 p hp; omega)
      have HRD := Lib.hid hread
      clear hread hrs
      go_wp2_with fail
      refine CR.mono ?_
      rintro e w9 ⟨rb, rfl, hrb, hw9⟩
      have H9 := Lib.hid (And.intro hrb hw9)
      clear CR hrb hw9
      cases rb
      · go_wp2_with fail
        go_ret2
        refine .inr ⟨.inr ⟨pre, by rw [HN.out]; exact HRD.out, fun h => by have := H9.out.1.2 h; cases this⟩, rfl, HR.out.2.2.2.frame.trans (H9.out.2.mono HR.out.2.2.2.frame.size)⟩
      · go_wp2_with fail
        go_ret2
        exact .inl ⟨pre, by rw [HN.out]; exact HRD.out, H9.out.1.1 trivial, _, rfl, HR.out.2.2.2.later H9.out.2⟩
end Go.Proofs.Ytbllpjphlanchaa
