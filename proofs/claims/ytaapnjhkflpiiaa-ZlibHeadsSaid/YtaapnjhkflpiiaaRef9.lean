/-
  The document's signs: the walk.
-/
import Derived.Test.YtaapnjhkflpiiaaRefA
namespace Go.Proofs.Ytaapnjhkflpiiaa
open Go.RowKit Go.Mix

section
variable {S : Nat → Prop} {w0 w : World} {P : Nat} {a : Option Addr} {cap : Nat} {d : List UInt8} {most : Int} {p : Nat} {out : List UInt8} {bad : Nat}

set_option maxRecDepth 100000 in
set_option maxHeartbeats 2400000 in
theorem refSigns_any (hd : Fits S w0 a cap d most) (h : RefS S w0 w P a cap d most p out bad) {cl cd : List Nat} {ca da : Option Addr} {cc dc : Nat} {cs ds : List (List UInt8)}
    (hc : Txts S w0 ca cc cs) (hcd : Txts S w0 da dc ds) (hcl : cs.length ≤ 1000) (hdl : ds.length ≤ 1000) (hc15 : ∀ i, (cs.getD i []).length ≤ 15) (hd15 : ∀ i, (ds.getD i []).length ≤ 15)
    (hcs : ∀ q, signC d cs 15 [] q = signR d cl q) (sm : Bool) (hsm : sm = !decide ((sgn cd).length = 0)) (hds : sm = true → ∀ q, signC d ds 15 [] q = signR d cd q)
    (R : Except Nat (Nat × List UInt8)) (hR : (bad = 0 ∧ signsR d most cl cd (8 * d.length + 1) p out = R) ∨ (bad ≠ 0 ∧ R = .error bad)) :
    Calls Try.prog 46 #[.pointer (some ⟨P, 0, none⟩), .slice ca cs.length cc, .slice da ds.length dc, .bool sm] w fun e w' => e = .returned (.tuple #[]) ∧ RefOut S w0 w' P a cap d most R := by
  have hPlt : P < w.heap.size := by obtain ⟨v, h⟩ := h; exact lt_of_block h.blk
  have hsz := hd.small
  have HRR := Lib.hid hR
  have HCS := Lib.hid hcs
  have HDS := Lib.hid hds
  have HSM := Lib.hid hsm
  have hTB := Lib.hid (fun (w : World) (a : Option Addr) (cap : Nat) (hm : Nums w a cap [0, 0, 1, 2, 3, 4, 5]) => table_any hm (by decide) (fun i => by
    rcases Nat.lt_or_ge i 7 with h | h
    · exact (show ∀ i, i < 7 → ([0, 0, 1, 2, 3, 4, 5] : List Nat).getD i 0 ≤ 13 by decide) i h
    · rw [List.getD_eq_getElem?_getD, List.getElem?_eq_none (by simpa using h)]; exact Nat.zero_le _) 3 4 3 4 rfl rfl (by decide) (by decide))
  have hDB := Lib.hid (fun (w : World) (a : Option Addr) (cap : Nat) (hm : Nums w a cap [0, 0, 1, 2, 3, 4, 5, 6, 7, 8, 9, 10, 11, 12, 13]) => table_any hm (by decide) (fun i => by
    rcases Nat.lt_or_ge i 15 with h | h
    · exact (show ∀ i, i < 15 → ([0, 0, 1, 2, 3, 4, 5, 6, 7, 8, 9, 10, 11, 12, 13] : List Nat).getD i 0 ≤ 13 by decide) i h
    · rw [List.getD_eq_getElem?_getD, List.getElem?_eq_none (by simpa using h)]; exact Nat.zero_le _) 1 2 1 2 rfl rfl (by decide) (by decide))
  clear hR hcs hds hsm
  go_enter Try.func46, Try.ntmps46
  go_wp2_with fail
  refine (hTB.out (w.alloc (.cells #[.int .i64 0, .int .i64 0, .int .i64 1, .int .i64 2, .int .i64 3, .int .i64 4, .int .i64 5] 3)) _ 7 (nums_lit (l := [0, 0, 1, 2, 3, 4, 5]) (C := #[.int .i64 0, .int .i64 0, .int .i64 1, .int .i64 2, .int .i64 3, .int .i64 4, .int .i64 5]) (heap_alloc_last w _ _ rfl) rfl)).mono ?_
  rintro e w1 ⟨a1, c1, rfl, hn1, ho1, g1⟩
  have hs1 : (w.alloc (.cells #[.int .i64 0, .int .i64 0, .int .i64 1, .int .i64 2, .int .i64 3, .int .i64 4, .int .i64 5] 3)).heap.size = w.heap.size + 1 := by simp
  have G1 : Below w.heap.size w w1 := ((Below.refl _ _).alloc (Nat.le_refl _) _).trans (g1.mono (by omega))
  have hn1' : Nums w1 a1 c1 TL := hn1
  have e1 : (tabTo 3 4 [0, 0, 1, 2, 3, 4, 5] ([0, 0, 1, 2, 3, 4, 5] : List Nat).length).1 = TL := rfl
  rw [e1]
  rw [hs1] at ho1
  clear hn1 e1 g1 hs1 hTB
  go_wp2_with fail
  have e2 : (tabTo 1 2 [0, 0, 1, 2, 3, 4, 5, 6, 7, 8, 9, 10, 11, 12, 13] ([0, 0, 1, 2, 3, 4, 5, 6, 7, 8, 9, 10, 11, 12, 13] : List Nat).length).1 = DL := rfl
  refine (hDB.out (w1.alloc (.cells #[.int .i64 0, .int .i64 0, .int .i64 1, .int .i64 2, .int .i64 3, .int .i64 4, .int .i64 5, .int .i64 6, .int .i64 7, .int .i64 8, .int .i64 9, .int .i64 10, .int .i64 11, .int .i64 12, .int .i64 13] 3)) _ 15 (nums_lit (l := [0, 0, 1, 2, 3, 4, 5, 6, 7, 8, 9, 10, 11, 12, 13]) (C := #[.int .i64 0, .int .i64 0, .int .i64 1, .int .i64 2, .int .i64 3, .int .i64 4, .int .i64 5, .int .i64 6, .int .i64 7, .int .i64 8, .int .i64 9, .int .i64 10, .int .i64 11, .int .i64 12, .int .i64 13]) (heap_alloc_last w1 _ _ rfl) rfl)).mono ?_
  rintro e w2 ⟨a2, c2, rfl, hn2, ho2, g2⟩
  have hs2 : (w1.alloc (.cells #[.int .i64 0, .int .i64 0, .int .i64 1, .int .i64 2, .int .i64 3, .int .i64 4, .int .i64 5, .int .i64 6, .int .i64 7, .int .i64 8, .int .i64 9, .int .i64 10, .int .i64 11, .int .i64 12, .int .i64 13] 3)).heap.size = w1.heap.size + 1 := by simp
  have G2 : Below w1.heap.size w1 w2 := ((Below.refl _ _).alloc (Nat.le_refl _) _).trans (g2.mono (by omega))
  have hn2' : Nums w2 a2 c2 DL := hn2
  rw [e2]
  rw [hs2] at ho2
  clear hn2 e2 g2 hs2 hDB
  have hG1 := G1.size
  have hG2 := G2.size
  obtain ⟨T, hST, hI2, -, hTnew, hback⟩ := h.holdNew (G1.trans (G2.mono hG1))
  have hdT := hd.hold ((h.later (G1.trans (G2.mono hG1))).frame) hST
  have hTL : NumsIn T w2 a1 c1 TL := ⟨(hn1'.below G2).cells, hn1'.le, fun x hx => hTnew _ (by have := ho1 x hx; omega) (by have := ho1 x hx; omega)⟩
  have hDL : NumsIn T w2 a2 c2 DL := ⟨hn2'.cells, hn2'.le, fun x hx => hTnew _ (by have := ho2 x hx; omega) (by have := ho2 x hx; omega)⟩
  have hcT : Txts T w2 ca cc cs := by
    have := hc.frame (h.later (G1.trans (G2.mono hG1))).frame
    exact ⟨this.cells, this.le, fun x hx => hST _ (this.off x hx)⟩
  have hcdT : Txts T w2 da dc ds := by
    have := hcd.frame (h.later (G1.trans (G2.mono hG1))).frame
    exact ⟨this.cells, this.le, fun x hx => hST _ (this.off x hx)⟩
  have hTLl := TL_len
  have hDLl := DL_len
  have HTA := Lib.hid TL_at
  have HDA := Lib.hid DL_at
  have HTLe := Lib.hid TL_le
  have HDLe := Lib.hid DL_le
  generalize TL = TLL at *
  generalize DL = DLL at *
  clear hn1' hn2' ho1 ho2 G1 G2 hG1 hG2 hTnew hST h hd hc hcd hPlt
  rw [hTLl, hDLl]
  have HTLl := Lib.hid hTLl
  have HDLl := Lib.hid hDLl
  have HTLn := Lib.hid hTL
  have HDLn := Lib.hid hDL
  clear hTLl hDLl hTL hDL
  go_wp2_with fail
  go_loopw [10] (fun _ wr => ∃ (q : Nat) (o : List UInt8) (bd : Nat), RefS T w2 wr P a cap d most q o bd ∧ ((bd = 0 ∧ ∃ f, signsR d most cl cd f q o = R ∧ 8 * d.length < q + f) ∨ (bd ≠ 0 ∧ R = .error bd))) (fun _ wr => refLeft P (8 * d.length) wr)
  case atStart =>
    refine ⟨p, out, bad, hI2, ?_⟩
    rcases HRR.out with ⟨h1, h2⟩ | h
    · exact .inl ⟨h1, _, h2, by omega⟩
    · exact .inr h
  case round =>
    clear hI2 HRR
    obtain ⟨q, o, bd, hI, hcase⟩ := hrel
    have hleft := Lib.hid (hI.left (8 * d.length))
    obtain ⟨v, hIv⟩ := id hI
    have hql := hIv.le
    obtain ⟨-, -, -, -, c4⟩ := five_cells hIv.blk
    clear hIv
    rcases hcase with ⟨rfl, f, hgo, hf⟩ | ⟨hb, hRe⟩
    · cases f with
      | zero => omega
      | succ f =>
      rw [signsR, ← HCS.out] at hgo
      have C := refSign_any hdT hI hcT hcl hc15
      have HGO := Lib.hid hgo
      clear hgo hI
      go_wp2_with fail
      refine C.mono ?_
      intro e w3 hO
      clear C c4
      cases hr : signC d cs 15 [] q with
      | error k =>
        rw [hr] at hO
        obtain ⟨rfl, hk, hk100, q3, hI3⟩ := hO
        have HG := HGO.out
        rw [hr] at HG
        have HG2 := Lib.hid (show Except.error k = R from HG)
        obtain ⟨v, hIv⟩ := id hI3
        obtain ⟨-, -, -, -, c4⟩ := five_cells hIv.blk
        have t1 : ((k : Int) != 0) = true := by rw [bne_iff_ne]; omega
        clear HG hIv
        go_wp2_with fail
        refine bodyPost_ret (results_none rfl _ _ _) rfl ?_
        exact ⟨rfl, by rw [← HG2.out]; exact ⟨hk, _, _, hback _ _ _ _ hI3⟩⟩
      | ok x =>
        obtain ⟨x, q1⟩ := x
        rw [hr] at hO
        obtain ⟨rfl, hI3⟩ := hO
        obtain ⟨hx, hq1, hq1'⟩ := signC_lt hr
        have HG := HGO.out
        simp only [hr] at HG
        have HG2 := Lib.hid HG
        obtain ⟨v, hIv⟩ := id hI3
        obtain ⟨-, -, -, -, c4⟩ := five_cells hIv.blk
        clear HG HGO hIv hr
        by_cases hx256 : x < 256
        · have t1 : decide ((x : Int) < 256) = true := decide_eq_true (by omega)
          have t2 : ((x : Int) == 256) = false := by rw [beq_eq_false_iff_ne]; omega
          have HG3 := Lib.hid (HG2.out.symm.trans (if_pos hx256))
          have C2 := refPut_any hdT hI3 (UInt8.ofNat x) (x : Int) (by simp; omega)
          have HPP := Lib.hid (putN_put most o (UInt8.ofNat x))
          clear HG2 hI3
          go_wp2_with fail
          refine C2.mono ?_
          rintro e w4 ⟨rfl, hI4⟩
          clear C2 c4
          go_wp2_with fail
          rcases HPP.out with ⟨o2, hp1, hp2⟩ | ⟨hp1, hp2⟩
          · have HG := HG3.out
            simp only [hp1] at HG
            rw [hp2] at hI4
            have HG4 := Lib.hid HG.symm
            have hl4 := Lib.hid (hI4.left (8 * d.length))
            clear HG HG3 hp1 hp2 HPP
            go_roundw
            case rel => exact ⟨q1, o2, 0, hI4, .inl ⟨rfl, f, HG4.out, by omega⟩⟩
            case measure => rw [hleft.out, hl4.out]; simp; omega
          · have HG := HG3.out
            simp only [hp1] at HG
            rw [hp2] at hI4
            have HG4 := Lib.hid HG
            have hl4 := Lib.hid (hI4.left (8 * d.length))
            clear HG HG3 hp1 hp2 HPP
            go_roundw
            case rel => exact ⟨q1, o, 2, hI4, .inr ⟨by decide, HG4.out⟩⟩
            case measure => rw [hleft.out, hl4.out]; simp; omega
        · have t1 : decide ((x : Int) < 256) = false := decide_eq_false (by omega)
          have HG3 := Lib.hid (HG2.out.symm.trans (if_neg hx256))
          by_cases hx6 : x = 256
          · have t2 : ((x : Int) == 256) = true := by rw [beq_iff_eq]; omega
            have HG4 := Lib.hid (HG3.out.trans (if_pos hx6))
            clear HG2 HG3 hx6
            go_wp2_with fail
            refine bodyPost_ret (results_none rfl _ _ _) rfl ?_
            exact ⟨rfl, by rw [HG4.out]; exact hback _ _ _ _ hI3⟩
          · have t2 : ((x : Int) == 256) = false := by rw [beq_eq_false_iff_ne]; omega
            have HG4 := Lib.hid (HG3.out.trans (if_neg hx6))
            clear HG2 HG3
            by_cases hx85 : 285 < x
            · have t3 : decide ((285 : Int) < (x : Int)) = true := decide_eq_true (by omega)
              have hlr : lenR d x q1 = .error 4 := by unfold lenR; rw [if_neg (by omega), if_neg (by omega), if_pos hx85]
              have HG := HG4.out
              simp only [hlr] at HG
              have HG5 := Lib.hid HG
              clear HG HG4 hlr
              go_wp2_with fail
              refine (stop_any hI3 4 4 rfl (by decide)).mono ?_
              rintro e w4 ⟨rfl, hI4⟩
              go_wp2_with fail
              refine bodyPost_ret (results_none rfl _ _ _) rfl ?_
              exact ⟨rfl, by rw [HG5.out]; exact ⟨by decide, _, _, hback _ _ _ _ hI4⟩⟩
            · have t3 : decide ((285 : Int) < (x : Int)) = false := decide_eq_false (by omega)
              go_upto_if 47 with (fail)
              clear c4 t1 t2 t3
              go_cut [11] from 19 to 126 (fun s11 wc => ∃ (nn q2 bd2 : Nat), s11 = .int .i64 (nn : Int) ∧ nn ≤ 100000 ∧ RefS T w2 wc P a cap d most q2 o bd2 ∧ ((bd2 = 0 ∧ lenR d x q1 = .ok (nn, q2) ∧ q1 ≤ q2) ∨ (bd2 = 3 ∧ lenR d x q1 = .error 3)))
              case first =>
                clear HG4 hleft
                have hx2 : 257 ≤ x := by omega
                by_cases hx85' : x < 285
                · have t1 : decide ((x : Int) < 285) = true := decide_eq_true (by omega)
                  have hTAx := HTA.out x hx2 hx85'
                  have hTAl := HTLe.out (x - 257) (by omega)
                  obtain ⟨IK, IC⟩ := ints_at ((HTLn.out.frame hI3.frame).cells) c1 (by rw [HTLl.out]; decide) ((x : Int) - 257) (x - 257) (by omega) (by rw [HTLl.out]; omega)
                  rw [HTLl.out] at IK
                  generalize TLL.getD (x - 257) 0 = tv at *
                  have HTV := Lib.hid hTAx
                  clear hTAx
                  by_cases hx64 : x < 265
                  · have t2 : decide ((264 : Int) < (x : Int)) = false := decide_eq_false (by omega)
                    have hlr := Lib.hid (show lenR d x q1 = .ok (tv, q1) by unfold lenR; rw [if_pos hx64, HTV.out, if_pos hx64])
                    go_wp2_with fail
                    go_meet
                    case rel => exact ⟨tv, q1, 0, rfl, by omega, hI3, .inl ⟨rfl, hlr.out, Nat.le_refl _⟩⟩
                  · have t2 : decide ((264 : Int) < (x : Int)) = true := decide_eq_true (by omega)
                    obtain ⟨n, hn⟩ : ∃ n, n = (x - 257) / 4 - 1 := ⟨_, rfl⟩
                    have hn16 : n ≤ 6 := by omega
                    have C2 := refNumber_any hdT hI3 n (((x : Int) - 261) / 4) (by omega) (by omega)
                    have hlr : lenR d x q1 = match numR d n q1 with
                        | .error e => .error e
                        | .ok (z, p') => .ok (tv + z, p') := by
                      unfold lenR
                      rw [if_neg hx64, if_neg (by omega), if_neg (by omega), ← hn, HTV.out, if_neg hx64, ← hn]
                      cases numR d n q1 <;> rfl
                    have hlt := numN_lt d q1 0 n
                    have hp6 := pow16 n (by omega)
                    have hN : (∃ z q2, numR d n q1 = .ok (z, q2) ∧ numN d q1 0 n = (z, q2, 0)) ∨ (numR d n q1 = .error 3 ∧ (numN d q1 0 n).2 = (8 * d.length, 3)) := by
                      cases hnr : numR d n q1 with
                      | ok y => exact .inl ⟨y.1, y.2, rfl, numN_ok hnr⟩
                      | error k => obtain ⟨rfl, h2⟩ := numN_err hq1' hnr; exact .inr ⟨rfl, h2⟩
                    have HN := Lib.hid hN
                    have HLR := Lib.hid hlr
                    clear hN hlr hn
                    generalize numN d q1 0 n = NN at *
                    obtain ⟨z, q2, b2⟩ := NN
                    simp only at hlt C2
                    have hz : z ≤ 65536 := by omega
                    clear hlt hp6 hI3
                    go_wp2_with fail
                    refine C2.mono ?_
                    rintro e w4 ⟨rfl, hI4⟩
                    clear C2 IK IC
                    go_wp2_with fail
                    go_meet
                    case rel =>
                      refine ⟨tv + z, q2, b2, by go_num, by omega, hI4, ?_⟩
                      have hl := HLR.out
                      rcases HN.out with ⟨z', q2', h1, h2⟩ | ⟨h1, h2⟩
                      · injection h2 with h2 h3; injection h3 with h3 h4
                        subst h2 h3 h4
                        rw [h1] at hl
                        exact .inl ⟨rfl, hl, by have := (numR_le h1).1; omega⟩
                      · injection h2 with h3 h4
                        rw [h1] at hl
                        exact .inr ⟨h4, hl⟩
                · have t1 : decide ((x : Int) < 285) = false := decide_eq_false (by omega)
                  have hlr := Lib.hid (show lenR d x q1 = .ok (258, q1) by unfold lenR; rw [if_neg (by omega), if_pos (by omega)])
                  go_wp2_with fail
                  go_meet
                  case rel => exact ⟨258, q1, 0, rfl, by omega, hI3, .inl ⟨rfl, hlr.out, Nat.le_refl _⟩⟩
              case rest =>
                clear hI3
                obtain ⟨nn, q2, bd2, rfl, hnn, hI4, hc4⟩ := hcut
                have HC4 := Lib.hid hc4
                cases sm with
                | false =>
                  have hsg : (sgn cd).length = 0 := by
                    have := HSM.out
                    rw [Bool.eq_iff_iff] at this
                    simpa using this
                  have HR5 := Lib.hid (show R = .error (stopN bd2 4) by
                    have hg := HG4.out
                    rcases hc4 with ⟨rfl, h1, -⟩ | ⟨rfl, h1⟩
                    · simp only [h1] at hg
                      rw [if_pos hsg] at hg
                      exact hg
                    · simp only [h1] at hg
                      exact hg)
                  have hst := stopN_ne bd2 4 (by decide)
                  clear hc4 hsg
                  go_wp2_with fail
                  refine (stop_any hI4 4 4 rfl (by decide)).mono ?_
                  rintro e w4 ⟨rfl, hI5⟩
                  go_wp2_with fail
                  refine bodyPost_ret (results_none rfl _ _ _) rfl ?_
                  exact ⟨rfl, by rw [HR5.out]; exact ⟨hst, _, _, hback _ _ _ _ hI5⟩⟩
                | true =>
                have hsg : ¬ (sgn cd).length = 0 := by
                  have := HSM.out
                  rw [Bool.eq_iff_iff] at this
                  simpa using this
                have HSG := Lib.hid hsg
                clear hsg
                rcases hc4 with ⟨rfl, h1, hq12⟩ | ⟨rfl, h1⟩
                · have hg := HG4.out
                  simp only [h1] at hg
                  rw [if_neg HSG.out, ← HDS.out rfl] at hg
                  have HG5 := Lib.hid hg
                  have C2 := refSign_any hdT hI4 hcdT hdl hd15
                  clear h1 HC4 HG4 hg hI4
                  go_wp2_with fail
                  refine C2.mono ?_
                  intro e w4 hO
                  clear C2
                  cases hr2 : signC d ds 15 [] q2 with
                  | error k =>
                    rw [hr2] at hO
                    obtain ⟨rfl, hk, hk100, q3, hI5⟩ := hO
                    have HG := HG5.out
                    rw [hr2] at HG
                    have HG6 := Lib.hid HG
                    obtain ⟨v, hIv⟩ := id hI5
                    obtain ⟨-, -, -, -, c4⟩ := five_cells hIv.blk
                    have t1 : ((k : Int) != 0) = true := by rw [bne_iff_ne]; omega
                    clear HG hIv
                    go_wp2_with fail
                    refine bodyPost_ret (results_none rfl _ _ _) rfl ?_
                    exact ⟨rfl, by rw [HG6.out]; exact ⟨hk, _, _, hback _ _ _ _ hI5⟩⟩
                  | ok x5 =>
                    obtain ⟨s2, q3⟩ := x5
                    rw [hr2] at hO
                    obtain ⟨rfl, hI5⟩ := hO
                    obtain ⟨hs2, hq3, hq3'⟩ := signC_lt hr2
                    have HG := HG5.out
                    simp only [hr2] at HG
                    have HG6 := Lib.hid HG
                    clear HG HG5 hr2
                    by_cases hs30 : 29 < s2
                    · have t1 : decide ((29 : Int) < (s2 : Int)) = true := decide_eq_true (by omega)
                      have hdr : distR d s2 q3 = .error 4 := by unfold distR; rw [if_neg (by omega), if_pos hs30]
                      have HG := HG6.out
                      simp only [hdr] at HG
                      have HG7 := Lib.hid HG
                      clear HG HG6 hdr
                      go_wp2_with fail
                      refine (stop_any hI5 4 4 rfl (by decide)).mono ?_
                      rintro e w5 ⟨rfl, hI6⟩
                      rw [show stopN 0 4 = 4 from rfl] at hI6
                      obtain ⟨v, hIv⟩ := id hI6
                      obtain ⟨-, -, -, -, c4⟩ := five_cells hIv.blk
                      clear hIv
                      go_wp2_with fail
                      refine bodyPost_ret (results_none rfl _ _ _) rfl ?_
                      exact ⟨rfl, by rw [HG7.out]; exact ⟨by decide, _, _, hback _ _ _ _ hI6⟩⟩
                    · have t1 : decide ((29 : Int) < (s2 : Int)) = false := decide_eq_false (by omega)
                      obtain ⟨v, hIv⟩ := id hI5
                      obtain ⟨-, -, -, -, c4⟩ := five_cells hIv.blk
                      clear hIv
                      have hDAx := HDA.out s2 (by omega)
                      have hDAl := Lib.hid (HDLe.out s2 (by omega))
                      obtain ⟨IK, IC⟩ := ints_at ((HDLn.out.frame hI5.frame).cells) c2 (by rw [HDLl.out]; decide) (s2 : Int) s2 rfl (by rw [HDLl.out]; omega)
                      rw [HDLl.out] at IK
                      generalize DLL.getD s2 0 = dv at *
                      have HDV := Lib.hid hDAx
                      clear hDAx
                      go_upto_if 83 with (fail)
                      clear c4 t1 IK IC
                      go_cut [13] from 19 to 126 (fun s13 wc => ∃ (bk q4 bd3 : Nat), s13 = .int .i64 (bk : Int) ∧ bk ≤ 200000 ∧ RefS T w2 wc P a cap d most q4 o bd3 ∧ ((bd3 = 0 ∧ distR d s2 q3 = .ok (bk, q4) ∧ q3 ≤ q4 ∧ 1 ≤ bk) ∨ (bd3 = 3 ∧ distR d s2 q3 = .error 3)))
                      case first =>
                        clear HG6 hql hf hq1 hq1' hx256 hx6 hx85 hnn hq12 hsz hx hcl hdl hs2 hq3 hleft
                        by_cases hs3 : s2 < 4
                        · have t2 : decide ((3 : Int) < (s2 : Int)) = false := decide_eq_false (by omega)
                          have t3 : decide (3 < s2) = false := decide_eq_false (by omega)
                          have t4 : ¬ 3 < s2 := by omega
                          have hdv : dv = s2 + 1 := by rw [HDV.out, if_pos hs3]
                          have hdr := Lib.hid (show distR d s2 q3 = .ok (dv, q3) by unfold distR; rw [if_pos hs3, hdv])
                          have hdv1 := Lib.hid (show 1 ≤ dv by omega)
                          clear hdv
                          refine wp_cond_split rfl (fun h => ?_) (fun h => ?_)
                          · exfalso; rw [decide_eq_true_eq] at h; omega
                          clear h
                          go_wp2_with fail
                          go_meet
                          case rel => exact ⟨dv, q3, 0, rfl, by have := hDAl.out; omega, hI5, .inl ⟨rfl, hdr.out, Nat.le_refl _, hdv1.out⟩⟩
                        · have t2 : decide ((3 : Int) < (s2 : Int)) = true := decide_eq_true (by omega)
                          have t3 : decide (3 < s2) = true := decide_eq_true (by omega)
                          have t4 : 3 < s2 := by omega
                          obtain ⟨n, hn⟩ : ∃ n, n = s2 / 2 - 1 := ⟨_, rfl⟩
                          have hn16 : n ≤ 13 := by omega
                          have C2 := refNumber_any hdT hI5 n ((s2 : Int) / 2 - 1) (by omega) (by omega)
                          have hlr : distR d s2 q3 = match numR d n q3 with
                              | .error e => .error e
                              | .ok (z, p') => .ok (dv + z, p') := by
                            unfold distR
                            rw [if_neg hs3, if_neg (by omega), ← hn, HDV.out, if_neg hs3, ← hn]
                            cases numR d n q3 <;> rfl
                          have hlt := numN_lt d q3 0 n
                          have hp6 := pow16 n (by omega)
                          have hdv1 := Lib.hid <| show 1 ≤ dv by
                            have := HDV.out
                            rw [if_neg hs3] at this
                            generalize (2 + s2 % 2) * 2 ^ (s2 / 2 - 1) = y at this
                            omega
                          have hN : (∃ z q2, numR d n q3 = .ok (z, q2) ∧ numN d q3 0 n = (z, q2, 0)) ∨ (numR d n q3 = .error 3 ∧ (numN d q3 0 n).2 = (8 * d.length, 3)) := by
                            cases hnr : numR d n q3 with
                            | ok y => exact .inl ⟨y.1, y.2, rfl, numN_ok hnr⟩
                            | error k => obtain ⟨rfl, h2⟩ := numN_err hq3' hnr; exact .inr ⟨rfl, h2⟩
                          have HN := Lib.hid hN
                          have HLR := Lib.hid hlr
                          clear hN hlr hn
                          generalize numN d q3 0 n = NN at *
                          obtain ⟨z, q2', b2⟩ := NN
                          simp only at hlt C2
                          have hz : z ≤ 65536 := by omega
                          have hdvz : (dv : Int) + (z : Int) ≤ 100000 := by have := hDAl.out; omega
                          clear hlt hp6 hI5
                          refine wp_cond_split rfl (fun h => ?_) (fun h => ?_)
                          rotate_left
                          · exfalso; rw [decide_eq_false_iff_not] at h; omega
                          clear h
                          go_wp2_with fail
                          refine C2.mono ?_
                          rintro e w5 ⟨rfl, hI6⟩
                          clear C2
                          go_wp2_with fail
                          go_meet
                          case rel =>
                            refine ⟨dv + z, q2', b2, by go_num, by have := hDAl.out; omega, hI6, ?_⟩
                            have hl := HLR.out
                            rcases HN.out with ⟨z', q2'', h1, h2⟩ | ⟨h1, h2⟩
                            · injection h2 with h2 h3; injection h3 with h3 h4
                              subst h2 h3 h4
                              rw [h1] at hl
                              exact .inl ⟨rfl, hl, by have := (numR_le h1).1; omega, by have := hdv1.out; omega⟩
                            · injection h2 with h3 h4
                              rw [h1] at hl
                              exact .inr ⟨h4, hl⟩
                      case rest =>
                        clear hI5
                        obtain ⟨bk, q4, bd3, rfl, hbk, hI6, hc6⟩ := hcut
                        have HQ := Lib.hid (show q < q1 ∧ q1 ≤ q2 ∧ q2 < q3 ∧ q3 ≤ 8 * d.length ∧ 8 * d.length < q + (f + 1) from ⟨hq1, hq12, hq3, hq3', hf⟩)
                        clear hql hf hq1 hq1' hx256 hx6 hx85 hq12 hx hcl hdl hs2 hq3 hq3' hs30
                        have hq46 : q3 ≤ q4 ∨ bd3 ≠ 0 := by
                          rcases hc6 with ⟨_, _, h, _⟩ | ⟨h, _⟩
                          · exact .inl h
                          · exact .inr (by omega)
                        have hRc : (bd3 = 0 ∧ 1 ≤ bk ∧ q3 ≤ q4 ∧ R = if o.length < bk then .error 4 else match copyGo most bk nn o with
                              | .error e => .error e
                              | .ok out' => signsR d most cl cd f q4 out') ∨ (bd3 = 3 ∧ R = .error 3) := by
                          have hg := HG6.out
                          rcases hc6 with ⟨h0, h1, h2, h3⟩ | ⟨h0, h1⟩
                          · simp only [h1] at hg
                            exact .inl ⟨h0, h3, h2, hg⟩
                          · simp only [h1] at hg
                            exact .inr ⟨h0, hg⟩
                        have HRc := Lib.hid hRc
                        obtain ⟨v, hIv⟩ := id hI6
                        have hol := hIv.few
                        obtain ⟨av, cv, hv, -⟩ := hIv.row.sl
                        have c2' := (five_cells hIv.blk).2.2.1
                        rw [hv] at c2'
                        clear hc6 HG6 hRc hIv hv hq46
                        go_upto_if 97 with (fail)
                        clear c2'
                        go_cut [13] from 19 to 126 (fun s13 wc => s13 = .int .i64 (bk : Int) ∧ ∃ bd4, RefS T w2 wc P a cap d most q4 o bd4 ∧ ((bd4 = 0 ∧ 1 ≤ bk ∧ bk ≤ o.length ∧ q3 ≤ q4 ∧ R = match copyGo most bk nn o with
                              | .error e => .error e
                              | .ok out' => signsR d most cl cd f q4 out') ∨ (bd4 ≠ 0 ∧ R = .error bd4)))
                        case first =>
                          clear HQ hsz hnn hbk hol hleft
                          refine wp_cond_split rfl (fun h => ?_) (fun h => ?_)
                          · have hob : o.length < bk := by have := of_decide_eq_true h; omega
                            have HR7 := Lib.hid (show R = .error (stopN bd3 4) by
                              rcases HRc.out with ⟨h0, _, _, h4⟩ | ⟨h0, h4⟩
                              · rw [h4, if_pos hob, h0]; rfl
                              · rw [h4, h0]; rfl)
                            clear h hob
                            go_wp2_with fail
                            refine (stop_any hI6 4 4 rfl (by decide)).mono ?_
                            rintro e w6 ⟨rfl, hI7⟩
                            go_wp2_with fail
                            go_meet
                            case rel => exact ⟨rfl, _, hI7, .inr ⟨stopN_ne _ _ (by decide), HR7.out⟩⟩
                          · have hob : ¬ o.length < bk := by have := of_decide_eq_false h; omega
                            clear h
                            have HOB := Lib.hid hob
                            clear hob
                            go_wp2_with fail
                            go_meet
                            case rel =>
                              refine ⟨rfl, bd3, hI6, ?_⟩
                              rcases HRc.out with ⟨h0, h1, h2, h4⟩ | ⟨h0, h4⟩
                              · rw [if_neg HOB.out] at h4
                                exact .inl ⟨h0, h1, Nat.le_of_not_lt HOB.out, h2, h4⟩
                              · exact .inr ⟨by omega, by rw [h4, h0]⟩
                        case rest =>
                          clear hI6 HRc hol
                          obtain ⟨rfl, bd4, hI7, hc7⟩ := hcut
                          go_wp2_with fail
                          obtain ⟨wo, rfl⟩ : ∃ wo : World, wo = wc := ⟨_, rfl⟩
                          have HC7 := Lib.hid hc7
                          clear hc7
                          go_loopw [14] (fun s14 wx => ∃ (j : Nat) (o2 : List UInt8) (bd : Nat), s14 = .int .i64 (j : Int) ∧ j ≤ nn ∧ RefS T w2 wx P a cap d most q4 o2 bd ∧ ((bd = 0 ∧ 1 ≤ bk ∧ bk ≤ o2.length ∧ q3 ≤ q4 ∧ R = match copyGo most bk (nn - j) o2 with
                              | .error e => .error e
                              | .ok out' => signsR d most cl cd f q4 out') ∨ (bd ≠ 0 ∧ R = .error bd))) (fun s14 _ => nn - (intOf s14).toNat)
                          case atStart => exact ⟨0, o, bd4, rfl, Nat.zero_le _, hI7, HC7.out⟩
                          case round =>
                            clear hI7 HC7
                            obtain ⟨j, o2, bd, rfl, hj, hI8, hc8⟩ := hrel
                            obtain ⟨v8, hI8v⟩ := id hI8
                            have hol := hI8v.few
                            obtain ⟨-, -, -, -, c4⟩ := five_cells hI8v.blk
                            have hl8 := Lib.hid (hI8.left (8 * d.length))
                            rcases hc8 with ⟨rfl, h1, hb2, h34, hRx⟩ | ⟨hb0, hRx⟩
                            · by_cases hjn : j < nn
                              · have t1 : decide ((j : Int) < (nn : Int)) = true := decide_eq_true (by omega)
                                have t1' : decide (j < nn) = true := decide_eq_true hjn
                                rw [show nn - j = (nn - (j + 1)) + 1 from by omega, copyGo] at hRx
                                obtain ⟨av, cv, hv, hsl⟩ := hI8v.row.sl
                                have hk : o2.length - bk < o2.length := by omega
                                obtain ⟨IK, -⟩ := hsl.at ((o2.length : Int) - (bk : Int)) (o2.length - bk) (by omega) hk
                                have hel : ∀ y : Later wr, y.1.cell? (elt av (o2.length - bk)) = some (.int .u8 (o2[o2.length - bk].toNat : Int)) := fun y => ((hsl.below y.2).at ((o2.length : Int) - (bk : Int)) (o2.length - bk) (by omega) hk).2
                                have hc2 : ∀ y : Later wr, y.1.cell? ⟨P, 2, none⟩ = some (.slice av o2.length cv) := fun y => by
                                  have := (five_cells (block_below hI8v.blk y.2)).2.2.1
                                  rw [this, hv]
                                have hgd : o2.getD (o2.length - bk) 0 = o2[o2.length - bk] := by rw [List.getD_eq_getElem?_getD, List.getElem?_eq_getElem hk]; rfl
                                rw [hgd] at hRx
                                have HCG := Lib.hid hRx
                                have h8b := o2[o2.length - bk].toNat_lt
                                clear hI8v hv hsl hRx hgd
                                generalize o2[o2.length - bk] = c at *
                                generalize o2.length - bk = k at *
                                have w1' : IntKind.i64.wrap ((o2.length : Int) - (bk : Int)) = (o2.length : Int) - (bk : Int) := IntWalk.i64_in _ (by omega)
                                have HP := Lib.hid (fun (w3 : World) (h3 : RefS T w2 w3 P a cap d most q4 o2 0) => refPut_any hdT h3 c (c.toNat : Int) rfl)
                                have HPP := Lib.hid (putN_put most o2 c)
                                have HB2 := Lib.hid hb2
                                clear hb2
                                have HOL : ∃ ol, ol = o2.length := ⟨_, rfl⟩
                                obtain ⟨ol, hol2⟩ := HOL
                                rw [← hol2] at hol IK hc2 w1'
                                have HOL2 := Lib.hid hol2
                                clear hol2
                                go_upto_region 28 with (fail)
                                refine wp_region_mix [(0, 0), (1, 0), (2, 0), (3, 0), (4, 0), (5, 0), (6, 0), (7, 0), (8, 0), (9, 0), (10, 0), (11, 0), (12, 0), (13, 0), (14, 2)] (by kernel_rfl) (by kernel_rfl) ?_
                                iterate 14 (refine mix_calm rfl (fun K hK => ?_); go_simp; (refine hK _ ?_; clear hK K))
                                refine mix_sync rfl rfl (fun w8 hw8 K hK => ?_)
                                have h8 := hI8.later hw8
                                clear hel hc2 IK c4
                                go_wp2_with fail
                                refine (HP.out _ h8).mono ?_
                                rintro e w9 ⟨rfl, hI9⟩
                                go_wp2_with fail
                                refine mix_nil fun w10 hw10 => ?_
                                have hI10 := hI9.later hw10
                                clear hI9 hw10 h8 hw8 hI8
                                go_wp2_with fail
                                have hrx := HCG.out
                                rcases HPP.out with ⟨o3, hp1, hp2⟩ | ⟨hp1, hp2⟩
                                · simp only [hp1] at hrx
                                  rw [hp2] at hI10
                                  have hl3 : bk ≤ o3.length := by rw [putR_ok hp1]; simp; have := HB2.out; omega
                                  have HRX := Lib.hid hrx
                                  clear hrx HCG hp1 hp2
                                  go_roundw
                                  case rel => exact ⟨j + 1, o3, 0, by go_num, by omega, hI10, .inl ⟨rfl, h1, hl3, h34, HRX.out⟩⟩
                                  case measure => simp [intOf]; omega
                                · simp only [hp1] at hrx
                                  rw [hp2] at hI10
                                  have HRX := Lib.hid hrx
                                  clear hrx HCG hp1 hp2
                                  go_roundw
                                  case rel => exact ⟨j + 1, o2, 2, by go_num, by omega, hI10, .inr ⟨by decide, HRX.out⟩⟩
                                  case measure => simp [intOf]; omega
                              · obtain rfl : j = nn := by omega
                                have t1 : decide ((j : Int) < (j : Int)) = false := decide_eq_false (by omega)
                                rw [Nat.sub_self, copyGo] at hRx
                                have HRX := Lib.hid (show signsR d most cl cd f q4 o2 = R from hRx.symm)
                                clear hRx hI8v
                                go_wp2_with fail
                                go_roundw
                                case rel =>
                                  have := HQ.out
                                  exact ⟨q4, o2, 0, hI8, .inl ⟨rfl, f, HRX.out, by omega⟩⟩
                                case measure =>
                                  rw [hleft.out, hl8.out]
                                  have := HQ.out
                                  have := hI8.choose_spec.le
                                  simp
                                  omega
                            · have t2 : ((bd : Int) == 0) = false := by rw [beq_eq_false_iff_ne]; omega
                              have HB0 := Lib.hid hb0
                              have HRX := Lib.hid hRx
                              clear hb0 hRx hI8v
                              by_cases hjn : j < nn
                              · have t1 : decide ((j : Int) < (nn : Int)) = true := decide_eq_true (by omega)
                                have t1' : decide (j < nn) = true := decide_eq_true hjn
                                go_wp2_with fail
                                go_roundw
                                case rel => exact ⟨q4, o2, bd, hI8, .inr ⟨HB0.out, HRX.out⟩⟩
                                case measure =>
                                  rw [hleft.out, hl8.out, if_neg HB0.out]
                                  have := HQ.out
                                  simp
                                  omega
                              · have t1 : decide ((j : Int) < (nn : Int)) = false := decide_eq_false (by omega)
                                have t1' : decide (j < nn) = false := decide_eq_false hjn
                                go_wp2_with fail
                                go_roundw
                                case rel => exact ⟨q4, o2, bd, hI8, .inr ⟨HB0.out, HRX.out⟩⟩
                                case measure =>
                                  rw [hleft.out, hl8.out, if_neg HB0.out]
                                  have := HQ.out
                                  simp
                                  omega
                · have hg := HG4.out
                  simp only [h1] at hg
                  have HG5 := Lib.hid hg
                  have C2 := signDead_any hdT hI4 (by decide) (.slice da ds.length dc)
                  clear h1 HC4 HG4 hg hI4
                  go_wp2_with fail
                  refine C2.mono ?_
                  rintro e w4 ⟨rfl, q3, hI5⟩
                  obtain ⟨v, hIv⟩ := id hI5
                  obtain ⟨-, -, -, -, c4⟩ := five_cells hIv.blk
                  clear hIv C2
                  go_wp2_with fail
                  refine bodyPost_ret (results_none rfl _ _ _) rfl ?_
                  exact ⟨rfl, by rw [HG5.out]; exact ⟨by decide, _, _, hback _ _ _ _ hI5⟩⟩
    · have t1 : ((bd : Int) == 0) = false := by rw [beq_eq_false_iff_ne]; omega
      have HG := Lib.hid (And.intro hb hRe)
      clear hb hRe hleft
      go_wp2_with fail
      go_end0
      exact ⟨rfl, by rw [HG.out.2]; exact ⟨HG.out.1, _, _, hback _ _ _ _ hI⟩⟩
end
end Go.Proofs.Ytaapnjhkflpiiaa
