/-
  The walk of signs of package inflate.
-/
import Derived.Test.YtaapnjhkflpiiaaInf5
namespace Go.MixP
open Go.RowKit

section
variable {D : List Deferred} {E : List PanicEntry → World → Prop} {P : Program} {ops : Array Oper} {Q : Act → World → Prop}

/-- A whole struct or array is read: calm. -/
theorem mix_load_row {i : Nat} {r : List (Nat × Nat)} {o : Oper} {a : Act} {w : World} (ho : ops[i]? = some o) (hw : Region.wanted o (yielded ops a.tmps) = true)
    (ty : TypeId) (x : Operand) (hop : o.op = .load ty x) (g : Nat) (hx : a.eval x = .pointer (some ⟨g, 0, none⟩)) (t : TypeId) (cs : Array Value) (fr : Nat × Nat) (d : TypeDesc) (hg : w.heap[g]? = some (.cells cs t fr))
    (hu : P.underlying ty = some d) (hd : (match d with | .struct _ | .array _ _ => true | _ => false) = true) (hi : (P.info? ty).map (·.size) = some cs.size)
    (h : wpMix D E P ops Q r (a.put o.dst (.agg cs)) w) : wpMix D E P ops Q ((i, 0) :: r) a w := by
  refine mix_calm ho (fun K hK => ?_)
  unfold calmStep
  rw [if_pos hw]
  refine ⟨.agg cs, fun y => ?_, hK _ h⟩
  have hgy : y.1.heap[g]? = some (.cells cs t fr) := (y.2.block g (lt_of_block hg)).trans hg
  unfold calmAt execOp
  simp only [hop, hx, Instr.loadAt, Instr.sureAddr, Sem.run_bind, Sem.run_pure, Result.andThen_ok, run_loadVar_row y.1 g t ty cs fr d hgy hu hd hi]
  exact ⟨rfl, rfl⟩

end
end Go.MixP

namespace Go.Proofs.Ytaapnjhkflpiiaa
open Go.RowKit Go.Mix

theorem sgnTo_mem (ls : List Nat) : ∀ n x, x ∈ sgnTo ls n → x < ls.length := by
  intro n
  induction n with
  | zero => intro x hx; simp [sgnTo] at hx
  | succ n ih =>
    intro x hx
    rw [sgnTo, List.mem_append] at hx
    rcases hx with hx | hx
    · exact ih x hx
    · exact ((idxTo_mem _ _ _ _).1 hx).1

theorem signGo_le (d : List UInt8) (ls : List Nat) : ∀ (f l n fi k p x q : Nat), signGo d ls f l n fi k p = .ok (x, q) → p < q ∧ q ≤ 8 * d.length ∧ x ≤ ls.length := by
  intro f
  induction f with
  | zero => intro l n fi k p x q h; simp [signGo] at h
  | succ f ih =>
    intro l n fi k p x q h
    rw [signGo] at h
    split at h
    · split at h
      · injection h with h
        injection h with h1 h2
        refine ⟨by omega, by omega, ?_⟩
        rw [← h1, List.getD_eq_getElem?_getD]
        generalize k + (2 * n + bitAt d p - 2 * fi) = j
        rcases Nat.lt_or_ge j (sgn ls).length with hj | hj
        · rw [List.getElem?_eq_getElem hj]
          exact Nat.le_of_lt (sgnTo_mem ls 15 _ (List.getElem_mem hj))
        · rw [List.getElem?_eq_none hj]; exact Nat.zero_le _
      · split at h
        · cases h
        · have := ih _ _ _ _ _ _ _ h; omega
    · cases h
theorem signR_le {d : List UInt8} {ls : List Nat} {p x q : Nat} (h : signR d ls p = .ok (x, q)) : p < q ∧ q ≤ 8 * d.length ∧ x ≤ ls.length := signGo_le d ls _ _ _ _ _ _ _ _ h

theorem lenR_le {d : List UInt8} {s p n q : Nat} (h : lenR d s p = .ok (n, q)) (hp : p ≤ 8 * d.length) : p ≤ q ∧ q ≤ 8 * d.length ∧ n ≤ 1000000 := by
  unfold lenR at h
  split at h
  · injection h with h; injection h with h1 h2; omega
  · split at h
    · injection h with h; injection h with h1 h2; omega
    · split at h
      · cases h
      · split at h
        · cases h
        · rename_i x p' hr
          injection h with h; injection h with h1 h2
          obtain ⟨e1, e2, e3⟩ := numR_le hr
          have hm : (s - 257) / 4 - 1 ≤ 6 := by omega
          have h2m : 2 ^ ((s - 257) / 4 - 1) ≤ 2 ^ 6 := Nat.pow_le_pow_right (by decide) hm
          have h3 : (4 + (s - 257) % 4) * 2 ^ ((s - 257) / 4 - 1) ≤ 8 * 2 ^ 6 := Nat.mul_le_mul (by omega) h2m
          generalize (4 + (s - 257) % 4) * 2 ^ ((s - 257) / 4 - 1) = z at *
          generalize 2 ^ ((s - 257) / 4 - 1) = y at *
          have e6 : 2 ^ 6 = 64 := by decide
          rw [e6] at h2m h3
          omega

theorem distR_le {d : List UInt8} {s p n q : Nat} (h : distR d s p = .ok (n, q)) (hp : p ≤ 8 * d.length) : p ≤ q ∧ q ≤ 8 * d.length ∧ n ≤ 1000000 ∧ 1 ≤ n := by
  unfold distR at h
  split at h
  · injection h with h; injection h with h1 h2; omega
  · split at h
    · cases h
    · split at h
      · cases h
      · rename_i x p' hr
        injection h with h; injection h with h1 h2
        obtain ⟨e1, e2, e3⟩ := numR_le hr
        have hm : s / 2 - 1 ≤ 13 := by omega
        have h2m : 2 ^ (s / 2 - 1) ≤ 2 ^ 13 := Nat.pow_le_pow_right (by decide) hm
        have h3 : (2 + s % 2) * 2 ^ (s / 2 - 1) ≤ 3 * 2 ^ 13 := Nat.mul_le_mul (by omega) h2m
        generalize (2 + s % 2) * 2 ^ (s / 2 - 1) = z at *
        generalize 2 ^ (s / 2 - 1) = y at *
        have e6 : 2 ^ 13 = 8192 := by decide
        rw [e6] at h2m h3
        omega

section
variable {S : Nat → Prop} {w0 w : World} {P : Nat} {a : Option Addr} {cap : Nat} {d : List UInt8} {most : Int} {p : Nat} {out : List UInt8}

theorem InfS.at1 (h : InfS S w0 w P a cap d most p out) : w.cell? ⟨P, 1, none⟩ = some (.int .i64 (p : Int)) := by
  obtain ⟨v, h⟩ := h; exact (four_cells h.blk).2.1

set_option maxRecDepth 100000 in
set_option maxHeartbeats 1000000 in
theorem signsI_any (hd : Fits S w0 a cap d most) (h : InfS S w0 w P a cap d most p out) (hp : p ≤ 8 * d.length) {cl cd : List Nat} {C D : Array Value} (hc : CodeIn S w0 cl C) (hcd : CodeIn S w0 cd D) (hcl : cl.length ≤ 1000) (hcdl : cd.length ≤ 1000) :
    Calls Try.prog 38 #[.pointer (some ⟨P, 0, none⟩), .agg C, .agg D] w
      (Outs (signsR d most cl cd (8 * d.length + 1) p out) (FrameS S w0) fun x e w' => e = .returned (.tuple #[]) ∧ InfS S w0 w' P a cap d most x.1 x.2) := by
  obtain ⟨R, hR⟩ : ∃ R, R = signsR d most cl cd (8 * d.length + 1) p out := ⟨_, rfl⟩
  rw [← hR]
  have HR := Lib.hid hR
  clear hR
  have hPlt : P < w.heap.size := by obtain ⟨v, h⟩ := h; exact lt_of_block h.blk
  have hsz1 : (w.alloc (.cells C 61)).heap.size = w.heap.size + 1 := by simp
  have h1 := (h.later ((Below.refl _ _).alloc (Nat.le_refl _) (.cells C 61) : Below w.heap.size w (w.alloc (.cells C 61)))).later ((Below.refl _ _).alloc (Nat.le_refl _) (.cells D 61))
  have hQ1 : ((w.alloc (.cells C 61)).alloc (.cells D 61)).heap[w.heap.size]? = some (.cells C 61 (0, 0)) :=
    (((Below.refl (w.alloc (.cells C 61)).heap.size _).alloc (Nat.le_refl _) _).block w.heap.size (by simp)).trans (heap_alloc_last _ _ _ rfl)
  have hQ2 : ((w.alloc (.cells C 61)).alloc (.cells D 61)).heap[w.heap.size + 1]? = some (.cells D 61 (0, 0)) := heap_alloc_last _ _ _ (by simp)
  go_enter Try.func38, Try.ntmps38
  go_wp2_with fail
  generalize (w.alloc (.cells C 61)).alloc (.cells D 61) = w1 at *
  clear hsz1
  generalize hQn : w.heap.size = Q at *
  clear hQn
  obtain ⟨T, hST, hI1, hTall, hback, hbackF⟩ := h1.hold
  have hTQ1 : T Q := hTall Q C _ _ hQ1 (by omega) (by decide)
  have hTQ2 : T (Q + 1) := hTall (Q + 1) D _ _ hQ2 (by omega) (by decide)
  have hdT := hd.hold h1.frame hST
  have hcT := (hc.frame h1.frame).sub hST
  have hcdT := (hcd.frame h1.frame).sub hST
  have hCsz := hc.size
  have hDsz := hcd.size
  clear h1 hTall hc hcd h hd
  go_loopw [6] (fun _ wr => ∃ f q : Nat, ∃ o : List UInt8, signsR d most cl cd f q o = R ∧ 8 * d.length < q + f ∧ q ≤ 8 * d.length ∧ InfS T w1 wr P a cap d most q o) (fun _ wr => 8 * d.length + 1 - (intOf ((wr.cell? ⟨P, 1, none⟩).getD undef)).toNat)
  case atStart => exact ⟨_, p, out, HR.out.symm, by omega, hp, hI1⟩
  case round =>
    obtain ⟨f, q, o, hgo, hf, hq, hI⟩ := hrel
    clear hI1
    have hat := hI.at1
    cases f with
    | zero => omega
    | succ f =>
    rw [signsR] at hgo
    have hQ1r : wr.heap[Q]? = some (.cells C 61 (0, 0)) := (hI.frame.keep Q hTQ1).2.trans hQ1
    have HC := Lib.hid (fun (w2 : World) (hI2 : InfS T w1 w2 P a cap d most q o) => sign_any2 hdT hI2 hq hcT)
    have HGO := Lib.hid hgo.symm
    clear hgo
    go_wp2_with fail
    refine MixP.wp_region_mix (D := []) (E := fun c w' => ∃ n, R = .error n ∧ c = thrown n ∧ FrameS S w0 w') [(0, 3), (1, 3), (2, 3), (3, 0), (4, 2), (5, 3)] (by kernel_rfl) ?hE (by kernel_rfl) ?_
    case hE =>
      rintro c a' w' hD ⟨n, hq, rfl, hF⟩
      obtain ⟨at1, at2⟩ := a'
      obtain rfl : at2 = [] := hD
      exact ⟨rfl, Outs.of_err hq hF⟩
    iterate 3 (refine MixP.mix_pure rfl (fun K hK => ?_); go_simp; (refine hK _ ?_; clear hK K))
    refine MixP.mix_load_row rfl rfl 61 (.tmp 4) rfl Q rfl _ C _ _ hQ1r Try.underlying61 rfl (by rw [hCsz]; kernel_rfl) ?_
    refine MixP.mix_sync rfl rfl (fun w8 hw8 K hK => ?_)
    have h8 := hI.later hw8
    go_wp2_with fail
    refine Calls.mono (HC.out _ h8) ?_
    intro e w2 hO
    cases hr : signR d cl q with
    | error k =>
      have HG := HGO.out
      rw [hr] at hO HG
      obtain ⟨rfl, hF⟩ := hO
      have hF2 := hbackF _ hF
      have HG2 := Lib.hid HG
      clear HG
      go_wp2_with fail
      exact ⟨rfl, k, HG2.out, rfl, hF2⟩
    | ok x =>
      obtain ⟨x, q1⟩ := x
      rw [hr] at hO
      obtain ⟨rfl, hI2⟩ := hO
      obtain ⟨hq1, hq1', hx⟩ := signR_le hr
      have HG := HGO.out
      simp only [hr] at HG
      have HG2 := Lib.hid HG
      clear HG HGO hr HC h8 hw8 hQ1r hI
      have hx1000 : x ≤ 1000 := by omega
      go_wp2_with fail
      iterate 1 (refine MixP.mix_pure rfl (fun K hK => ?_); go_simp; (refine hK _ ?_; clear hK K))
      refine MixP.mix_nil fun w3 hw3 => ?_
      have h3 := hI2.later hw3
      clear hI2 hw3
      by_cases hx256 : x < 256
      · have t1 : decide ((x : Int) < 256) = true := decide_eq_true (by omega)
        have C2 := putI_any hdT h3 (UInt8.ofNat x) (x : Int) (by simp; omega)
        have HG3 := Lib.hid (HG2.out.trans (if_pos hx256))
        clear HG2
        cases hr2 : putR most o (UInt8.ofNat x) with
        | error k =>
          have HC2 := Lib.hid (Outs.err C2 hr2)
          have HG := HG3.out
          simp only [hr2] at HG
          have HG4 := Lib.hid HG
          clear HG HG3 C2 hr2
          go_wp2_with fail
          refine HC2.out.mono ?_
          rintro e w4 ⟨rfl, hF⟩
          have hF2 := hbackF _ hF
          go_wp2_with fail
          exact ⟨rfl, Outs.of_err HG4.out hF2⟩
        | ok o2 =>
          have HC2 := Lib.hid (Outs.good C2 hr2)
          have HG := HG3.out
          simp only [hr2] at HG
          have HG4 := Lib.hid HG.symm
          clear HG HG3 C2 hr2
          go_wp2_with fail
          refine HC2.out.mono ?_
          rintro e w4 ⟨rfl, hI4⟩
          have hat4 := hI4.at1
          go_wp2_with fail
          go_roundw
          case rel => exact ⟨f, q1, o2, HG4.out, by omega, hq1', hI4⟩
          case measure => rw [hat, hat4]; simp [intOf]; omega
      · have t1 : decide ((x : Int) < 256) = false := decide_eq_false (by omega)
        have HG3 := Lib.hid (HG2.out.trans (if_neg hx256))
        clear HG2
        by_cases hx6 : x = 256
        · subst hx6
          have HG4 := Lib.hid (HG3.out.trans (if_pos rfl))
          have hI4 := hback _ _ _ h3
          go_wp2_with fail
          refine bodyPost_ret (results_none rfl _ _ _) rfl ?_
          exact Outs.of_ok HG4.out ⟨rfl, hI4⟩
        · have t2 : ((x : Int) == 256) = false := by rw [beq_eq_false_iff_ne]; omega
          have HG4 := Lib.hid (HG3.out.trans (if_neg hx6))
          have C2 := lengthI_any hdT h3 hq1' x (by omega) hx1000
          clear HG3
          cases hr2 : lenR d x q1 with
          | error k =>
            have HC2 := Lib.hid (Outs.err C2 hr2)
            have HG := HG4.out
            simp only [hr2] at HG
            have HG5 := Lib.hid HG
            clear HG HG4 C2 hr2
            go_wp2_with fail
            refine HC2.out.mono ?_
            rintro e w4 ⟨rfl, hF⟩
            have hF2 := hbackF _ hF
            go_wp2_with fail
            exact ⟨rfl, Outs.of_err HG5.out hF2⟩
          | ok x2 =>
            obtain ⟨n, q2⟩ := x2
            obtain ⟨hq2, hq2', hn⟩ := lenR_le hr2 hq1'
            have HC2 := Lib.hid (Outs.good C2 hr2)
            have HG := HG4.out
            simp only [hr2] at HG
            have HG5 := Lib.hid HG
            clear HG HG4 C2 hr2
            go_wp2_with fail
            refine HC2.out.mono ?_
            rintro e w4 ⟨rfl, hI4⟩
            have hQ2r : w4.heap[Q + 1]? = some (.cells D 61 (0, 0)) := (hI4.frame.keep (Q + 1) hTQ2).2.trans hQ2
            obtain ⟨ad, cd2, hds, -⟩ := hcdT.sl
            have hdc : w4.cell? ⟨Q + 1, 16, none⟩ = some (.slice ad (sgn cd).length cd2) := (cell_of_row w4 (Q + 1) 16 D _ _ hQ2r).trans hds
            by_cases hd0 : (sgn cd).length = 0
            · have HG6 := Lib.hid (HG5.out.trans (if_pos hd0))
              have t3 : (((sgn cd).length : Int) == 0) = true := by rw [beq_iff_eq]; omega
              have hF2 := hbackF _ hI4.frame
              clear HG5
              generalize (sgn cd).length = y at *
              go_wp2_with fail
              refine (fail_any 4 _ _ rfl).mono ?_
              rintro e w' ⟨rfl, rfl⟩
              go_wp2_with fail
              exact ⟨rfl, Outs.of_err HG6.out hF2⟩
            · have HG6 := Lib.hid (HG5.out.trans (if_neg hd0))
              have t3 : (((sgn cd).length : Int) == 0) = false := by rw [beq_eq_false_iff_ne]; omega
              have hD1 := hcdT.few
              clear HG5
              generalize (sgn cd).length = y at *
              go_wp2_with fail
              have HCs := Lib.hid (fun (w2 : World) (hI2 : InfS T w1 w2 P a cap d most q2 o) => sign_any2 hdT hI2 hq2' hcdT)
              refine MixP.wp_region_mix (D := []) (E := fun c w' => ∃ n, R = .error n ∧ c = thrown n ∧ FrameS S w0 w') [(0, 3), (1, 3), (2, 3), (3, 3), (4, 0), (5, 2), (6, 2), (7, 3)] (by kernel_rfl) ?hE2 (by kernel_rfl) ?_
              case hE2 =>
                rintro c a' w' hD ⟨n, hq, rfl, hF⟩
                obtain ⟨at1, at2⟩ := a'
                obtain rfl : at2 = [] := hD
                exact ⟨rfl, Outs.of_err hq hF⟩
              iterate 4 (refine MixP.mix_pure rfl (fun K hK => ?_); go_simp; (refine hK _ ?_; clear hK K))
              refine MixP.mix_load_row rfl rfl 61 (.tmp 5) rfl (Q + 1) rfl _ D _ _ hQ2r Try.underlying61 rfl (by rw [hDsz]; kernel_rfl) ?_
              refine MixP.mix_sync rfl rfl (fun w8 hw8 K hK => ?_)
              have h8 := hI4.later hw8
              go_wp2_with fail
              refine Calls.mono (HCs.out _ h8) ?_
              intro e w5 hO
              cases hr5 : signR d cd q2 with
              | error k =>
                have HG := HG6.out
                rw [hr5] at hO HG
                obtain ⟨rfl, hF⟩ := hO
                have hF2 := hbackF _ hF
                have HG7 := Lib.hid HG
                clear HG
                go_wp2_with fail
                exact ⟨rfl, k, HG7.out, rfl, hF2⟩
              | ok x5 =>
                obtain ⟨s2, q3⟩ := x5
                rw [hr5] at hO
                obtain ⟨rfl, hI5⟩ := hO
                obtain ⟨hq3, hq3', hs2⟩ := signR_le hr5
                have HG := HG6.out
                simp only [hr5] at HG
                have HG7 := Lib.hid HG
                have HCd := Lib.hid (fun (w2 : World) (hI2 : InfS T w1 w2 P a cap d most q3 o) => distanceI_any hdT hI2 hq3' s2 (by omega))
                clear HG HG6 hr5 HCs h8 hw8 hQ2r hI4
                go_wp2_with fail
                refine MixP.mix_sync rfl rfl (fun w8 hw8 K hK => ?_)
                have h8 := hI5.later hw8
                go_wp2_with fail
                refine Calls.mono (HCd.out _ h8) ?_
                intro e w6 hO
                cases hr6 : distR d s2 q3 with
                | error k =>
                  have HG := HG7.out
                  rw [hr6] at hO HG
                  obtain ⟨rfl, hF⟩ := hO
                  have hF2 := hbackF _ hF
                  have HG8 := Lib.hid HG
                  clear HG
                  go_wp2_with fail
                  exact ⟨rfl, k, HG8.out, rfl, hF2⟩
                | ok x6 =>
                  obtain ⟨bk, q4⟩ := x6
                  rw [hr6] at hO
                  obtain ⟨rfl, hI6⟩ := hO
                  obtain ⟨hq4, hq4', hbk, hbk1⟩ := distR_le hr6 hq3'
                  have HG := HG7.out
                  simp only [hr6] at HG
                  have HG8 := Lib.hid HG
                  clear HG HG7 hr6 HCd h8 hw8 hI5
                  go_wp2_with fail
                  iterate 1 (refine MixP.mix_pure rfl (fun K hK => ?_); go_simp; (refine hK _ ?_; clear hK K))
                  refine MixP.mix_nil fun w7 hw7 => ?_
                  have h7 := hI6.later hw7
                  clear hI6 hw7
                  obtain ⟨v7, h7v⟩ := id h7
                  have hl := h7v.few
                  obtain ⟨av, cv, hv, -⟩ := h7v.row.sl
                  have c2 := (four_cells h7v.blk).2.2.1
                  rw [hv] at c2
                  clear h7v hv
                  by_cases hob : o.length < bk
                  · have t4 : decide ((o.length : Int) < (bk : Int)) = true := decide_eq_true (by omega)
                    have t5 : decide (o.length < bk) = true := decide_eq_true (by omega)
                    have HG9 := Lib.hid (HG8.out.trans (if_pos hob))
                    have hF2 := hbackF _ h7.frame
                    clear HG8
                    go_wp2_with fail
                    refine (fail_any 4 _ _ rfl).mono ?_
                    rintro e w' ⟨rfl, rfl⟩
                    go_wp2_with fail
                    exact ⟨rfl, Outs.of_err HG9.out hF2⟩
                  · have t4 : decide ((o.length : Int) < (bk : Int)) = false := decide_eq_false (by omega)
                    have t5 : decide (o.length < bk) = false := decide_eq_false (by omega)
                    have HG9 := Lib.hid (HG8.out.trans (if_neg hob))
                    clear HG8
                    go_wp2_with fail
                    clear c2
                    obtain ⟨X, hX⟩ : ∃ X, X = copyGo most bk n o := ⟨_, rfl⟩
                    have HG10 := HG9.out
                    rw [← hX] at HG10
                    have HX := Lib.hid (And.intro HG10 hX)
                    clear HG10 hX HG9 t1 t2 t3 t4 t5 hdc hds
                    go_loopw [38] (fun i wr => ∃ (j : Nat) (o2 : List UInt8), i = .int .i64 (j : Int) ∧ j ≤ n ∧ bk ≤ o2.length ∧ copyGo most bk (n - j) o2 = X ∧ InfS T w1 wr P a cap d most q4 o2) (fun i _ => n - (intOf i).toNat)
                    case atStart => exact ⟨0, o, rfl, by omega, by omega, HX.out.2.symm, h7⟩
                    case round =>
                      clear h7
                      obtain ⟨j, o2, rfl, hj, hb2, hcg, h7⟩ := hrel
                      by_cases hjn : j < n
                      · have t1 : decide ((j : Int) < (n : Int)) = true := decide_eq_true (by omega)
                        rw [show n - j = (n - (j + 1)) + 1 from by omega, copyGo] at hcg
                        obtain ⟨v7, h7v⟩ := id h7
                        have hl := h7v.few
                        obtain ⟨av, cv, hv, hsl⟩ := h7v.row.sl
                        have hk : o2.length - bk < o2.length := by omega
                        obtain ⟨IK, -⟩ := hsl.at ((o2.length : Int) - (bk : Int)) (o2.length - bk) (by omega) hk
                        have hel : ∀ y : MixP.Later wr, y.1.cell? (elt av (o2.length - bk)) = some (.int .u8 (o2[o2.length - bk].toNat : Int)) := fun y => ((hsl.below y.2).at ((o2.length : Int) - (bk : Int)) (o2.length - bk) (by omega) hk).2
                        have hc2 : ∀ y : MixP.Later wr, y.1.cell? ⟨P, 2, none⟩ = some (.slice av o2.length cv) := fun y => by
                          have := (four_cells (block_below h7v.blk y.2)).2.2.1
                          rw [this, hv]
                        have hgd : o2.getD (o2.length - bk) 0 = o2[o2.length - bk] := by rw [List.getD_eq_getElem?_getD, List.getElem?_eq_getElem hk]; rfl
                        rw [hgd] at hcg
                        have HCG := Lib.hid hcg
                        have h8b := o2[o2.length - bk].toNat_lt
                        clear h7v hv hsl hcg hgd
                        generalize o2[o2.length - bk] = c at *
                        generalize o2.length - bk = k at *
                        have w1' : IntKind.i64.wrap ((o2.length : Int) - (bk : Int)) = (o2.length : Int) - (bk : Int) := IntWalk.i64_in _ (by omega)
                        have HP := Lib.hid (fun (w2 : World) (hI2 : InfS T w1 w2 P a cap d most q4 o2) => putI_any hdT hI2 c (c.toNat : Int) rfl)
                        generalize hol : o2.length = ol at *
                        go_wp2_with fail
                        refine MixP.wp_region_mix (D := []) (E := fun c w' => ∃ n, R = .error n ∧ c = thrown n ∧ FrameS S w0 w') [(0, 0), (1, 0), (2, 0), (3, 0), (4, 0), (5, 0), (6, 0), (7, 0), (8, 0), (9, 0), (10, 0), (11, 0), (12, 0), (13, 0), (14, 2)] (by kernel_rfl) ?hE3 (by kernel_rfl) ?_
                        case hE3 =>
                          rintro c a' w' hD ⟨n, hq, rfl, hF⟩
                          obtain ⟨at1, at2⟩ := a'
                          obtain rfl : at2 = [] := hD
                          exact ⟨rfl, Outs.of_err hq hF⟩
                        iterate 14 (refine MixP.mix_calm rfl (fun K hK => ?_); go_simp; (refine hK _ ?_; clear hK K))
                        refine MixP.mix_sync rfl rfl (fun w8 hw8 K hK => ?_)
                        have h8 := h7.later hw8
                        clear hel hc2 IK
                        go_wp2_with fail
                        refine Calls.mono (HP.out _ h8) ?_
                        intro e w9 hO
                        cases hr9 : putR most o2 c with
                        | error k =>
                          have hcg := HCG.out
                          rw [hr9] at hO hcg
                          obtain ⟨rfl, hF⟩ := hO
                          have hF2 := hbackF _ hF
                          have HG : R = .error k := by have h := HX.out.1; rw [← hcg] at h; exact h
                          have HG2 := Lib.hid HG
                          clear HG hcg
                          go_wp2_with fail
                          exact ⟨rfl, k, HG2.out, rfl, hF2⟩
                        | ok o3 =>
                          rw [hr9] at hO
                          obtain ⟨rfl, hI9⟩ := hO
                          have hcg := HCG.out
                          simp only [hr9] at hcg
                          have hl3 : bk ≤ o3.length := by rw [putR_ok hr9]; simp; omega
                          have HCG2 := Lib.hid hcg
                          clear hcg HCG hr9 HP h8 hw8 h7
                          go_wp2_with fail
                          refine MixP.mix_nil fun w10 hw10 => ?_
                          have hI10 := hI9.later hw10
                          clear hI9 hw10
                          go_wp2_with fail
                          go_roundw
                          case rel => exact ⟨j + 1, o3, by go_num, by omega, hl3, HCG2.out, hI10⟩
                          case measure => simp [intOf]; omega
                      · obtain rfl : j = n := by omega
                        have t1 : decide ((j : Int) < (j : Int)) = false := decide_eq_false (by omega)
                        rw [Nat.sub_self, copyGo] at hcg
                        have HG : R = signsR d most cl cd f q4 o2 := by have h := HX.out.1; rw [← hcg] at h; exact h
                        have HG2 := Lib.hid HG.symm
                        have hat4 := h7.at1
                        clear HG hcg
                        go_wp2_with fail
                        go_roundw
                        case rel => exact ⟨f, q4, o2, HG2.out, by omega, hq4', h7⟩
                        case measure => rw [hat, hat4]; simp [intOf]; omega

end
end Go.Proofs.Ytaapnjhkflpiiaa
