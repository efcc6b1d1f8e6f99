/-
  The document's Parse of marks: the walk.
-/
import Derived.Test.YtnlkanhakmkejaaParse24
namespace Go.Proofs.Ytnlkanhakmkejaa
open Go.RowKit Go.Mix Go.WideMaps Go.Proofs

theorem wpList_slice_at {P : Program} {ops : Array Oper} {rest : List Oper} {o : Oper} {a : Act} {w : World} {Q : Exit → Act → World → Prop} (hgd : o.guard = none)
    (ty : TypeId) (x : Operand) (lo hi mx : Option Operand) (hop : o.op = .slice ty x lo hi mx) (V : Value) (LO HI MX : Option Value) (v : Value) (hx : a.eval x = V) (h1 : lo.map a.eval = LO) (h2 : hi.map a.eval = HI) (h3 : mx.map a.eval = MX) (hl : (Instr.sliceAt ty V LO HI MX).run P w = .ok v w)
    (h : wpList P ops Q rest (a.put o.dst v) w) : wpList P ops Q (o :: rest) a w :=
  wpList_plain hgd fun _ hK => by
    unfold Oper.wp execOp
    simp only [hop, hx, h1, h2, h3, Sem.run_bind, Sem.run_pure, Result.andThen_ok, hl]
    exact hK _ _ h
theorem ext_mid (x : List UInt8) (i n : Nat) : (strOf x).extract i (i + n) = strOf ((x.drop i).take n) := by
  unfold strOf
  apply ByteArray.ext
  rw [ByteArray.data_extract]
  simp only [List.extract_toArray, List.extract_eq_take_drop]
  congr 2
  omega
theorem str_mid {k : TypeId} (hu : Try.prog.underlying k = some .string) (x : List UInt8) {i n : Nat} (I J : Int) (hI : I = (i : Int)) (hJ : J = ((i + n : Nat) : Int)) (hi : i + n ≤ x.length) (W : World) : (Instr.sliceAt k (.string (strOf x)) (some (.int .i64 I)) (some (.int .i64 J)) none).run Try.prog W = .ok (.string (strOf ((x.drop i).take n))) W := by
  subst hI hJ
  rw [run_sliceAt_string W k _ _ _ _ hu, run_slice_string W k _ .i64 .i64 (i : Int) ((i + n : Nat) : Int) hu (by omega) (by omega) (by rw [strOf_size]; omega), Int.toNat_natCast, Int.toNat_natCast, ext_mid]
theorem str_at {k : TypeId} (hu : Try.prog.underlying k = some .string) (x : List UInt8) {i : Nat} (I : Int) (hI : I = (i : Int)) {c : UInt8} (hc : x[i]? = some c) (W : World) : (Instr.index k (.string (strOf x)) (.int .i64 I)).run Try.prog W = .ok (.int .u8 (c.toNat : Int)) W := by
  subst hI
  obtain ⟨hi, rfl⟩ := List.getElem?_eq_some_iff.1 hc
  exact str_index hu (strOf x) (i := i) hi W
theorem ids_boxR {w : World} {B : Nat} {x : Id20} {t : TypeId} {fr : Nat × Nat} (h : w.heap[B]? = some (.cells (idA x) t fr)) : (Instr.loadAt 29 (.pointer (some ⟨B, 0, none⟩))).run Try.prog w = .ok (.agg (idA x)) w := by
  simp only [Instr.loadAt, Instr.sureAddr, Sem.run_bind, Sem.run_pure, Result.andThen_ok]
  exact run_loadVar_row _ _ t _ _ fr _ h Try.underlying29 rfl (by rw [show (idA x).size = 20 by simp [idA, idc_len]]; exact tyR.fi)

set_option maxRecDepth 100000 in
set_option maxHeartbeats 4000000 in
theorem refParse24_any (s : List UInt8) (hlen : s.length ≤ 1000000) (w : World) :
    Calls Try.prog 18 #[.string (strOf s)] w fun e w' => ∃ v, e = .returned (.tuple #[v, .int .i64 (parseO s).2]) ∧ OwnP 50 w w' v (parseO s).1 := by
  obtain ⟨n, hn⟩ : ∃ n, n = s.length := ⟨_, rfl⟩
  have HN := Lib.hid hn
  have hsz : (strOf s).size = n := by rw [strOf_size, hn]
  have hn1 : n ≤ 1000000 := by omega
  obtain ⟨Z, hZ⟩ : ∃ Z, Z = idA id0 := ⟨_, rfl⟩
  have z : ∀ w, (zeroValue 29).run Try.prog w = .ok (.agg Z) w := fun w => by rw [hZ]; kernel_rfl
  have HZ := Lib.hid hZ
  have SX := fun (i : Nat) (I : Int) (hI : I = (i : Int)) (c : UInt8) (hc : s[i]? = some c) (W : World) => str_at Try.underlying9 s I hI hc W
  have SM := fun (i n : Nat) (I J : Int) (hI : I = (i : Int)) (hJ : J = ((i + n : Nat) : Int)) (hi : i + n ≤ s.length) (W : World) => str_mid Try.underlying9 s I J hI hJ hi W
  obtain ⟨S, hS⟩ : ∃ S, S = strOf s := ⟨_, rfl⟩
  rw [← hS] at SX SM hsz ⊢
  have HSX := Lib.hid SX
  have HSM := Lib.hid SM
  have hF0 : Below w.heap.size w w := Below.refl _ _
  clear hn hZ hlen SX SM hS
  go_enter Try.func18, Try.ntmps18
  go_wp2_with fail
  go_loopw [4, 5] (fun s4 s5 wr => ∃ (acc : List Pr) (t : Nat), s5 = .int .i64 (t : Int) ∧ t = 82 * acc.length ∧ t ≤ n ∧ s = textL acc ++ s.drop t ∧ OwnP 50 w wr s4 acc) (fun _ s5 _ => n - (intOf s5).toNat)
  case atStart => exact ⟨[], 0, rfl, rfl, Nat.zero_le _, by simp [textL], OwnP.nil hF0⟩
  case round =>
    clear hF0
    obtain ⟨acc, t, rfl, hta, htn, hs, hrow⟩ := hrel
    have HS := Lib.hid hs
    have HTA := Lib.hid hta
    clear hs hta
    by_cases htl : t < n
    · have t1 : decide ((t : Int) < (n : Int)) = true := decide_eq_true (by omega)
      have t1' : decide (t < n) = true := decide_eq_true (by omega)
      have hdl : (s.drop t).length = n - t := by rw [List.length_drop, HN.out]
      have h0 : s.drop t ≠ [] := fun h => by rw [h] at hdl; simp at hdl; omega
      have HRL := Lib.hid (ref_line (s.drop t))
      have HROW := Lib.hid hrow
      have HDL := Lib.hid (And.intro hdl h0)
      clear hdl h0 hrow
      by_cases hc0 : n - t < 82
      · have u1 : decide ((n : Int) - (t : Int) < 82) = true := decide_eq_true (by omega)
        have hno : ∀ p r, s.drop t ≠ lineL p ++ r := by
          rcases HRL.out with ⟨p, r, hsp, q1, q2, q3, q4, q5, q6⟩ | ⟨hno, -⟩
          · exfalso
            have := HDL.out.1; omega
          · exact hno
        have hpo := parseO_bad HS.out HDL.out.2 hno
        have HPO := Lib.hid hpo
        clear hno hpo
        go_wp2_with (fail)
        go_ret2
        exact ⟨_, by rw [HPO.out]; rfl, by rw [HPO.out]; exact OwnP.nil HROW.out.frame⟩
      · have u1 : decide ((n : Int) - (t : Int) < 82) = false := decide_eq_false (by omega)
        have ex : ∀ k, k < 82 → ∃ c, s[t + k]? = some c ∧ (s.drop t)[k]? = some c := fun k hk => by
          have hl : t + k < s.length := by rw [← HN.out]; omega
          exact ⟨s[t + k], List.getElem?_eq_getElem hl, by rw [List.getElem?_drop]; exact List.getElem?_eq_getElem hl⟩
        obtain ⟨c40, d40, e40⟩ := ex 40 (by omega)
        obtain ⟨c81, d81, e81⟩ := ex 81 (by omega)
        have I1 := HSX.out (t + 40) ((t : Int) + 40) (by omega) c40 d40
        have I2 := HSX.out (t + 81) ((t : Int) + 81) (by omega) c81 d81
        have HE := Lib.hid (And.intro e40 e81)
        clear ex d40 d81 e40 e81
        by_cases k40 : c40 = 32
        · subst k40
          by_cases k81 : c81 = 10
          · subst k81
            have S1 := HSM.out t 40 (t : Int) ((t : Int) + 40) rfl (by omega) (by rw [← HN.out]; omega)
            have S2 := HSM.out (t + 41) 40 ((t : Int) + 41) ((t : Int) + 81) (by omega) (by omega) (by rw [← HN.out]; omega)
            have C7 := fun W => refParse_any (strOf ((s.drop t).take 40)) W
            change ∀ W, Calls _ _ _ W (fun e w' => e = .returned (.tuple #[.agg (idA (shaX ((s.drop t).take 40))), .bool (unhex ((s.drop t).take 40)).isSome]) ∧ Below W.heap.size W w') at C7
            have C8 := fun W => refParse_any (strOf ((s.drop (t + 41)).take 40)) W
            change ∀ W, Calls _ _ _ W (fun e w' => e = .returned (.tuple #[.agg (idA (shaX ((s.drop (t + 41)).take 40))), .bool (unhex ((s.drop (t + 41)).take 40)).isSome]) ∧ Below W.heap.size W w') at C8
            have edd : (s.drop t).drop 41 = s.drop (t + 41) := by rw [List.drop_drop]
            obtain ⟨g, hg⟩ : ∃ x, x = (s.drop t).take 40 := ⟨_, rfl⟩
            obtain ⟨h, hh⟩ : ∃ x, x = (s.drop (t + 41)).take 40 := ⟨_, rfl⟩
            rw [← hg] at S1 C7
            rw [← hh] at S2 C8
            obtain ⟨xg, hxg⟩ : ∃ x, x = shaX g := ⟨_, rfl⟩
            obtain ⟨xh, hxh⟩ : ∃ x, x = shaX h := ⟨_, rfl⟩
            obtain ⟨bg, hbg⟩ : ∃ x, x = (unhex g).isSome := ⟨_, rfl⟩
            obtain ⟨bh, hbh⟩ : ∃ x, x = (unhex h).isSome := ⟨_, rfl⟩
            rw [← hxg, ← hbg] at C7
            rw [← hxh, ← hbh] at C8
            have HX := Lib.hid (And.intro (And.intro hg hh) (And.intro (And.intro hxg hxh) (And.intro (And.intro hbg hbh) edd)))
            clear hg hh hxg hxh hbg hbh edd
            generalize strOf g = GS at *
            generalize strOf h = HSt at *
            go_upto_region 7 with (first | (refine wpList_unguard rfl (wpList_index_at rfl _ _ _ rfl _ _ _ rfl rfl (I1 _) ?_)) | (refine wpList_unguard rfl (wpList_index_at rfl _ _ _ rfl _ _ _ rfl rfl (I2 _) ?_)))
            go_wp2_with (first | (refine wpList_slice_at rfl _ _ _ _ _ rfl _ _ _ _ _ rfl rfl rfl rfl (S1 _) ?_))
            refine (C7 _).mono ?_
            rintro e w6 ⟨rfl, hb6⟩
            have HB6 : Hid (Below wr.heap.size wr w6) := Lib.hid hb6
            clear C7 hb6 I1 I2 S1
            have hz7 : (w6.alloc (.cells Z 29)).heap[w6.heap.size]? = some (.cells Z 29 (0, 0)) := heap_alloc_last _ _ _ rfl
            have hg7 : Below w6.heap.size w6 ((w6.alloc (.cells Z 29)).setRow w6.heap.size (idA xg)) := below_setRow ((Below.refl _ _).alloc (Nat.le_refl _) _) (Nat.le_refl _) _
            have hk7 : ((w6.alloc (.cells Z 29)).setRow w6.heap.size (idA xg)).heap[w6.heap.size]? = some (.cells (idA xg) 29 (0, 0)) := setRow_heap _ _ _ _ _ _ hz7
            have zs : Z.size = (idA xg).size := by rw [HZ.out]; simp [idA, idc_len]
            have zi : (Try.prog.info? 29).map (·.size) = some (idA xg).size := by rw [show (idA xg).size = 20 by simp [idA, idc_len]]; exact tyR.fi
            have z1 : (idA xg).all (·.oneCell') = true := all_oneCell_toArray (bcells_one _)
            have HG7 := Lib.hid (And.intro hg7 hk7)
            clear hg7 hk7
            go_upto_region 8 with (refine wpList_store_row rfl 29 _ _ rfl w6.heap.size (idA xg) rfl rfl 29 Z hz7 zi zs z1 ?_)
            have hg7 := HG7.out.1
            have hk7 := HG7.out.2
            clear HG7 zs zi z1 hz7
            generalize (w6.alloc (.cells Z 29)).setRow w6.heap.size (idA xg) = w7 at *
            have HB7 := Lib.hid (And.intro (HB6.out.trans (hg7.mono HB6.out.size)) hk7)
            clear hg7 hk7
            go_wp2_with (first | (refine wpList_slice_at rfl _ _ _ _ _ rfl _ _ _ _ _ rfl rfl rfl rfl (S2 _) ?_))
            refine (C8 _).mono ?_
            rintro e w8 ⟨rfl, hb8⟩
            have HB8 := Lib.hid (And.intro (HB7.out.1.trans (hb8.mono HB7.out.1.size)) (block_below HB7.out.2 hb8))
            clear C8 hb8 S2
            have hz9 : (w8.alloc (.cells Z 29)).heap[w8.heap.size]? = some (.cells Z 29 (0, 0)) := heap_alloc_last _ _ _ rfl
            have hg9 : Below w8.heap.size w8 ((w8.alloc (.cells Z 29)).setRow w8.heap.size (idA xh)) := below_setRow ((Below.refl _ _).alloc (Nat.le_refl _) _) (Nat.le_refl _) _
            have hk9 : ((w8.alloc (.cells Z 29)).setRow w8.heap.size (idA xh)).heap[w8.heap.size]? = some (.cells (idA xh) 29 (0, 0)) := setRow_heap _ _ _ _ _ _ hz9
            have zs : Z.size = (idA xh).size := by rw [HZ.out]; simp [idA, idc_len]
            have zi : (Try.prog.info? 29).map (·.size) = some (idA xh).size := by rw [show (idA xh).size = 20 by simp [idA, idc_len]]; exact tyR.fi
            have z1 : (idA xh).all (·.oneCell') = true := all_oneCell_toArray (bcells_one _)
            have HG9 := Lib.hid (And.intro hg9 hk9)
            clear hg9 hk9
            go_upto_region 9 with (refine wpList_store_row rfl 29 _ _ rfl w8.heap.size (idA xh) rfl rfl 29 Z hz9 zi zs z1 ?_)
            have hg9 := HG9.out.1
            have hk9 := HG9.out.2
            clear HG9 zs zi z1 hz9
            generalize (w8.alloc (.cells Z 29)).setRow w8.heap.size (idA xh) = w9 at *
            have HB9 := Lib.hid (And.intro (HB8.out.1.trans (hg9.mono HB8.out.1.size)) (And.intro (block_below HB8.out.2 hg9) hk9))
            have HR := Lib.hid (HROW.out.later HB9.out.1)
            clear hg9 hk9
            obtain ⟨X12, hX12⟩ : ∃ X, X = w6.heap.size := ⟨_, rfl⟩
            obtain ⟨X14, hX14⟩ : ∃ X, X = w8.heap.size := ⟨_, rfl⟩
            have HXX := Lib.hid (And.intro hX12 hX14)
            rw [← hX12, ← hX14]
            clear hX12 hX14
            cases bg
            · have hno : ∀ p r, s.drop t ≠ lineL p ++ r := by
                rcases HRL.out with ⟨p, r, hsp, q1, q2, q3, q4, q5, q6⟩ | ⟨hno, -⟩
                · exfalso
                  rw [← HX.out.1.1] at q4; have := HX.out.2.2.1.1; rw [q4] at this; cases this
                · exact hno
              have hpo := parseO_bad HS.out HDL.out.2 hno
              have HPO := Lib.hid hpo
              clear hno hpo
              go_wp2_with (fail)
              go_ret2
              exact ⟨_, by rw [HPO.out]; rfl, by rw [HPO.out]; exact OwnP.nil HR.out.frame⟩
            · cases bh
              · have hno : ∀ p r, s.drop t ≠ lineL p ++ r := by
                  rcases HRL.out with ⟨p, r, hsp, q1, q2, q3, q4, q5, q6⟩ | ⟨hno, -⟩
                  · exfalso
                    rw [HX.out.2.2.2, ← HX.out.1.2] at q5; have := HX.out.2.2.1.2; rw [q5] at this; cases this
                  · exact hno
                have hpo := parseO_bad HS.out HDL.out.2 hno
                have HPO := Lib.hid hpo
                clear hno hpo
                go_wp2_with (fail)
                go_ret2
                exact ⟨_, by rw [HPO.out]; rfl, by rw [HPO.out]; exact OwnP.nil HR.out.frame⟩
              · rcases HRL.out with ⟨p, r, hsp, -, -, -, k3, k4, k5⟩ | ⟨hno, hbad⟩
                · rw [HX.out.2.2.2, ← HX.out.1.2] at k4
                  rw [← HX.out.1.1] at k3
                  obtain ⟨m1, -⟩ := sha_some k3
                  obtain ⟨m3, -⟩ := sha_some k4
                  rw [← HX.out.2.1.1] at m1
                  rw [← HX.out.2.1.2] at m3
                  subst m1 m3
                  have HSP := Lib.hid (And.intro hsp k5)
                  have L12 := ids_boxR HB9.out.2.1
                  have L14 := ids_boxR HB9.out.2.2
                  rw [← HXX.out.1] at L12
                  rw [← HXX.out.2] at L14
                  have B := fun W : World => tyR.build p.1 p.2 W
                  have B1 := tyR.one p w9
                  have hrow9 := HR.out.later ((Below.refl _ _).alloc (Nat.le_refl _) (.cells (encA p) 50))
                  have hp9 := PsAt.one w9 50 p
                  clear k3 k4 hsp k5
                  go_wp2_with (first | (refine wpList_load_at rfl _ _ rfl _ _ rfl L12 ?_) | (refine wpList_load_at rfl _ _ rfl _ _ rfl L14 ?_) | (refine wpList_build_at rfl _ _ rfl [(0, .agg (idA p.1)), (1, .agg (idA p.2))] _ rfl (B _) ?_) | (refine wpList_buildSlice_at rfl _ _ _ rfl [(0, .agg (encA p))] _ rfl B1 ?_) | (refine wpList_append_p tyR rfl (.tmp 60) (.tmp 64) rfl _ acc rfl hrow9 (some ⟨w9.heap.size, 0, none⟩) 1 1 [p] rfl rfl hp9 (by have := HTA.out; simp; omega) ?_; intro v11 w11 hrow11 hgr11 hgn11; clear hgr11 hgn11 hrow9 hp9 B B1 L12 L14))
                  go_roundw
                  case rel =>
                    refine ⟨acc ++ [p], t + 82, by go_num, by rw [List.length_append, HTA.out]; simp; omega, by omega, ?_, hrow11⟩
                    have e1 : s.drop (t + 82) = r := by rw [← List.drop_drop]; exact HSP.out.2
                    rw [e1, textL_app, List.append_assoc]
                    refine HS.out.trans ?_
                    rw [HSP.out.1]; simp [textL]
                  case measure => simp [intOf]; omega
                · exfalso
                  rcases hbad with hh | hh | hh | hh | hh
                  · have := HDL.out.1; omega
                  · exact hh HE.out.1
                  · exact hh HE.out.2
                  · rw [← HX.out.1.1] at hh
                    have := HX.out.2.2.1.1
                    rw [hh] at this; cases this
                  · rw [HX.out.2.2.2, ← HX.out.1.2] at hh
                    have := HX.out.2.2.1.2
                    rw [hh] at this; cases this
          · have n2 : ((c81.toNat : Int) != 10) = true := by
              rw [bne_iff_ne]; intro h; exact k81 (UInt8.toNat_inj.1 (by change c81.toNat = 10; omega))
            have n2' : (c81.toNat != 10) = true := by
              rw [bne_iff_ne]; intro h; exact k81 (UInt8.toNat_inj.1 (by change c81.toNat = 10; omega))
            have hno : ∀ p r, s.drop t ≠ lineL p ++ r := by
              rcases HRL.out with ⟨p, r, hsp, q1, q2, q3, q4, q5, q6⟩ | ⟨hno, -⟩
              · exfalso
                exact k81 (by have := HE.out.2; rw [q3] at this; injection this with this; exact this.symm)
              · exact hno
            have hpo := parseO_bad HS.out HDL.out.2 hno
            have HPO := Lib.hid hpo
            clear hno hpo
            go_wp2_with (first | (refine wpList_unguard rfl (wpList_index_at rfl _ _ _ rfl _ _ _ rfl rfl (I1 _) ?_)) | (refine wpList_unguard rfl (wpList_index_at rfl _ _ _ rfl _ _ _ rfl rfl (I2 _) ?_)))
            go_ret2
            exact ⟨_, by rw [HPO.out]; rfl, by rw [HPO.out]; exact OwnP.nil HROW.out.frame⟩
        · have n1 : ((c40.toNat : Int) != 32) = true := by
            rw [bne_iff_ne]; intro h; exact k40 (UInt8.toNat_inj.1 (by change c40.toNat = 32; omega))
          have n1' : (c40.toNat != 32) = true := by
            rw [bne_iff_ne]; intro h; exact k40 (UInt8.toNat_inj.1 (by change c40.toNat = 32; omega))
          have hno : ∀ p r, s.drop t ≠ lineL p ++ r := by
            rcases HRL.out with ⟨p, r, hsp, q1, q2, q3, q4, q5, q6⟩ | ⟨hno, -⟩
            · exfalso
              exact k40 (by have := HE.out.1; rw [q2] at this; injection this with this; exact this.symm)
            · exact hno
          have hpo := parseO_bad HS.out HDL.out.2 hno
          have HPO := Lib.hid hpo
          clear hno hpo
          go_wp2_with (first | (refine wpList_unguard rfl (wpList_index_at rfl _ _ _ rfl _ _ _ rfl rfl (I1 _) ?_)))
          go_ret2
          exact ⟨_, by rw [HPO.out]; rfl, by rw [HPO.out]; exact OwnP.nil HROW.out.frame⟩
    · obtain rfl : t = n := by omega
      have t1 : decide ((t : Int) < (t : Int)) = false := decide_eq_false (by omega)
      have t1' : decide (t < t) = false := decide_eq_false (by omega)
      have hss : s = textL acc := by have := HS.out; rw [List.drop_of_length_le (by rw [← HN.out]; exact Nat.le_refl _), List.append_nil] at this; exact this
      obtain ⟨p1, p2⟩ := parseO_text hss
      obtain ⟨ac, cc, rfl, hpa⟩ := hrow.ps
      have C12 := refRight_any hpa
      have HP := Lib.hid (And.intro p1 p2)
      have HROW := Lib.hid hrow
      clear hss p1 p2 hrow hpa
      obtain ⟨k, hk⟩ : ∃ k, k = acc.length := ⟨_, rfl⟩
      have HK := Lib.hid hk
      rw [← hk] at C12 ⊢
      clear hk
      go_wp2_with fail
      refine C12.mono ?_
      rintro e w3 ⟨r, rfl, hr, hb3⟩
      have HR := Lib.hid (And.intro hr hb3)
      clear C12 hr hb3
      cases r
      · have hno : ¬ Rt acc := fun h => by have := HR.out.1.2 h; cases this
        have hpo := HP.out.2 hno
        have HPO := Lib.hid hpo
        clear hpo hno
        go_wp2_with fail
        go_ret2
        exact ⟨_, by rw [HPO.out]; rfl, by rw [HPO.out]; exact OwnP.nil (HROW.out.frame.trans (HR.out.2.mono HROW.out.frame.size))⟩
      · have hpo := HP.out.1 (HR.out.1.1 rfl)
        have HPO := Lib.hid hpo
        clear hpo
        go_wp2_with fail
        go_ret2
        exact ⟨_, by rw [HPO.out]; rfl, by rw [HPO.out, HK.out]; exact HROW.out.later HR.out.2⟩
end Go.Proofs.Ytnlkanhakmkejaa
