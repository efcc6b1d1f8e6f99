/-
  The document's told: the walk.
-/
import Derived.Test.YtaapnjhkflpiiaaRefU
namespace Go.Proofs.Ytaapnjhkflpiiaa
open Go.RowKit Go.Mix

section
variable {S : Nat → Prop} {w0 w w' : World} {P : Nat} {a : Option Addr} {cap : Nat} {d : List UInt8} {most : Int} {p : Nat} {out : List UInt8} {bad : Nat}

/-- A store into another block, that is not of bytes. -/
theorem RefS.set_other (h : RefS S w0 w P a cap d most p out bad) {g : Nat} {C : Array Value} {t : TypeId} {fr : Nat × Nat} (hg : w.heap[g]? = some (.cells C t fr)) (ht : t ≠ 5) (hgP : g ≠ P) (hgS : ¬ S g) (k : Nat) (u : Value) :
    RefS S w0 (w.setCell ⟨g, k, none⟩ u) P a cap d most p out bad := by
  obtain ⟨v, h⟩ := h
  exact ⟨v, (Below.heap_setCell _ _ _ _ (fun e => hgP e.symm)).trans h.blk, h.row.set_other (p := ⟨g, k, none⟩) (h.row.other hg ht) hgS u, h.off, h.few, h.le, h.badLe⟩

/-- A number, and what else is kept. -/
theorem refNumber_hold (hd : Fits S w0 a cap d most) (h : RefS S w0 w P a cap d most p out bad) (n : Nat) (ni : Int) (hni : ni = (n : Int)) (hn : n ≤ 16) :
    Calls Try.prog 43 #[.pointer (some ⟨P, 0, none⟩), .int .i64 ni] w fun e w' =>
      e = .returned (.int .i64 ((numN d p bad n).1 : Nat)) ∧ RefS S w0 w' P a cap d most (numN d p bad n).2.1 out (numN d p bad n).2.2 ∧
        (∃ T : Nat → Prop, (∀ k C t fr, w.heap[k]? = some (.cells C t fr) → k ≠ P → t ≠ 5 → T k) ∧ FrameS T w w') := by
  obtain ⟨T, hST, hI, hTall, -, hback⟩ := h.holdNew (Below.refl _ _)
  refine Calls.mono (refNumber_any (hd.hold h.frame hST) hI n ni hni hn) ?_
  rintro e w2 ⟨rfl, h2⟩
  exact ⟨rfl, hback _ _ _ _ h2, T, hTall, h2.frame⟩

theorem refStop_hold (h : RefS S w0 w P a cap d most p out bad) (e : Nat) (ei : Int) (hei : ei = (e : Int)) (he : e ≤ 100) :
    Calls Try.prog 44 #[.pointer (some ⟨P, 0, none⟩), .int .i64 ei] w fun en w' => en = .returned (.tuple #[]) ∧ RefS S w0 w' P a cap d most p out (stopN bad e) ∧
        (∃ T : Nat → Prop, (∀ k C t fr, w.heap[k]? = some (.cells C t fr) → k ≠ P → t ≠ 5 → T k) ∧ FrameS T w w') := by
  obtain ⟨T, hST, hI, hTall, -, hback⟩ := h.holdNew (Below.refl _ _)
  refine Calls.mono (stop_any hI e ei hei he) ?_
  rintro e w2 ⟨rfl, h2⟩
  exact ⟨rfl, hback _ _ _ _ h2, T, hTall, h2.frame⟩

set_option maxRecDepth 100000 in
set_option maxHeartbeats 4000000 in
theorem refTold_any (hd : Fits S w0 a cap d most) (h : RefS S w0 w P a cap d most p out 0) :
    Calls Try.prog 47 #[.pointer (some ⟨P, 0, none⟩)] w fun e w' => e = .returned (.tuple #[]) ∧
      RefOut S w0 w' P a cap d most (match toldR d p with
        | .error e => .error e
        | .ok (cl, cd, p') => signsR d most cl cd (8 * d.length + 1) p' out) := by
  have hsz := hd.small
  have hpl : p ≤ 8 * d.length := by obtain ⟨_, h⟩ := h; exact h.le
  obtain ⟨R, hR⟩ : ∃ R, R = (match toldR d p with
        | .error e => .error e
        | .ok (cl, cd, p') => signsR d most cl cd (8 * d.length + 1) p' out : Except Nat (Nat × List UInt8)) := ⟨_, rfl⟩
  rw [← hR]
  have HD := Lib.hid (toldN_dead d p hpl)
  have HR := Lib.hid hR
  have C1 := refNumber_any hd h 5 5 rfl (by decide)
  have hx := numN_lt d p 0 5
  have hSw : ∀ k, S k → k < w.heap.size := fun k hk => h.frame.lt hk
  have hPlt : P < w.heap.size := by obtain ⟨v, h⟩ := h; exact lt_of_block h.blk
  clear hR hsz
  generalize hA : numN d p 0 5 = A at *
  obtain ⟨x, q1, b1⟩ := A
  simp only at C1 hx
  have hx32 : x < 32 := hx
  have HA := Lib.hid hA
  clear hA hx h
  go_enter Try.func47, Try.ntmps47
  go_wp2_with fail
  refine C1.mono ?_
  rintro e w1 ⟨rfl, h1⟩
  clear C1
  go_upto_if 19 with (fail)
  go_cut [2] from 16 to 183 (fun s2 wc => s2 = .int .i64 (x : Int) ∧ RefS S w0 wc P a cap d most q1 out (over x b1))
  case first =>
    refine wp_cond_split rfl (fun h => ?_) (fun h => ?_)
    · have hov := Lib.hid (show over x b1 = stopN b1 4 by have := of_decide_eq_true h; unfold over; rw [if_pos (by omega)])
      clear h
      go_wp2_with fail
      refine (stop_any h1 4 4 rfl (by decide)).mono ?_
      rintro e w2 ⟨rfl, h2⟩
      go_wp2_with fail
      go_meet
      case rel => exact ⟨rfl, by rw [hov.out]; exact h2⟩
    · have hov := Lib.hid (show over x b1 = b1 by have := of_decide_eq_false h; unfold over; rw [if_neg (by omega)])
      clear h
      go_wp2_with fail
      go_meet
      case rel => exact ⟨rfl, by rw [hov.out]; exact h1⟩
  case rest =>
    clear h1
    obtain ⟨rfl, h2⟩ := hcut
    have C2 := refNumber_any hd h2 5 5 rfl (by decide)
    have hy := numN_lt d q1 (over x b1) 5
    generalize hB : numN d q1 (over x b1) 5 = B at *
    obtain ⟨y, q2, b2⟩ := B
    simp only at C2 hy
    have hy32 : y < 32 := hy
    have HB := Lib.hid hB
    clear hB hy h2
    go_wp2_with fail
    refine C2.mono ?_
    rintro e w2 ⟨rfl, h3⟩
    clear C2
    go_upto_if 25 with (fail)
    go_cut [3] from 16 to 183 (fun s3 wc => s3 = .int .i64 (y : Int) ∧ RefS S w0 wc P a cap d most q2 out (over y b2))
    case first =>
      refine wp_cond_split rfl (fun h => ?_) (fun h => ?_)
      · have hov := Lib.hid (show over y b2 = stopN b2 4 by have := of_decide_eq_true h; unfold over; rw [if_pos (by omega)])
        clear h
        go_wp2_with fail
        refine (stop_any h3 4 4 rfl (by decide)).mono ?_
        rintro e w2 ⟨rfl, h2⟩
        go_wp2_with fail
        go_meet
        case rel => exact ⟨rfl, by rw [hov.out]; exact h2⟩
      · have hov := Lib.hid (show over y b2 = b2 by have := of_decide_eq_false h; unfold over; rw [if_neg (by omega)])
        clear h
        go_wp2_with fail
        go_meet
        case rel => exact ⟨rfl, by rw [hov.out]; exact h3⟩
    case rest =>
      clear h3
      obtain ⟨rfl, h4⟩ := hcut
      have C3 := refNumber_any hd h4 4 4 rfl (by decide)
      have hz := numN_lt d q2 (over y b2) 4
      generalize hC : numN d q2 (over y b2) 4 = C at *
      obtain ⟨z, q3, b3⟩ := C
      simp only at C3 hz
      have hz16 : z < 16 := hz
      have HC := Lib.hid hC
      clear hC hz h4
      go_wp2_with fail
      refine C3.mono ?_
      rintro e w3 ⟨rfl, h5⟩
      clear C3
      have hF5 : FrameS S w0 w3 := h5.frame
      go_upto_region 8 with (at_make; refine wpList_make_row (S := (· < w3.heap.size)) (w0 := w3) elemInt rfl rfl _ _ rfl .i64 .i64 _ _ 19 rfl rfl rfl rfl (by omega) (by omega) (FrameS.refl fun k hk => hk) ?_; intro w4 hrow4 hgr4)
      have g34 : Below w3.heap.size w3 w4 := hrow4.frame.toBelow (fun k hk => hk)
      have h6 := h5.later g34
      have hle34 := g34.size
      have hWlt := hrow4.lt w3.heap.size rfl
      have hrowF : Row (fun _ => False) 3 w4 w4 (.slice (some ⟨w3.heap.size, 0, none⟩) 19 19) (icells (List.replicate 19 0)) := by
        have e : List.replicate 19 (Value.int .i64 0) = icells (List.replicate 19 0) := rfl
        rw [← e]
        exact hrow4.rebase (FrameS.refl fun k hk => hk.elim) (fun g _ h => h)
      have hsz3 : w0.heap.size ≤ w3.heap.size := hF5.size
      have hSW : ∀ k, S k → k < w3.heap.size := fun k hk => hF5.lt hk
      have hPW : P < w3.heap.size := by obtain ⟨v, h⟩ := h5; exact lt_of_block h.blk
      have h7 := h6.later ((Below.refl _ _).alloc (Nat.le_refl _) (.cells ordC 3))
      have hrow7 := hrowF.later ((Below.refl _ _).alloc (Nat.le_refl _) (.cells ordC 3))
      have hO7 : (w4.alloc (.cells ordC 3)).heap[w4.heap.size]? = some (.cells ordC 3 (0, 0)) := heap_alloc_last _ _ _ rfl
      clear hrow4 hgr4 g34 h5 hF5 h6 hrowF
      go_upto_region 9 with (fail)
      generalize hWW : w3.heap.size = W at *
      generalize hOO : w4.heap.size = O at *
      generalize w4.alloc (.cells ordC 3) = w5 at *
      clear hWW hOO hsz3
      obtain ⟨ON, hON⟩ : ∃ ON, ON = ownN d (z + 4) order19 q3 b3 (List.replicate 19 0) := ⟨_, rfl⟩
      have HON := Lib.hid hON
      clear hON
      go_wp2_with fail
      go_loopw [7] (fun s7 wr => ∃ (j : Nat) (own : List Nat) (q b : Nat), s7 = .int .i64 (j : Int) ∧ j ≤ z + 4 ∧ ownN d (z + 4 - j) (order19.drop j) q b own = ON ∧ own.length = 19 ∧ (∀ i, own.getD i 0 ≤ 7) ∧ RefS S w0 wr P a cap d most q out b ∧
        Row (fun _ => False) 3 w4 wr (.slice (some ⟨W, 0, none⟩) 19 19) (icells own) ∧ wr.heap[O]? = some (.cells ordC 3 (0, 0))) (fun s7 _ => z + 4 - (intOf s7).toNat)
      case atStart =>
        refine ⟨0, List.replicate 19 0, q3, b3, rfl, by omega, HON.out.symm, rfl, fun i => ?_, h7, hrow7, hO7⟩
        rw [List.getD_eq_getElem?_getD, List.getElem?_replicate]
        split <;> simp
      case round =>
        clear h7 hrow7 hO7
        obtain ⟨j, own, q, b, rfl, hj, hon, hol, ho7, hI, hrow, hO⟩ := hrel
        by_cases hjz : j < z + 4
        · have t1 : decide ((j : Int) < (z : Int) + 4) = true := decide_eq_true (by omega)
          have hj19 : j < 19 := by omega
          obtain ⟨IKO, -⟩ := ints_at (l := order19) (order_cells hO 19) 19 (by decide) (j : Int) j rfl hj19
          have hel : ∀ y : MixT.Later (fun k => k = O) wr, y.1.cell? (elt (some ⟨O, 0, none⟩) j) = some (.int .i64 (order19.getD j 0 : Nat)) := fun y => by
            have hO2 : y.1.heap[O]? = some (.cells ordC 3 (0, 0)) := (y.2.keep O rfl (lt_of_block hO)).trans hO
            exact (ints_at (l := order19) (order_cells hO2 19) 19 (by decide) (j : Int) j rfl hj19).2
          have hkn := order_lt j hj19
          have IKW : ∀ k : Nat, k < 19 → ∀ W' : World, (Instr.indexAt 37 (.slice (some ⟨W, 0, none⟩) 19 19) (.int .i64 (k : Int))).run Try.prog W' = .ok (.pointer (some ⟨W, k, none⟩)) W' := by
            intro k hk W'
            obtain ⟨a9, c9, e9, hc9, h9⟩ := hrow.slice
            rw [icells_length, hol] at e9
            injection e9 with e9 e9' e9''
            subst e9
            have := run_index_any (P := Try.prog) hc9 37 Try.underlying37 sizeOf_int 19 (n := 19) hk (by rw [icells_length, hol]; exact Nat.le_refl _) .i64 W'
            rw [elt_own] at this
            exact this
          have IKx := IKW _ hkn
          have HCN := Lib.hid (fun (w2 : World) (h2 : RefS S w0 w2 P a cap d most q out b) => refNumber_hold hd h2 3 3 rfl (by decide))
          have hon2 : ownN d (z + 4 - (j + 1)) (order19.drop (j + 1)) (numN d q b 3).2.1 (numN d q b 3).2.2 (own.set (order19.getD j 0) (numN d q b 3).1) = ON := by
            rw [show z + 4 - j = (z + 4 - (j + 1)) + 1 by omega, ownN, List.drop_drop, drop_getD] at hon
            exact hon
          have hnl := numN_lt d q b 3
          have hl19 : order19.length = 19 := rfl
          rw [hl19] at IKO
          clear hon hl19 IKW
          generalize numN d q b 3 = N3 at *
          obtain ⟨nv, q', b'⟩ := N3
          simp only at hnl hon2
          have hnv8 : nv < 8 := hnl
          generalize order19.getD j 0 = ko at *
          have HON2 := Lib.hid hon2
          have HOL := Lib.hid hol
          have HO7 := Lib.hid ho7
          clear hnl hon2 hol ho7
          go_upto_region 12 with (fail)
          refine MixT.wp_region_mix (N := fun k => k = O) (D := []) (E := fun _ _ => False) [(0, 0), (1, 0), (2, 0), (3, 0), (4, 0), (5, 0), (6, 1), (7, 0), (8, 2)] (by kernel_rfl) ?hE (by kernel_rfl) ?_
          case hE =>
            rintro c a' w' hD h
            exact h.elim
          iterate 6 (refine MixT.mix_calm rfl (fun K hK => ?_); go_simp; (refine hK _ ?_; clear hK K))
          refine MixT.mix_loud rfl rfl (fun w8 hw8 KK hKK => ?_)
          have h8 := hI.later hw8
          have hrow8 := hrow.later hw8
          have hO8 := block_below hO hw8
          clear hel IKO hI hrow hO
          go_wp2_with fail
          refine Calls.mono (HCN.out _ h8) ?_
          rintro e w9 ⟨rfl, hI9, T, hTT, hF9⟩
          have hTO : T O := hTT O ordC _ _ hO8 (by omega) (by decide)
          have hO9 := (hF9.keep O hTO).2.trans hO8
          have hrow9 := hrow8.moved hF9 (fun g hg => by
            obtain ⟨C, hC⟩ := hrow8.held g hg
            refine hTT g C _ _ hC ?_ (by decide)
            have hWg : W = g := by simpa [Value.ownBlock] using hg
            omega) (fun k hk => hk.elim)
          have hGr : MixT.Grow (fun k => k = O) w8 w9 := ⟨hF9.os, hF9.tape, hF9.output, hF9.size, fun k hk _ => by subst hk; exact (hF9.keep k hTO).2⟩
          clear h8 hrow8 hO8 hTT hF9 hTO HCN
          go_wp2_with fail
          refine hKK _ _ hGr ?_
          clear hKK KK hGr hw8
          iterate 1 (refine MixT.mix_calm rfl (fun K hK => ?_); go_simp; (refine hK _ ?_; clear hK K))
          refine MixT.mix_sync rfl rfl (fun w10 hw10 K hK => ?_)
          have h10 := hI9.later hw10
          have hrow10 := hrow9.later hw10
          have hO10 := block_below hO9 hw10
          have hfz := hrow10.free ko
          obtain ⟨vo, hvo⟩ : ∃ vo, w10.cell? ⟨W, ko, none⟩ = some vo := by
            obtain ⟨a9, c9, e9, hc9, h9⟩ := hrow10.slice
            injection e9 with e9 e9' _
            subst e9
            have := hc9.2 ko (by rw [icells_length, HOL.out]; exact hkn)
            rw [elt_own] at this
            exact ⟨_, this⟩
          obtain ⟨hrow11, -⟩ := hrow10.stored ko (.int .i64 (nv : Int))
          obtain ⟨CW, hCW⟩ := hrow10.held W rfl
          have h11 := h10.set_other hCW (by decide) (by omega) (fun h => by have := hSW W h; omega) ko (.int .i64 (nv : Int))
          have hO11 : (w10.setCell ⟨W, ko, none⟩ (.int .i64 (nv : Int))).heap[O]? = some (.cells ordC 3 (0, 0)) := (Below.heap_setCell _ _ _ _ (by show O ≠ W; omega)).trans hO10
          have hset : (icells own).set ko (.int .i64 (nv : Int)) = icells (own.set ko nv) := by simp [icells, List.map_set]
          rw [hset] at hrow11
          have HRW := Lib.hid (And.intro h11 (And.intro hrow11 hO11))
          clear hI9 hrow9 hO9 hw10 IKx h10 hrow10 hO10 hrow11 h11 hO11 hset hCW
          go_wp2_with fail
          refine MixT.mix_nil fun w12 hw12 => ?_
          obtain ⟨h11, hrow11, hO11⟩ := HRW.out
          have h12 := h11.later hw12
          have hrow12 := hrow11.later hw12
          have hO12 := block_below hO11 hw12
          clear HRW h11 hrow11 hO11 hw12 hfz hvo
          go_wp2_with fail
          go_roundw
          case rel =>
            refine ⟨j + 1, own.set ko nv, q', b', by go_num, by omega, HON2.out, by rw [List.length_set]; exact HOL.out, fun i => ?_, h12, hrow12, hO12⟩
            rw [List.getD_eq_getElem?_getD, List.getElem?_set]
            split
            · split
              · simp; omega
              · simp
            · rw [← List.getD_eq_getElem?_getD]; exact HO7.out i
          case measure => simp [intOf]; omega
        · obtain rfl : j = z + 4 := by omega
          have t1 : decide (((z + 4 : Nat) : Int) < (z : Int) + 4) = false := decide_eq_false (by omega)
          rw [Nat.sub_self, ownN] at hon
          have h15 : ∀ i, own.getD i 0 ≤ 15 := fun i => by have := ho7 i; omega
          obtain ⟨aw, cw, hsl, hnums⟩ := hrow.nums
          rw [hol] at hsl
          injection hsl with hsl1 hsl2 hsl3
          subst hsl1 hsl3
          have HG := Lib.hid (fun (w2 : World) (h2 : Nums w2 (some ⟨W, 0, none⟩) 19 own) => good_any h2 (by omega) h15 false)
          have hg1 := good_any hnums (by omega) h15 false
          rw [hol] at hg1
          obtain ⟨G, hGe⟩ : ∃ G, G = good own false := ⟨_, rfl⟩
          rw [← hGe] at hg1
          have HGE := Lib.hid hGe
          have HON3 := Lib.hid (And.intro HON.out hon)
          have HOL := Lib.hid (And.intro hol h15)
          have HNU := Lib.hid hnums
          obtain ⟨v, hIv⟩ := id hI
          obtain ⟨-, -, -, -, c4⟩ := five_cells hIv.blk
          clear hGe hon hol ho7 h15 hIv HG HON hO hnums hj
          obtain ⟨bd, hbd⟩ : ∃ bd, bd = if b = 0 ∧ G = false then 4 else b := ⟨_, rfl⟩
          have HBD := Lib.hid hbd
          clear hbd
          have t1' : decide ((z : Int) + 4 < (z : Int) + 4) = false := decide_eq_false (by omega)
          go_upto_region 13 with (fail)
          go_cut [55] from 46 to 183 (fun s55 wc => s55 = .bool (decide (b = 0) && !G) ∧ wc = wr)
          case first =>
            by_cases hb : b = 0
            · subst hb
              go_wp2_with fail
              refine Calls.mono hg1 ?_
              rintro e w6 ⟨rfl, rfl⟩
              go_wp2_with fail
              go_meet
              case rel => exact ⟨by simp, rfl⟩
            · have u1 : ((b : Int) == 0) = false := by rw [beq_eq_false_iff_ne]; omega
              have u2 : decide (b = 0) = false := decide_eq_false hb
              go_wp2_with fail
              go_meet
              case rel => exact ⟨by simp [hb], rfl⟩
          case rest =>
            obtain ⟨rfl, rfl⟩ := hcut
            clear c4 hg1
            go_upto_if 55 with (fail)
            go_cut [2] from 16 to 183 (fun s2 w6 => s2 = .int .i64 (x : Int) ∧ RefS S w0 w6 P a cap d most q out bd ∧ Row (fun _ => False) 3 w4 w6 (.slice (some ⟨W, 0, none⟩) 19 19) (icells own))
            case first =>
              refine wp_cond_split rfl (fun h => ?_) (fun h => ?_)
              · have hbd := Lib.hid (show bd = stopN b 4 by
                  have hb : b = 0 ∧ G = false := by simpa using h
                  rw [HBD.out, if_pos hb, hb.1]; rfl)
                clear h
                go_wp2_with fail
                refine Calls.mono (refStop_hold hI 4 4 rfl (by decide)) ?_
                rintro e w6 ⟨rfl, hI6, T, hTT, hF6⟩
                have hrow6 := hrow.moved hF6 (fun g hg => by
                  obtain ⟨C, hC⟩ := hrow.held g hg
                  refine hTT g C _ _ hC ?_ (by decide)
                  have hWg : W = g := by simpa [Value.ownBlock] using hg
                  omega) (fun k hk => hk.elim)
                clear hTT hF6
                go_wp2_with fail
                go_meet
                case rel => exact ⟨rfl, by rw [hbd.out]; exact hI6, hrow6⟩
              · have hbd := Lib.hid (show bd = b by
                  have hb : ¬ (b = 0 ∧ G = false) := by simpa using h
                  rw [HBD.out, if_neg hb])
                clear h
                go_wp2_with fail
                go_meet
                case rel => exact ⟨rfl, by rw [hbd.out]; exact hI, hrow⟩
            case rest =>
              clear hI hrow
              obtain ⟨rfl, hI6, hrow6⟩ := hcut
              have hT : toldN d p = ⟨x, y, z, own, q, bd⟩ := by
                unfold toldN
                simp only [HA.out, HB.out, HC.out]
                rw [← HON3.out.1, ← HON3.out.2]
                simp only
                rw [HBD.out, HGE.out]
              have hDD := HD.out
              rw [hT] at hDD
              simp only at hDD
              have HDD := Lib.hid hDD
              clear hT hDD HA HB HC HON3 HBD HGE HD HNU
              refine ‹∀ (a : Act) (w : World), Code.wp Try.prog _ _ a w → _› _ _ ?_
              exact told_rest hd HR.out hx32 hy32 HOL.out.1 HOL.out.2 HDD.out hI6 hrow6 _ _ _ _ _ _ _ _ _ _ _ _ _ _ _ _ _ _ _ _ _ _ _ _ _ _ _ _ _ _ _ _ _ _ _ _ _ _ _ _ _ _ _ _ _ _ _ _ _ _ _ _ _ _ _ _ _ _ _ _ _ _ _ _ _ _ _ _ _ _ _ _ _ _ _ _ _ _ _ _ _ _ _ _ _ _ _ _ _ _ _ _ _ _ _ _ _ _ _ _ _ _ _ _ _ _ _ _ _ _ _ _ _ _ _ _ _ _ _ _ _ _ _ _ _ _ _ _ _ _ _ _ _ _ _ _ _ _ _ _ _ _ _ _ _ _ _ _ _ _ _ _ _ _ _ _ _ _ _ _ _ _ _ _ _ _ _ _ _ _ _ _ _ _ _ _ _ _ _ _
end
end Go.Proofs.Ytaapnjhkflpiiaa
