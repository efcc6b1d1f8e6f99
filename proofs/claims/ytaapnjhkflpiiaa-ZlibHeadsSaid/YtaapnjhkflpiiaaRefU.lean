/-
  The document's told: what stands behind the code of lengths.
-/
import Derived.Test.YtaapnjhkflpiiaaRefV
namespace Go.Proofs.Ytaapnjhkflpiiaa
open Go.RowKit Go.Mix

noncomputable def toldRest : Code := ((Try.f47.body.bind (tailAt 15)).getD .skip)

section
variable {S : Nat → Prop} {w0 w w' : World} {P : Nat} {a : Option Addr} {cap : Nat} {d : List UInt8} {most : Int} {out : List UInt8}

set_option maxRecDepth 100000 in
set_option maxHeartbeats 4000000 in
theorem told_rest (hd : Fits S w0 a cap d most) {R : Except Nat (Nat × List UInt8)} {x y q bd W : Nat} {own : List Nat} {T0 : Nat → Prop} {w4 : World} {T : Except Nat (List Nat × List Nat × Nat)}
    (hR : R = match T with
        | .error e => .error e
        | .ok (cl, cd, p') => signsR d most cl cd (8 * d.length + 1) p' out) (hx32 : x < 32) (hy32 : y < 32) (hol : own.length = 19) (ho15 : ∀ i, own.getD i 0 ≤ 15)
    (hD : (bd ≠ 0 ∧ T = .error bd) ∨ (bd = 0 ∧ x ≤ 29 ∧ y ≤ 29 ∧ q ≤ 8 * d.length ∧ good own false = true ∧ T = match allGo d own (x + y + 258) (x + y + 259) q [] with
        | .error e => .error e
        | .ok (all, p5) => toldE x all p5))
    (h6 : RefS S w0 w P a cap d most q out bd) (hrow6 : Row T0 3 w4 w (.slice (some ⟨W, 0, none⟩) 19 19) (icells own)) (u1 u4 u6 u7 u8 u9 u10 u11 u12 u13 u14 u15 u16 u17 u18 u19 u20 u21 u22 u23 u24 u25 u26 u27 u28 u29 u30 u31 u32 u33 u34 u35 u36 u37 u38 u39 u40 u41 u42 u43 u44 u45 u46 u47 u48 u49 u50 u51 u52 u53 u54 u55 u56 u57 u58 u59 u60 u61 u62 u63 u64 u65 u66 u67 u68 u69 u70 u71 u72 u73 u74 u75 u76 u77 u78 u79 u80 u81 u82 u83 u84 u85 u86 u87 u88 u89 u90 u91 u92 u93 u94 u95 u96 u97 u98 u99 u100 u101 u102 u103 u104 u105 u106 u107 u108 u109 u110 u111 u112 u113 u114 u115 u116 u117 u118 u119 u120 u121 u122 u123 u124 u125 u126 u127 u128 u129 u130 u131 u132 u133 u134 u135 u136 u137 u138 u139 u140 u141 u142 u143 u144 u145 u146 u147 u148 u149 u150 u151 u152 u153 u154 u155 u156 u157 u158 u159 u160 u161 u162 u163 u164 u165 u166 u167 u168 u169 u170 u171 u172 u173 u174 u175 u176 u177 u178 u179 u180 u181 u182 u183 : Value) :
    Code.wp Try.prog toldRest (bodyPost Try.prog Try.f47 fun e w' => e = .returned (.tuple #[]) ∧ RefOut S w0 w' P a cap d most R)
      ⟨#[.pointer (some ⟨P, 0, none⟩), u1, .int .i64 (x : Int), .int .i64 (y : Int), u4, .slice (some ⟨W, 0, none⟩) 19 19, u6, u7, u8, u9, u10, u11, u12, u13, u14, u15, u16, u17, u18, u19, u20, u21, u22, u23, u24, u25, u26, u27, u28, u29, u30, u31, u32, u33, u34, u35, u36, u37, u38, u39, u40, u41, u42, u43, u44, u45, u46, u47, u48, u49, u50, u51, u52, u53, u54, u55, u56, u57, u58, u59, u60, u61, u62, u63, u64, u65, u66, u67, u68, u69, u70, u71, u72, u73, u74, u75, u76, u77, u78, u79, u80, u81, u82, u83, u84, u85, u86, u87, u88, u89, u90, u91, u92, u93, u94, u95, u96, u97, u98, u99, u100, u101, u102, u103, u104, u105, u106, u107, u108, u109, u110, u111, u112, u113, u114, u115, u116, u117, u118, u119, u120, u121, u122, u123, u124, u125, u126, u127, u128, u129, u130, u131, u132, u133, u134, u135, u136, u137, u138, u139, u140, u141, u142, u143, u144, u145, u146, u147, u148, u149, u150, u151, u152, u153, u154, u155, u156, u157, u158, u159, u160, u161, u162, u163, u164, u165, u166, u167, u168, u169, u170, u171, u172, u173, u174, u175, u176, u177, u178, u179, u180, u181, u182, u183], []⟩ w := by
  conv => arg 2; whnf
  have HRR := Lib.hid hR
  have HDD := Lib.hid hD
  have HOL := Lib.hid (And.intro hol ho15)
  have hsz := hd.small
  have hcod := codes_any (a := some ⟨W, 0, none⟩) (cap := 19) (ls := own) (w := w) (by
    obtain ⟨a9, c9, e9, hn9⟩ := hrow6.nums
    rw [hol] at e9
    injection e9 with e9 e9' e9''
    subst e9 e9''
    exact hn9) (by rw [hol]; decide)
  rw [hol] at hcod
  clear hR hD hol ho15 hrow6
  go_wp2_with fail
  refine Calls.mono hcod ?_
  rintro e w7 ⟨gc, cc, rfl, hgc, hgw, hcc, hcells, g67⟩
  obtain ⟨T7, hST7, h7, -, hTnew, hback⟩ := h6.holdNew g67
  have hd7 := hd.hold (h6.later g67).frame hST7
  have hgl : (genC own).length = 19 := by rw [genC_len]; exact HOL.out.1
  have hgcl : gc < w7.heap.size := by
    rcases Nat.lt_or_ge gc w7.heap.size with h | h
    · exact h
    · exact absurd (Array.getElem?_eq_none h) hgc
  have htx : Txts T7 w7 (some ⟨gc, 0, none⟩) cc (genC own) := ⟨hcells, by omega, fun x hx => by injection hx with hx; subst hx; exact hTnew gc hgw hgcl⟩
  have HDH := Lib.hid hd
  clear hcod h6 hd hcells hTnew g67 hgc hgw hgcl
  have htot : (x : Int) + (y : Int) + 258 = ((x + y + 258 : Nat) : Int) := by omega
  obtain ⟨tot, HT⟩ : ∃ tot, tot = x + y + 258 := ⟨_, rfl⟩
  have ht1000 : tot ≤ 400 := by omega
  rw [← HT] at htot
  obtain ⟨X, hX⟩ : ∃ X, X = if bd ≠ 0 then .error bd else allGo d own tot (tot + 1) q [] := ⟨_, rfl⟩
  have HX := Lib.hid hX
  have HTOT := Lib.hid HT
  clear hX HT
  have HSG := Lib.hid (fun (hg : good own false = true) p => signG_eq d own false HOL.out.2 hg (good_some own hg) p)
  go_wp2_with fail
  go_loopw [10] (fun v wr => ∃ (f q : Nat) (l : List Nat) (b : Nat), Row T7 3 w7 wr v (icells l) ∧ RefS T7 w7 wr P a cap d most q out b ∧ l.length ≤ 1000 ∧ (∀ x ∈ l, x ≤ 15) ∧
      ((b = 0 ∧ allGo d own tot f q l = X ∧ tot < l.length + f ∧ l.length ≤ tot ∧ good own false = true) ∨ (b ≠ 0 ∧ X = .error b))) (fun v wr => toldLeft P tot v wr)
  case atStart =>
    refine ⟨tot + 1, q, [], bd, Row.nil h7.frame, h7, by simp, fun x hx => by simp at hx, ?_⟩
    rcases HDD.out with ⟨hb, -⟩ | ⟨hb, -, -, -, hg, -⟩
    · exact .inr ⟨hb, by rw [HX.out, if_pos hb]⟩
    · exact .inl ⟨hb, by rw [HX.out, if_neg (fun h => h hb)], by simp, by simp, hg⟩
  case round =>
    clear h7
    obtain ⟨f, q, l, b, hrow, hI, hl1000, hl15, hcase⟩ := hrel
    have hleft := Lib.hid (hI.toldLeft tot)
    obtain ⟨v, hIv⟩ := id hI
    obtain ⟨-, -, -, -, c4⟩ := five_cells hIv.blk
    have hql := hIv.le
    clear hIv
    rcases hcase with ⟨rfl, hgo, hf, hlt, hg⟩ | ⟨hb, hXe⟩
    · by_cases hll : l.length < tot
      · cases f with
        | zero => omega
        | succ f =>
        obtain ⟨av, kv, hv, hnums⟩ := hrow.nums
        subst hv
        have t1 : decide ((l.length : Int) < (tot : Int)) = true := decide_eq_true (by omega)
        have t2 : decide (l.length < tot) = true := decide_eq_true hll
        have C := refSign_row hd7 hI hrow (htx.frame hI.frame) (by omega) (genC_short own)
        rw [hgl] at C
        have HGO := Lib.hid hgo
        have HG := Lib.hid hg
        have HL15 := Lib.hid hl15
        have HNU := Lib.hid hnums
        clear hgo hg hl15 hnums
        go_wp2_with fail
        refine Calls.mono C ?_
        rintro e w8 ⟨hO, hrow8⟩
        clear C c4 hrow hI
        rw [HSG.out HG.out] at hO
        cases hr : signR d own q with
        | error k =>
          rw [hr] at hO
          obtain ⟨rfl, hk, hk100, q3, hI3⟩ := hO
          have HXe := Lib.hid (show X = .error k from HGO.out.symm.trans (allGo_err hll hr))
          obtain ⟨v, hIv⟩ := id hI3
          obtain ⟨-, -, -, -, c4⟩ := five_cells hIv.blk
          have u1 : ((k : Int) != 0) = true := by rw [bne_iff_ne]; omega
          have u2 : decide ((tot : Int) < (l.length : Int)) = false := decide_eq_false (by omega)
          have u3 : decide (tot < l.length) = false := decide_eq_false (by omega)
          have hleft2 := Lib.hid (hI3.toldLeft tot)
          clear hIv HGO
          go_wp2_with fail
          go_roundw
          case rel => exact ⟨0, q3, l, k, hrow8, hI3, hl1000, HL15.out, .inr ⟨hk, HXe.out⟩⟩
          case measure =>
            rw [hleft.out, hleft2.out, if_neg hk]
            simp
            simp [lenV]
            omega
        | ok xp =>
          obtain ⟨x1, p1⟩ := xp
          rw [hr] at hO
          obtain ⟨rfl, hI3⟩ := hO
          have hx19 : x1 < 19 := by
            have h := hr
            rw [← HSG.out HG.out] at h
            have := (signC_lt h).1
            omega
          obtain ⟨v, hIv⟩ := id hI3
          obtain ⟨-, -, -, -, c4⟩ := five_cells hIv.blk
          have hp1 := hIv.le
          have HR := Lib.hid hr
          clear hIv hr
          go_upto_block 4 with (fail)
          go_cut [10] from 78 to 128 (fun s10 wc => ∃ (l2 : List Nat) (q2 b2 : Nat), Row T7 3 w7 wc s10 (icells l2) ∧ RefS T7 w7 wc P a cap d most q2 out b2 ∧ l2.length ≤ 600 ∧ (∀ x ∈ l2, x ≤ 15) ∧
            afterX d own tot f q2 l2 b2 = X ∧ (b2 = 0 → l.length < l2.length))
          case first =>
            clear hleft
            by_cases hx16 : x1 < 16
            · have u1 : decide ((x1 : Int) < 16) = true := decide_eq_true (by omega)
              have HS := Lib.hid ((allGo_lit hll HR.out hx16).symm.trans HGO.out)
              have HL := Lib.hid (show (icells l).length = l.length from icells_length l)
              have hx15 : x1 ≤ 15 := by omega
              clear HGO hx16
              go_wp2_with (at_builtin; refine wpList_append_fresh elemInt rfl (.tmp 92) (.tmp 94) rfl _ _ rfl hrow8 _ [.int .i64 (x1 : Int)] rfl 1 1 rfl rfl (by simp [Value.oneCell']) (by rw [HL.out]; simp only [List.length_singleton]; omega) (by rw [HL.out]; simp only [List.length_singleton]; omega) ?_; intro v5 w5 hrow5 hgr5; have hK5 := hI3.grown hrow8 hgr5)
              go_meet
              case rel =>
                refine ⟨l ++ [x1], p1, 0, by simpa [icells] using hrow5, hK5, by simp; omega, fun x hx => ?_, HS.out, fun _ => by simp⟩
                rcases List.mem_append.1 hx with h | h
                · exact HL15.out x h
                · rw [List.mem_singleton.1 h]; exact hx15
            · have u1 : decide ((x1 : Int) < 16) = false := decide_eq_false (by omega)
              have HN := Lib.hid (fun (w2 : World) (w3 : RefS T7 w7 w2 P a cap d most p1 out 0) (hr2 : Row T7 3 w7 w2 (.slice av l.length kv) (icells l)) (n : Nat) (ni : Int) (hni : ni = (n : Int)) (hn : n ≤ 16) => refNumber_row hd7 w3 hr2 n ni hni hn)
              have HM := Lib.hid (fun (w2 : World) (v : Value) (q2 b2 : Nat) (w3 : RefS T7 w7 w2 P a cap d most q2 out b2) (hr2 : Row T7 3 w7 w2 v (icells l)) (n times : Nat) (ni ti : Int) (hni : ni = (n : Int)) (hti : ti = (times : Int)) (ht : times ≤ 1000) => refMany_hold w3 hr2 (Nat.le_trans hl1000 (by decide)) n times ni ti hni hti ht)
              by_cases h16 : x1 = 16
              · subst h16
                by_cases h0 : l.length = 0
                · have u3 : ((l.length : Int) == 0) = true := by rw [beq_iff_eq]; omega
                  have HXe := Lib.hid (show afterX d own tot f p1 l 4 = X from ((allGo_none hll HR.out h0).symm.trans HGO.out))
                  have HS := Lib.hid (refStop_row hI3 hrow8 4 4 rfl (by decide))
                  clear h0 HGO HN HM
                  go_wp2_with fail
                  refine Calls.mono HS.out ?_
                  rintro e w9 ⟨rfl, hI9, hrow9⟩
                  go_wp2_with fail
                  go_meet
                  case rel => exact ⟨l, p1, 4, hrow9, hI9, by omega, HL15.out, HXe.out, fun h => by cases h⟩
                · have u3 : ((l.length : Int) == 0) = false := by rw [beq_eq_false_iff_ne]; omega
                  have HS := Lib.hid ((allGo_16 hll HR.out h0 hp1).symm.trans HGO.out)
                  have hnl := numN_lt d p1 0 2
                  have hC := fun w2 h2 hr2 => HN.out w2 h2 hr2 2 2 rfl (by decide)
                  generalize numN d p1 0 2 = N at *
                  obtain ⟨n1, q2, b2⟩ := N
                  simp only at hnl hC
                  have hn4 : n1 < 4 := hnl
                  have hLF : FrameS (fun k => (Value.slice av l.length kv).ownBlock = some k) w8 w8 := FrameS.refl fun k hk => hrow8.lt k hk
                  have hrowF : Row (fun _ => False) 3 w8 w8 (.slice av l.length kv) (icells l) := hrow8.rebase (FrameS.refl fun k hk => hk.elim) (fun _ _ h => h)
                  obtain ⟨IK, -⟩ := ints_at (w := w8) (a := av) (l := l) (by obtain ⟨a', c', e1, hc, -⟩ := hrow8.slice; injection e1 with e1; subst e1; exact hc) kv (by omega) ((l.length : Int) - 1) (l.length - 1) (by omega) (by omega)
                  have hel : ∀ y : MixT.Later (fun k => (Value.slice av l.length kv).ownBlock = some k) w8, y.1.cell? (elt av (l.length - 1)) = some (.int .i64 (l.getD (l.length - 1) 0 : Nat)) := fun y => by
                    have hr := hrowF.moved (FrameS.of_grow y.2 hLF) (fun g hg => hg) (fun k hk => hk.elim)
                    obtain ⟨a', c', e1, hc, -⟩ := hr.slice
                    injection e1 with e1
                    subst e1
                    exact (ints_at hc kv (by omega) ((l.length : Int) - 1) (l.length - 1) (by omega) (by omega)).2
                  have hxl15 := getD_le15 HL15.out (l.length - 1)
                  have HMM := Lib.hid (fun (w2 : World) (w3 : RefS T7 w7 w2 P a cap d most q2 out b2) (hr2 : Row T7 3 w7 w2 (.slice av l.length kv) (icells l)) => HM.out w2 _ q2 b2 w3 hr2 (l.getD (l.length - 1) 0) (3 + n1) (l.getD (l.length - 1) 0 : Nat) (3 + (n1 : Int)) rfl (by omega) (by omega))
                  have HCC := Lib.hid hC
                  clear hC
                  generalize l.getD (l.length - 1) 0 = xl at *
                  have w1' : IntKind.i64.wrap ((l.length : Int) - 1) = (l.length : Int) - 1 := IntWalk.i64_in _ (by omega)
                  have w2' : IntKind.i64.wrap (3 + (n1 : Int)) = 3 + (n1 : Int) := IntWalk.i64_in _ (by omega)
                  clear HGO HN HM hnl hLF hrowF h0
                  go_wp2_with fail
                  refine MixT.wp_region_mix (N := fun k => (Value.slice av l.length kv).ownBlock = some k) (D := []) (E := fun _ _ => False) [(0, 0), (1, 0), (2, 0), (3, 0), (4, 0), (5, 0), (6, 0), (7, 0), (8, 1), (9, 0), (10, 2), (11, 0)] (by kernel_rfl) ?hE (by kernel_rfl) ?_
                  case hE =>
                    rintro c a' w' hD h
                    exact h.elim
                  iterate 8 (refine MixT.mix_calm rfl (fun K hK => ?_); go_simp; (refine hK _ ?_; clear hK K))
                  refine MixT.mix_loud rfl rfl (fun w9 hw9 KK hKK => ?_)
                  have h9 := hI3.later hw9
                  have hrow9 := hrow8.later hw9
                  clear hel IK w1' hI3 hrow8 c4
                  go_wp2_with fail
                  refine Calls.mono (HCC.out _ h9 hrow9) ?_
                  rintro e w10 ⟨rfl, hI10, hrow10, hGr⟩
                  clear h9 hrow9 HCC
                  go_wp2_with fail
                  refine hKK _ _ hGr ?_
                  clear hKK KK hGr hw9
                  iterate 1 (refine MixT.mix_calm rfl (fun K hK => ?_); go_simp; (refine hK _ ?_; clear hK K))
                  refine MixT.mix_sync rfl rfl (fun w11 hw11 KK hKK => ?_)
                  have h11 := hI10.later hw11
                  have hrow11 := hrow10.later hw11
                  clear hI10 hrow10 hw11
                  go_wp2_with fail
                  refine Calls.mono (HMM.out _ h11 hrow11) ?_
                  rintro e w12 ⟨v2, rfl, hrow12, hI12⟩
                  clear h11 hrow11 HMM
                  go_wp2_with fail
                  iterate 1 (refine MixT.mix_calm rfl (fun K hK => ?_); go_simp; (refine hK _ ?_; clear hK K))
                  refine MixT.mix_nil fun w13 hw13 => ?_
                  have hI13 := hI12.later hw13
                  have hrow13 := hrow12.later hw13
                  clear hI12 hrow12 hw13
                  go_wp2_with fail
                  go_meet
                  case rel => exact ⟨_, q2, b2, hrow13, hI13, by simp; omega, app_le15 HL15.out _ _ hxl15, HS.out, fun _ => by simp; omega⟩
              · have u2 : ((x1 : Int) == 16) = false := by rw [beq_eq_false_iff_ne]; omega
                by_cases h17 : x1 = 17
                · subst h17
                  have HS := Lib.hid ((allGo_17 hll HR.out hp1).symm.trans HGO.out)
                  have hnl := numN_lt d p1 0 3
                  have hC := HN.out w8 hI3 hrow8 3 3 rfl (by decide)
                  generalize numN d p1 0 3 = N at *
                  obtain ⟨n1, q2, b2⟩ := N
                  simp only at hnl hC
                  have hn8 : n1 < 8 := hnl
                  clear HGO HN
                  go_wp2_with fail
                  refine Calls.mono hC ?_
                  rintro e w9 ⟨rfl, hI9, hrow9, -⟩
                  clear hC c4
                  go_wp2_with fail
                  refine Calls.mono (HM.out _ _ _ _ hI9 hrow9 0 (3 + n1) 0 _ rfl (by go_num) (by omega)) ?_
                  rintro e w10 ⟨v2, rfl, hrow10, hI10⟩
                  go_wp2_with fail
                  go_meet
                  case rel => exact ⟨_, q2, b2, hrow10, hI10, by simp; omega, app_le15 HL15.out _ _ (by decide), HS.out, fun _ => by simp; omega⟩
                · have h18 : x1 = 18 := by omega
                  subst h18
                  have u3 : ((18 : Int) == 17) = false := by decide
                  have HS := Lib.hid ((allGo_18 hll HR.out hp1).symm.trans HGO.out)
                  have hnl := numN_lt d p1 0 7
                  have hC := HN.out w8 hI3 hrow8 7 7 rfl (by decide)
                  generalize numN d p1 0 7 = N at *
                  obtain ⟨n1, q2, b2⟩ := N
                  simp only at hnl hC
                  have hn8 : n1 < 128 := hnl
                  clear HGO HN
                  go_wp2_with fail
                  refine Calls.mono hC ?_
                  rintro e w9 ⟨rfl, hI9, hrow9, -⟩
                  clear hC c4
                  go_wp2_with fail
                  refine Calls.mono (HM.out _ _ _ _ hI9 hrow9 0 (11 + n1) 0 _ rfl (by go_num) (by omega)) ?_
                  rintro e w10 ⟨v2, rfl, hrow10, hI10⟩
                  go_wp2_with fail
                  go_meet
                  case rel => exact ⟨_, q2, b2, hrow10, hI10, by simp; omega, app_le15 HL15.out _ _ (by decide), HS.out, fun _ => by simp; omega⟩
          case rest =>
            clear hrow8 hI3
            obtain ⟨l2, q2, b2, hrow9, hI9, hl2, hl215, hX2, hgrow⟩ := hcut
            obtain ⟨av2, kv2, hv2, -⟩ := hrow9.nums
            subst hv2
            have HX2 := Lib.hid hX2
            have HGR := Lib.hid hgrow
            have HL2 := Lib.hid hl215
            clear hX2 hgrow hl215
            go_upto_if 131 with (fail)
            refine wp_cond_split rfl (fun h => ?_) (fun h => ?_)
            · have hov : tot < l2.length := by have := of_decide_eq_true h; omega
              clear h
              have HS := Lib.hid (refStop_row hI9 hrow9 4 4 rfl (by decide))
              have HXe := Lib.hid (show X = .error (stopN b2 4) by
                rw [← HX2.out]
                unfold afterX stopN
                by_cases hb : b2 = 0
                · rw [if_neg (fun h => h hb), if_pos hov, if_pos hb]
                · rw [if_pos hb, if_neg hb])
              have hne := stopN_ne b2 4 (by decide)
              clear hov
              go_wp2_with fail
              refine Calls.mono HS.out ?_
              rintro e w10 ⟨rfl, hI10, hrow10⟩
              have hleft2 := Lib.hid (hI10.toldLeft tot)
              clear HS
              go_wp2_with fail
              go_roundw
              case rel => exact ⟨0, q2, l2, _, hrow10, hI10, by omega, HL2.out, .inr ⟨hne, HXe.out⟩⟩
              case measure =>
                rw [hleft.out, hleft2.out, if_neg hne]
                simp
                simp [lenV]
                omega
            · have hov : ¬ tot < l2.length := by have := of_decide_eq_false h; omega
              clear h
              have hleft2 := Lib.hid (hI9.toldLeft tot)
              have HOV := Lib.hid hov
              clear hov
              go_wp2_with fail
              go_roundw
              case rel =>
                by_cases hb : b2 = 0
                · have h := HX2.out
                  unfold afterX at h
                  rw [if_neg (fun h => h hb), if_neg HOV.out] at h
                  have := HGR.out hb
                  have := HOV.out
                  exact ⟨f, q2, l2, b2, hrow9, hI9, by omega, HL2.out, .inl ⟨hb, h, by omega, by omega, HG.out⟩⟩
                · have h := HX2.out
                  unfold afterX at h
                  rw [if_pos hb] at h
                  exact ⟨f, q2, l2, b2, hrow9, hI9, by omega, HL2.out, .inr ⟨hb, h.symm⟩⟩
              case measure =>
                rw [hleft.out, hleft2.out]
                by_cases hb : b2 = 0
                · have := HGR.out hb
                  simp [hb, lenV]
                  omega
                · simp [hb]
                  simp [lenV]
                  omega
      · have hle : l.length = tot := by omega
        obtain ⟨av, kv, hv, -⟩ := hrow.nums
        subst hv
        have t1 : decide ((l.length : Int) < (tot : Int)) = false := decide_eq_false (by omega)
        have t2 : decide (l.length < tot) = false := decide_eq_false hll
        have hXe : X = .ok (l, q) := by
          rw [← hgo]
          cases f with
          | zero => omega
          | succ f => rw [allGo, if_pos (by omega)]
        have HRE := Lib.hid (show x ≤ 29 ∧ R = match toldE x l q with
            | .error e => .error e
            | .ok (cl, cd, p') => signsR d most cl cd (8 * d.length + 1) p' out by
          have hx := HX.out
          rcases HDD.out with ⟨hb, -⟩ | ⟨hb, h1, -, -, -, h5⟩
          · rw [if_pos hb, hXe] at hx; cases hx
          · rw [if_neg (fun h => h hb), hXe, HTOT.out] at hx
            rw [← hx] at h5
            exact ⟨h1, by rw [HRR.out, h5]⟩)
        have HLE := Lib.hid hle
        clear hgo hXe hle
        go_upto_if 138 with (fail)
        refine wp_cond_split rfl (fun h => ?_) (fun h => ?_)
        · simp at h
        clear h
        refine wp_skip ?_
        refine ‹∀ (a : Act) (w : World), Code.wp Try.prog _ _ a w → _› _ _ ?_
        refine told_last HDH.out HRE.out.2 HRE.out.1 ?_ hl1000 hl15 (hback _ _ _ _ hI) hrow _ _ _ _ _ _ _ _ _ _ _ _ _ _ _ _ _ _ _ _ _ _ _ _ _ _ _ _ _ _ _ _ _ _ _ _ _ _ _ _ _ _ _ _ _ _ _ _ _ _ _ _ _ _ _ _ _ _ _ _ _ _ _ _ _ _ _ _ _ _ _ _ _ _ _ _ _ _ _ _ _ _ _ _ _ _ _ _ _ _ _ _ _ _ _ _ _ _ _ _ _ _ _ _ _ _ _ _ _ _ _ _ _ _ _ _ _ _ _ _ _ _ _ _ _ _ _ _ _ _ _ _ _ _ _ _ _ _ _ _ _ _ _ _ _ _ _ _ _ _ _ _ _ _ _ _ _ _ _ _ _ _ _ _ _ _ _ _ _ _ _ _ _ _ _ _ _ _ _ _ _
        have := HLE.out
        have := HTOT.out
        omega
    · have u1 : ((b : Int) == 0) = false := by rw [beq_eq_false_iff_ne]; omega
      have u2 : ((b : Int) != 0) = true := by rw [bne_iff_ne]; omega
      have HRE := Lib.hid (show R = .error b by
        have hx := HX.out
        rcases HDD.out with ⟨hb2, h2⟩ | ⟨hb2, -, -, -, -, h5⟩
        · rw [if_pos hb2, hXe] at hx
          injection hx with hx
          rw [HRR.out, h2, hx]
        · rw [if_neg (fun h => h hb2), hXe, HTOT.out] at hx
          rw [← hx] at h5
          rw [HRR.out, h5])
      have HB := Lib.hid hb
      clear hXe hb
      go_wp2_with fail
      refine bodyPost_ret (results_none rfl _ _ _) rfl ?_
      exact ⟨rfl, by rw [HRE.out]; exact ⟨HB.out, _, _, hback _ _ _ _ hI⟩⟩
end
end Go.Proofs.Ytaapnjhkflpiiaa
