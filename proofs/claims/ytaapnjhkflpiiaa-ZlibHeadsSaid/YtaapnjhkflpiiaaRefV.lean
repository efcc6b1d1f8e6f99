/-
  The document's told: what stands behind the lengths.
-/
import Derived.Test.YtaapnjhkflpiiaaRefB
import Derived.Test.YtaapnjhkflpiiaaRef9
namespace Go.Proofs.Ytaapnjhkflpiiaa
open Go.RowKit Go.Mix

/-- Does a text of code begin with region k? -/
def startsAt (k : Nat) : Code → Bool
  | .region n _ _ => n == k
  | .seq a _ => startsAt k a
  | _ => false
/-- The rest of a text of code from region k on. -/
def tailAt (k : Nat) : Code → Option Code
  | .seq a b => if startsAt k a then some (.seq a b) else match tailAt k a with
    | some c => some c
    | none => tailAt k b
  | .loop c => tailAt k c
  | .block _ c => tailAt k c
  | .scope c => tailAt k c
  | .cond _ a b => match tailAt k a with
    | some c => some c
    | none => tailAt k b
  | _ => none
noncomputable def toldLast : Code := ((Try.f47.body.bind (tailAt 33)).getD .skip)

theorem subAt_non {a : Option Addr} {cap k : Nat} (h : a = none → cap = 0) : subAt a cap k = none → cap - k = 0 := by
  unfold subAt
  split
  · intro _; omega
  · cases a with
    | none => intro _; rw [h rfl]; omega
    | some x => intro h; cases h

section
variable {S : Nat → Prop} {w0 w w' : World} {P : Nat} {a : Option Addr} {cap : Nat} {d : List UInt8} {most : Int} {out : List UInt8}

set_option maxRecDepth 100000 in
set_option maxHeartbeats 4000000 in
theorem told_last (hd : Fits S w0 a cap d most) {R : Except Nat (Nat × List UInt8)} {x q kv : Nat} {av : Option Addr} {l : List Nat} {T0 : Nat → Prop} {w4 : World}
    (hR : R = match toldE x l q with
        | .error e => .error e
        | .ok (cl, cd, p') => signsR d most cl cd (8 * d.length + 1) p' out) (hx : x ≤ 29) (hl : x + 257 ≤ l.length) (hl2 : l.length ≤ 1000) (hl15 : ∀ x ∈ l, x ≤ 15)
    (h : RefS S w0 w P a cap d most q out 0) (hrow : Row T0 3 w4 w (.slice av l.length kv) (icells l)) (u1 u3 u4 u5 u6 u7 u8 u9 u11 u12 u13 u14 u15 u16 u17 u18 u19 u20 u21 u22 u23 u24 u25 u26 u27 u28 u29 u30 u31 u32 u33 u34 u35 u36 u37 u38 u39 u40 u41 u42 u43 u44 u45 u46 u47 u48 u49 u50 u51 u52 u53 u54 u55 u56 u57 u58 u59 u60 u61 u62 u63 u64 u65 u66 u67 u68 u69 u70 u71 u72 u73 u74 u75 u76 u77 u78 u79 u80 u81 u82 u83 u84 u85 u86 u87 u88 u89 u90 u91 u92 u93 u94 u95 u96 u97 u98 u99 u100 u101 u102 u103 u104 u105 u106 u107 u108 u109 u110 u111 u112 u113 u114 u115 u116 u117 u118 u119 u120 u121 u122 u123 u124 u125 u126 u127 u128 u129 u130 u131 u132 u133 u134 u135 u136 u137 u138 u139 u140 u141 u142 u143 u144 u145 u146 u147 u148 u149 u150 u151 u152 u153 u154 u155 u156 u157 u158 u159 u160 u161 u162 u163 u164 u165 u166 u167 u168 u169 u170 u171 u172 u173 u174 u175 u176 u177 u178 u179 u180 u181 u182 u183 : Value) :
    Code.wp Try.prog toldLast (bodyPost Try.prog Try.f47 fun e w' => e = .returned (.tuple #[]) ∧ RefOut S w0 w' P a cap d most R)
      ⟨#[.pointer (some ⟨P, 0, none⟩), u1, .int .i64 (x : Int), u3, u4, u5, u6, u7, u8, u9, .slice av l.length kv, u11, u12, u13, u14, u15, u16, u17, u18, u19, u20, u21, u22, u23, u24, u25, u26, u27, u28, u29, u30, u31, u32, u33, u34, u35, u36, u37, u38, u39, u40, u41, u42, u43, u44, u45, u46, u47, u48, u49, u50, u51, u52, u53, u54, u55, u56, u57, u58, u59, u60, u61, u62, u63, u64, u65, u66, u67, u68, u69, u70, u71, u72, u73, u74, u75, u76, u77, u78, u79, u80, u81, u82, u83, u84, u85, u86, u87, u88, u89, u90, u91, u92, u93, u94, u95, u96, u97, u98, u99, u100, u101, u102, u103, u104, u105, u106, u107, u108, u109, u110, u111, u112, u113, u114, u115, u116, u117, u118, u119, u120, u121, u122, u123, u124, u125, u126, u127, u128, u129, u130, u131, u132, u133, u134, u135, u136, u137, u138, u139, u140, u141, u142, u143, u144, u145, u146, u147, u148, u149, u150, u151, u152, u153, u154, u155, u156, u157, u158, u159, u160, u161, u162, u163, u164, u165, u166, u167, u168, u169, u170, u171, u172, u173, u174, u175, u176, u177, u178, u179, u180, u181, u182, u183], []⟩ w := by
  conv => arg 2; whnf
  have hsz := hd.small
  obtain ⟨a8, c8, e8, hcv, hkv, hkm, hnn⟩ := hrow.slice
  injection e8 with e8 e8a e8b
  subst e8 e8b
  rw [icells_length] at hkv
  clear e8a
  have hl1 : (l.take (x + 257)).length = x + 257 := by rw [List.length_take]; omega
  have hld : (l.drop (x + 257)).length = l.length - (x + 257) := List.length_drop
  have HN1 := Lib.hid (fun (w' : World) (g : Below w.heap.size w w') => (⟨(hcv.takeI (x + 257)).below g, by rw [hl1]; omega, hnn⟩ : Nums w' av kv (l.take (x + 257))))
  have HN2 := Lib.hid (fun (w' : World) (g : Below w.heap.size w w') => (⟨(hcv.dropI kv (x + 257) (by omega)).below g, by rw [hld]; omega, subAt_non hnn⟩ : Nums w' (subAt av kv (x + 257)) (kv - (x + 257)) (l.drop (x + 257))))
  have S1 : ∀ w : World, (Instr.slice 37 (.slice av l.length kv) none (some (.int .i64 ((x : Int) + 257))) none).run Try.prog w = .ok (.slice av (x + 257) kv) w := fun w => by
    have h := run_slice_to (P := Try.prog) 37 Try.underlying37 av l.length kv (x + 257) (by omega) hnn sizeOf_int w
    rw [show ((x + 257 : Nat) : Int) = (x : Int) + 257 by omega] at h
    exact h
  have S2 : ∀ w : World, (Instr.slice 37 (.slice av l.length kv) (some (.int .i64 ((x : Int) + 257))) none none).run Try.prog w = .ok (.slice (subAt av kv (x + 257)) (l.length - (x + 257)) (kv - (x + 257))) w := fun w => by
    have h := run_slice_from (P := Try.prog) 37 Try.underlying37 sizeOf_int av l.length kv (x + 257) (by omega) w
    rw [show ((x + 257 : Nat) : Int) = (x : Int) + 257 by omega] at h
    exact h
  have h256 : (l.take (x + 257)).getD 256 0 = l.getD 256 0 := by
    rw [List.getD_eq_getElem?_getD, List.getD_eq_getElem?_getD, List.getElem?_take, if_pos (by omega)]
  have hx15 : ∀ i, (l.take (x + 257)).getD i 0 ≤ 15 := getD_le15 fun y hy => hl15 y (List.mem_of_mem_take hy)
  have hy15 : ∀ i, (l.drop (x + 257)).getD i 0 ≤ 15 := getD_le15 fun y hy => hl15 y (List.mem_of_mem_drop hy)
  unfold toldE at hR
  generalize l.take (x + 257) = cl at *
  generalize l.drop (x + 257) = cd at *
  have HRR := Lib.hid hR
  have HX15 := Lib.hid (And.intro hx15 hy15)
  obtain ⟨c, hc⟩ : ∃ c, c = l.getD 256 0 := ⟨_, rfl⟩
  have HC := Lib.hid (And.intro hc h256)
  obtain ⟨ln, hln⟩ : ∃ ln, ln = l.length := ⟨_, rfl⟩
  rw [← hln] at S1 S2 hld hl hl2 hkv ⊢
  have w1' : IntKind.i64.wrap ((x : Int) + 257) = (x : Int) + 257 := IntWalk.i64_in _ (by omega)
  clear hR hx15 hy15 hl15 hrow hcv hc h256 hln
  go_upto_region 33 with (fail)
  refine wp_region_mix [(0, 0), (1, 0), (2, 0), (3, 0), (4, 0), (5, 0), (6, 0), (7, 0), (8, 0), (9, 0)] (by kernel_rfl) (by kernel_rfl) ?_
  iterate 10 (refine mix_calm rfl (fun K hK => ?_); go_simp; (refine hK _ ?_; clear hK K))
  refine mix_nil fun w1 hw1 => ?_
  have h1 := h.later hw1
  have N1 := HN1.out w1 hw1
  have N2 := HN2.out w1 hw1
  generalize subAt av kv (x + 257) = av2 at *
  obtain ⟨ly, hly⟩ : ∃ ly, ly = ln - (x + 257) := ⟨_, rfl⟩
  obtain ⟨kv2, hkv2⟩ : ∃ kv2, kv2 = kv - (x + 257) := ⟨_, rfl⟩
  rw [← hly, ← hkv2]
  rw [← hly] at hld
  rw [← hkv2] at N2
  obtain ⟨lx, hlx⟩ : ∃ lx, lx = x + 257 := ⟨_, rfl⟩
  rw [← hlx] at hl1 ⊢
  have hlx1000 : lx ≤ 1000 := by omega
  have hly1000 : ly ≤ 1000 := by omega
  have hlx257 : 256 < lx := by omega
  obtain ⟨IK, IC⟩ := ints_at N1.cells kv (by omega) 256 256 rfl (by omega)
  rw [HC.out.2, ← HC.out.1] at IC
  rw [hl1] at IK
  have G1 := good_any N1 (by omega) HX15.out.1 false
  have G2 := good_any N2 (by omega) HX15.out.2 true
  rw [hl1] at G1
  rw [hld] at G2
  obtain ⟨g1, hg1⟩ : ∃ g1, g1 = good cl false := ⟨_, rfl⟩
  obtain ⟨g2, hg2⟩ : ∃ g2, g2 = good cd true := ⟨_, rfl⟩
  rw [← hg1] at G1
  rw [← hg2] at G2
  have HGG := Lib.hid (And.intro hg1 hg2)
  have HLL := Lib.hid (And.intro hl1 hld)
  have HNN := Lib.hid (And.intro N1 N2)
  clear HN1 HN2 S1 S2 hw1 h N1 N2 hly hkv2 hlx hg1 hg2 hl1 hld w1' hnn hl hl2 hkv hx
  go_upto_region 34 with (fail)
  go_cut [160] from 147 to 183 (fun s160 wc => s160 = .bool (decide (c = 0) || !g1 || !g2) ∧ wc = w1)
  case first =>
    by_cases hc0 : c = 0
    · have u1 : ((c : Int) == 0) = true := by rw [beq_iff_eq]; omega
      go_wp2_with fail
      go_meet
      case rel => exact ⟨by simp [hc0], rfl⟩
    · have u1 : ((c : Int) == 0) = false := by rw [beq_eq_false_iff_ne]; omega
      cases g1 with
      | false =>
        go_wp2_with fail
        refine Calls.mono G1 ?_
        rintro e w6 ⟨rfl, rfl⟩
        go_wp2_with fail
        go_meet
        case rel => exact ⟨by simp, rfl⟩
      | true =>
        go_wp2_with fail
        refine Calls.mono G1 ?_
        rintro e w6 ⟨rfl, rfl⟩
        go_wp2_with fail
        refine Calls.mono G2 ?_
        rintro e w6 ⟨rfl, rfl⟩
        go_wp2_with fail
        go_meet
        case rel => exact ⟨by simp [hc0], rfl⟩
  case rest =>
    obtain ⟨rfl, rfl⟩ := hcut
    clear G1 G2 IK IC
    go_upto_if 160 with (fail)
    refine wp_cond_split rfl (fun hb => ?_) (fun hb => ?_)
    · have HR2 := Lib.hid (show R = .error 4 by
        have hr := HRR.out
        rw [if_pos (by
          simp only [Bool.or_eq_true, decide_eq_true_eq, Bool.not_eq_true'] at hb
          rw [← HC.out.1, ← HGG.out.1, ← HGG.out.2]
          rcases hb with (hb | hb) | hb
          · exact .inl hb
          · exact .inr (.inl hb)
          · exact .inr (.inr hb))] at hr
        exact hr)
      clear hb
      go_wp2_with fail
      refine (stop_any h1 4 4 rfl (by decide)).mono ?_
      rintro e w6 ⟨rfl, hI6⟩
      go_wp2_with fail
      refine bodyPost_ret (results_none rfl _ _ _) rfl ?_
      exact ⟨rfl, by rw [HR2.out]; exact ⟨by decide, _, _, hI6⟩⟩
    · have hb2 : c ≠ 0 ∧ g1 = true ∧ g2 = true := by
        simp only [Bool.or_eq_false_iff, decide_eq_false_iff_not, Bool.not_eq_false'] at hb
        exact ⟨hb.1.1, hb.1.2, hb.2⟩
      have HR2 := Lib.hid (show R = signsR d most cl cd (8 * d.length + 1) q out by
        have hr := HRR.out
        rw [if_neg (by
          rw [← HC.out.1, ← HGG.out.1, ← HGG.out.2, hb2.2.1, hb2.2.2]
          rintro (h | h | h)
          · exact hb2.1 h
          · cases h
          · cases h)] at hr
        exact hr)
      have HGD := Lib.hid (show good cl false = true ∧ good cd true = true from ⟨HGG.out.1 ▸ hb2.2.1, HGG.out.2 ▸ hb2.2.2⟩)
      clear hb hb2 HGG HC HRR
      go_wp2_with fail
      go_loop [14, 15] (fun s14 s15 => ∃ i : Nat, s15 = .int .i64 (i : Int) ∧ i ≤ ly ∧ s14 = .bool (anyP cd i)) (fun _ s15 => ly - (intOf s15).toNat)
      case atStart => exact ⟨0, rfl, Nat.zero_le _, rfl⟩
      case round =>
        obtain ⟨i, rfl, hi, rfl⟩ := hrel
        by_cases hil : i < ly
        · have t1 : decide ((i : Int) < (ly : Int)) = true := decide_eq_true (by omega)
          have t2 : decide (i < ly) = true := decide_eq_true hil
          obtain ⟨IK, IC⟩ := ints_at HNN.out.2.cells kv2 (by rw [HLL.out.2]; omega) (i : Int) i rfl (by rw [HLL.out.2]; exact hil)
          rw [HLL.out.2] at IK
          have HA := Lib.hid (show anyP cd (i + 1) = (anyP cd i || decide (0 < cd.getD i 0)) from rfl)
          generalize cd.getD i 0 = ci at *
          generalize anyP cd i = A at *
          cases A with
          | true =>
            go_wp2_with fail
            go_round
            case rel => exact ⟨i + 1, by go_num, by omega, by rw [HA.out]; simp⟩
            case measure => simp [intOf]; omega
          | false =>
            go_wp2_with fail
            go_round
            case rel =>
              refine ⟨i + 1, by go_num, by omega, ?_⟩
              rw [HA.out]
              simp
            case measure => simp [intOf]; omega
        · obtain rfl : i = ly := by omega
          have t1 : decide ((i : Int) < (i : Int)) = false := decide_eq_false (by omega)
          have hsm : anyP cd i = !decide ((sgn cd).length = 0) := by rw [← anyP_sgn cd HX15.out.2, HLL.out.2]
          generalize anyP cd i = sm at *
          have C1 := codes_any HNN.out.1 (by rw [HLL.out.1]; exact hlx1000)
          rw [HLL.out.1] at C1
          have HSM := Lib.hid hsm
          clear hsm
          go_wp2_with fail
          refine Calls.mono C1 ?_
          rintro e w2 ⟨gc, cc, rfl, hgc, hgw, hcc, hcells, g12⟩
          have C2 := codes_any (HNN.out.2.below g12) (by rw [HLL.out.2]; exact hly1000)
          rw [HLL.out.2] at C2
          have hgcl : gc < w2.heap.size := by
            rcases Nat.lt_or_ge gc w2.heap.size with h | h
            · exact h
            · exact absurd (Array.getElem?_eq_none h) hgc
          clear C1
          go_wp2_with fail
          refine Calls.mono C2 ?_
          rintro e w3 ⟨gd, dc, rfl, hgd, hdw, hdc, hdcells, g23⟩
          clear C2
          have hgdl : gd < w3.heap.size := by
            rcases Nat.lt_or_ge gd w3.heap.size with h | h
            · exact h
            · exact absurd (Array.getElem?_eq_none h) hgd
          have hs12 := g12.size
          have hs23 := g23.size
          have g13 := g12.trans (g23.mono hs12)
          obtain ⟨T3, hST3, h3, -, hTnew, hback⟩ := h1.holdNew g13
          have hd3 := hd.hold (h1.later g13).frame hST3
          have e1 : (genC cl).length = lx := by rw [genC_len]; exact HLL.out.1
          have e2 : (genC cd).length = i := by rw [genC_len]; exact HLL.out.2
          have X1 : Txts T3 w3 (some ⟨gc, 0, none⟩) cc (genC cl) := ⟨hcells.below g23, by omega, fun x hx => by injection hx with hx; subst hx; exact hTnew gc hgw (by show gc < _; omega)⟩
          have X2 : Txts T3 w3 (some ⟨gd, 0, none⟩) dc (genC cd) := ⟨hdcells, by omega, fun x hx => by injection hx with hx; subst hx; exact hTnew gd (by show _ ≤ gd; omega) hgdl⟩
          have C3 := refSigns_any hd3 h3 X1 X2 (by omega) (by omega) (genC_short cl) (genC_short cd) (fun q => signG_eq d cl false HX15.out.1 HGD.out.1 (good_some cl HGD.out.1) q) sm HSM.out
            (fun hsm q => signG_eq d cd true HX15.out.2 HGD.out.2 (by intro h0; rw [HSM.out, h0] at hsm; simp at hsm) q) R (.inl ⟨rfl, HR2.out.symm⟩)
          rw [e1, e2] at C3
          have HB := Lib.hid (fun w' (hO : RefOut T3 w3 w' P a cap d most R) => (show RefOut S w0 w' P a cap d most R by
            cases R with
            | ok x => exact hback _ _ _ _ hO
            | error k => obtain ⟨hk, q, o, h⟩ := hO; exact ⟨hk, q, o, hback _ _ _ _ h⟩))
          clear h1 h3 hd hd3 X1 X2 hTnew hback hcells hdcells g12 g23 g13 e1 e2
          go_wp2_with fail
          refine Calls.mono C3 ?_
          rintro e w4 ⟨rfl, hO⟩
          go_wp2_with fail
          go_end0
          exact ⟨rfl, HB.out _ hO⟩
end
end Go.Proofs.Ytaapnjhkflpiiaa
