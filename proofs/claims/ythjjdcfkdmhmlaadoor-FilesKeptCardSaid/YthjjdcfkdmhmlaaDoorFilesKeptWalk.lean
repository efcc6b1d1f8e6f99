/-
  The law FilesKept, walked.
-/
import Derived.Test.YthjjdcfkdmhmlaaDoorFkPure
import Derived.Test.YthjjdcfkdmhmlaaDoorStWrite2
import Derived.Test.YthjjdcfkdmhmlaaDoorOpen7
import Derived.Test.YthjjdcfkdmhmlaaDoorStrOps
import Derived.Test.YthjjdcfkdmhmlaaDoorCat
namespace Go.Proofs.YthjjdcfkdmhmlaaDoor
open Go.RowKit Go.Mix Go.WideMaps Go.Maps

section
variable {B p : Nat} {w0 w w' : World} {own own' : Owns} {S S' : StP}
theorem Live.left3 (h : Live B w0 own w p S) {r : StP × Int} {e : Ending} (k : Left own w p r e w') : e = .returned (.int .i64 r.2) ∧ ∃ own', Live B w0 own' w' p r.1 ∧ (∀ k, k < w.heap.size → own' k = own k) ∧ ∀ k, k < w.heap.size → own k = none → w'.heap[k]? = w.heap[k]? := by
  obtain ⟨e1, own', h1, h2⟩ := k
  exact ⟨e1, own', h.turn h1 h2, h2.ow.old, fun k hk ho => (h2.frame.keep k ⟨hk, fun hn => hn ho⟩).2⟩
theorem Live.crashed3 (h : Live B w0 own w p S) {e : Ending} (k : CrashLeft own w p S' e w') : e = .returned (.tuple #[]) ∧ ∃ own', Live B w0 own' w' p S' ∧ (∀ k, k < w.heap.size → own' k = own k) ∧ ∀ k, k < w.heap.size → own k = none → w'.heap[k]? = w.heap[k]? := by
  obtain ⟨e1, own', h1, h2⟩ := k
  exact ⟨e1, own', h.turn h1 h2, h2.ow.old, fun k hk ho => (h2.frame.keep k ⟨hk, fun hn => hn ho⟩).2⟩
theorem Live.grown (h : Live B w0 own w p S) {row : Option Nat} (g : w.grownBy w' row) (hr : ∀ k, row = some k → own k = none ∧ B ≤ k) : Live B w0 own w' p S := by
  have hB : B ≤ w.heap.size := Nat.le_trans h.le h.frame.size
  exact ⟨h.at_.keep ((FrameS.refl h.at_.lt).grown g fun k hk hn => hn (hr k hk).1), h.far,
    ⟨g.os.trans h.frame.os, g.tape.trans h.frame.tape, g.output.trans h.frame.output, Nat.le_trans h.frame.size g.size, fun k hk => (g.block k (by omega) (fun e => by have := (hr k e.symm).2; omega)).trans (h.frame.block k hk)⟩, h.le⟩
end
theorem text_cell2 {w : World} {b q : Nat} {x : Bytes} (h : w.rangeAt b q (encS x)) : w.cell? ⟨b, q, none⟩ = some (.string (strOf x)) := h 0 _ rfl
/-- A row whose block nobody else holds. -/
structure RowF (own : Owns) (B : Nat) (w : World) (v : Value) (st : List Bytes) : Prop where
  row : w.ownsRow B 9 1 v st.length (flatR encS st)
  free : ∀ g, v.ownBlock = some g → own g = none
section
variable {B : Nat} {w w' : World} {own own' : Owns} {v : Value} {st : List Bytes}
theorem RowF.lt (h : RowF own B w v st) {g : Nat} (hg : v.ownBlock = some g) : B ≤ g ∧ g < w.heap.size := World.ownsRow.lt h.row g hg
theorem RowF.kept (h : RowF own B w v st) (h1 : ∀ k, k < w.heap.size → own' k = own k) (h2 : ∀ k, k < w.heap.size → own k = none → w'.heap[k]? = w.heap[k]?) : RowF own' B w' v st := by
  refine ⟨⟨h.row.1, h.row.2.imp id ?_⟩, fun g hg => by rw [h1 g (h.lt hg).2]; exact h.free g hg⟩
  rintro ⟨g, cap, cur, rfl, h0, hh, r⟩
  exact ⟨g, cap, cur, rfl, h0, (h2 g (lt_of_block hh) (h.free g rfl)).trans hh, r⟩
theorem RowF.below (h : RowF own B w v st) (g : Below w.heap.size w w') : RowF own B w' v st := h.kept (fun _ _ => rfl) fun k hk _ => g.block k hk
theorem RowF.rs (h : RowF own B w v st) : ∃ a c, v = .slice a st.length c ∧ RsAt encS 1 w a c st := by
  rcases h.row.2 with ⟨rfl, h0⟩ | ⟨g, cap, cur, rfl, _, hh, hn, hm, _, ht⟩
  · have e0 := List.eq_nil_of_length_eq_zero h0
    subst e0
    exact ⟨none, 0, rfl, RsAt.nil w⟩
  · unfold maxLen at hm
    refine ⟨some ⟨g, 0, none⟩, cap, rfl, ⟨hn, by omega, (fun h => nomatch h), .inr ⟨g, 0, rfl, (tyS.range_flat st 0).1 fun j u hj => ?_⟩⟩⟩
    have hjl : j < (flatR encS st).length := (List.getElem?_eq_some_iff.1 hj).1
    have hfl : (flatR encS st).length = st.length * 1 := tyS.flat_len st
    have h2 : (cur.toList.take (st.length * 1))[j]? = (flatR encS st)[j]? := by rw [ht]
    rw [List.getElem?_take, if_pos (by omega), hj] at h2
    simp only [World.cell?, hh, Nat.zero_add]
    simpa using h2
theorem RowF.one (hB : B ≤ w.heap.size) (x : Bytes) (ho : own w.heap.size = none) : RowF own B (w.alloc (.cells (recA encS x) 9)) (.slice (some ⟨w.heap.size, 0, none⟩) 1 1) [x] :=
  ⟨⟨rfl, .inr ⟨_, 1, recA encS x, rfl, hB, heap_alloc_last _ _ _ rfl, Nat.le_refl _, by decide, rfl, rfl⟩⟩, fun g hg => by injection hg with hg; rw [← hg]; exact ho⟩
end
set_option maxRecDepth 100000 in
/-- 'append' of one value onto a row. -/
theorem wpList_append_f {B : Nat} {w : World} {ops : Array Oper} {rest : List Oper} {o : Oper} {a : Act} {Q : Exit → Act → World → Prop} (hgd : o.guard = none) (s x : Operand)
    (ho : o.op = .call { callee := .builtin .append, args := #[s, x], argTypes := #[36, 36] })
    (v : Value) (xs : List Bytes) (hs : a.eval s = v) (own : Owns) (hR : RowF own B w v xs) (hB : B ≤ w.heap.size) (hnew : own w.heap.size = none) (ad : Addr) (c : Nat) (y : Bytes) (hx : a.eval x = .slice (some ad) 1 c) (hy : RsAt encS 1 w (some ad) c [y])
    (hlen : xs.length ≤ 100000000)
    (h : ∀ v' w', RowF own B w' v' (xs ++ [y]) → w.grownBy w' v.ownBlock → wpList Tryd.prog ops Q rest (a.put o.dst v') w') : wpList Tryd.prog ops Q (o :: rest) a w := by
  obtain ⟨z, by_, hi0, hzs, hby⟩ := tyS.hi
  obtain ⟨i, hi, hz0, hz1, hz2⟩ := info_parts hi0
  have hbound : (xs.length + 1) * by_ ≤ 140737488355328 := Nat.le_trans (Nat.mul_le_mul (Nat.succ_le_succ hlen) hby) (by decide)
  rcases hy.cells with h0 | ⟨b, off, hbe, hc⟩
  · cases h0
  injection hbe with hbe
  subst hbe
  refine wpList_append_own_at w hgd s x 36 ho B 9 i _ 1 by_ tyS.ht hi hz0 hz1 hz2 hzs tyS.pos v xs.length (flatR encS xs) hs hR.row _ 1 c (flatR encS [y]) hx (by rw [tyS.flat_len]; rfl) (fun j u hj => ?_) (tyS.flat_oneCell [y]) (by unfold maxLen; omega) hbound hB ?_
  · rw [Addr.add_mid]; exact (tyS.range_flat [y] off).2 hc j u hj
  · intro v' w' h1 h2 _ h4
    refine h v' w' ⟨by rw [List.length_append, flatR_append]; exact h1, fun g hg => ?_⟩ h2
    rcases h4 with h4 | h4
    · rw [h4] at hg; exact hR.free g hg
    · rw [h4] at hg; injection hg with hg; rw [← hg]; exact hnew

set_option maxRecDepth 100000 in
set_option maxHeartbeats 4000000 in
theorem filesKept_walk (a0 : ByteArray) (a1 : Option Addr) (len1 cap1 : Nat) (z1 : List Int) (a2 : Option Addr) (len2 cap2 : Nat) (g2 : List RowA) (keep : Int) (w : World)
    (h0 : a0.size ≤ maxLen)
    (h1 : (a1 = none ∧ len1 = 0 ∧ cap1 = 0 ∧ z1 = []) ∨ ∃ x, a1 = some x ∧ len1 ≤ cap1 ∧ cap1 ≤ maxLen ∧ z1.length = cap1 ∧ (∀ i, i < z1.length → w.cell? (x.add i) = some (.int .u8 (z1.getD i 0))) ∧ ∀ n ∈ z1, (Lit.int .u8 n).wf = true)
    (hl : g2.length = len2) (h2 : RsAt encR 1 w a2 cap2 g2) (hx : ∀ p ∈ g2, RowIs w p) (_h3 : (Lit.int .i64 keep).wf = true) :
    Calls Tryd.prog 5 #[.string a0, .slice a1 len1 cap1, .slice a2 len2 cap2, .int .i64 keep] w fun e w' => e = .returned (.bool true) ∧ Below w.heap.size w w' := by
  obtain ⟨path, rfl⟩ : ∃ U, a0 = strOf U := ⟨a0.data.toList, by unfold strOf; rw [Array.toArray_toList]⟩
  obtain ⟨L, hLl, hL, hlc, hcm, hnone⟩ := open_row h1
  clear h1 h0
  obtain ⟨q, hq⟩ : ∃ q, q = min len1 300 := ⟨_, rfl⟩
  have MR := min_run (len1 : Int) 300 q (by split <;> omega)
  have SL : ∀ W : World, (Instr.slice 28 (.slice a1 len1 cap1) none (some (.int .i64 (q : Int))) none).run Tryd.prog W = .ok (.slice a1 q cap1) W := fun W => run_slice_to 28 Tryd.underlying28 a1 len1 cap1 q (by omega) (fun h => (hnone h).2) (n := 1) (fun w => by kernel_rfl) W
  obtain ⟨b, hb⟩ : ∃ b, b = L.take q := ⟨_, rfl⟩
  have hbl : b.length = q := by rw [hb, List.length_take]; omega
  have hsl : Sl w a1 cap1 b := ⟨by rw [hb]; exact hL.take q, by omega, by have e2 : maxLen = 9223372036854775807 := (by decide); omega, fun h => (hnone h).2⟩
  have HS := Lib.hid (And.intro hsl (And.intro (show b.length ≤ 300 by omega) hbl))
  have HG := Lib.hid (And.intro hl (And.intro h2 hx))
  obtain ⟨SP, hSP⟩ : ∃ SP, SP = strOf path := ⟨_, rfl⟩
  have HSP := Lib.hid hSP
  rw [← hSP]
  clear hb hL hLl hq hnone hlc hcm hsl hSP hl h2 hx hbl
  have CN := new_live 1048576 w
  go_enter Tryd.func5, Tryd.ntmps5
  go_wp2_with fail
  refine CN.mono ?_
  clear CN
  rintro e w2 ⟨p, own2, rfl, l2⟩
  have L2 := Lib.hid l2
  clear l2
  obtain ⟨R, hR⟩ : ∃ R, R = rightF path := ⟨_, rfl⟩
  cases R
  case false =>
    have C3 := write_bad L2.out.at_ rfl path hR.symm 0 (.slice a1 q cap1)
    rw [← HSP.out] at C3
    clear hR
    go_wp2_with fail
    refine C3.mono ?_
    clear C3
    rintro e w3 ⟨rfl, hw3⟩
    have l3 := L2.out.below hw3
    have L3 := Lib.hid l3
    clear hw3 l3
    go_wp2_with fail
    refine (known_any _).mono ?_
    rintro e w4 ⟨rfl, hw4⟩
    have l4 := L3.out.below hw4
    have C5 := list_at l4.at_ (OkS.new 1048576 ⟨by decide, by decide⟩) []
    change Calls _ _ _ _ (fun e w' => ∃ a c, e = .returned (.slice a 0 c) ∧ RsAt encS 1 w' a c [] ∧ Below _ _ w') at C5
    have L4 := Lib.hid l4
    clear hw4 l4
    go_wp2_with fail
    refine C5.mono ?_
    clear C5
    rintro e w5 ⟨a5, c5, rfl, -, hb5⟩
    have L5 := Lib.hid (L4.out.below hb5)
    clear hb5
    go_wp2_with fail
    go_ret
    exact ⟨rfl, L5.out.frame⟩
  case true =>
    have hpl := right_len hR.symm
    have C3 := write_at2 L2.out.at_ (OkS.new 1048576 ⟨by decide, by decide⟩) (by decide) path (by omega) 0 ⟨by decide, by decide⟩ (HS.out.1.below L2.out.frame) HS.out.2.2.symm (by have := HS.out.2.1; have := HS.out.2.2; omega) (fun hne x hx => L2.out.not_old (HS.out.1.blk hne x hx))
    have ok3 := (OkS.new 1048576 ⟨by decide, by decide⟩).write path 0 b
    rw [kept1_eq path b HS.out.2.1 hR.symm] at C3 ok3
    rw [← HSP.out] at C3
    have ok4 := ok3.sync path
    rw [kept2_eq] at ok4
    have HR := Lib.hid (And.intro hR (And.intro hpl (And.intro (ok3.mono (show 0 + b.length + 1 ≤ 301 by have := HS.out.2.1; omega)) (ok4.mono (show 0 + b.length + 1 ≤ 301 by have := HS.out.2.1; omega)))))
    clear hR hpl ok3 ok4
    go_wp2_with fail
    refine C3.mono ?_
    clear C3
    rintro e w3 hl
    obtain ⟨rfl, own3, l3⟩ := L2.out.left hl
    have C4 := sync_at l3.at_ HR.out.2.2.1 path (by have := HR.out.2.1; omega)
    rw [kept2_eq, ← HSP.out] at C4
    have L3 := Lib.hid l3
    clear l3 hl SL MR
    go_wp2_with fail
    refine C4.mono ?_
    clear C4
    rintro e w4 hl
    obtain ⟨rfl, own4, l4⟩ := L3.out.left hl
    have ST := (HS.out.1.below l4.frame).str
    change (convert 28 9 (.slice a1 b.length cap1)).run Tryd.prog w4 = .ok (.string (strOf b)) w4 at ST
    have ha5 : Below w4.heap.size w4 (w4.alloc (.cells (recA encS b) 9)) := (Below.refl _ _).alloc (Nat.le_refl _) _
    have l5 := l4.below ha5
    have ST2 := (HS.out.1.below l5.frame).str
    change (convert 28 9 (.slice a1 b.length cap1)).run Tryd.prog (w4.alloc (.cells (recA encS b) 9)) = .ok (.string (strOf b)) (w4.alloc (.cells (recA encS b) 9)) at ST2
    rw [HS.out.2.2] at ST ST2
    have S1 := tyS.slice1 b w4
    have R5 : RowF own4 w.heap.size (w4.alloc (.cells (recA encS b) 9)) (.slice (some ⟨w4.heap.size, 0, none⟩) 1 1) [b] := RowF.one l4.frame.size b (l4.not_new (Nat.le_refl _))
    have L5 := Lib.hid (And.intro l5 R5)
    clear l4 l5 R5 hl ha5
    go_wp2_with (first | (refine wpList_buildSlice_at rfl _ _ _ rfl [(0, strV b)] _ rfl S1 ?_))
    clear ST ST2 S1
    generalize w4.alloc (.cells (recA encS b) 9) = w5 at *
    go_loopw [10, 11, 12] (fun s10 s11 s12 wr => ∃ (i : Nat) (v : Value) (st : List Bytes) (f : FileP) (S : StP) (own' : Owns), v = s10 ∧ s11 = .string (strOf f.now) ∧ s12 = .int .i64 (i : Int) ∧ i ≤ 60 ∧ st.length = i + 1 ∧ f.now.length ≤ 300 * (i + 1) ∧ KeptP path S st f ∧ OkS (301 * (i + 1)) S ∧ Live w.heap.size w own' wr p S ∧ RowF own' w.heap.size wr v st) (fun _ _ s12 _ => 60 - (intOf s12).toNat)
    case atStart => exact ⟨0, _, _, ⟨b, b, []⟩, _, own4, rfl, rfl, rfl, by omega, rfl, by have := HS.out.2.1; simpa using this, KeptP.start path b, HR.out.2.2.2, L5.out.1, L5.out.2⟩
    case round =>
      obtain ⟨i, v, st, f, S, own5, rfl, rfl, rfl, hi, hst, hnow, hK, ok, hlive, hrow⟩ := hrel
      have H5 := Lib.hid (And.intro hst (And.intro hnow (And.intro hK (And.intro ok (And.intro hlive hrow)))))
      clear hst hnow hK ok hlive hrow
      obtain ⟨B, hB⟩ : ∃ B, B = (decide (i < len2) && decide (i < 60)) := ⟨_, rfl⟩
      have HB := Lib.hid hB
      clear hB
      go_upto_region 8 with (fail)
      go_cut [55] from 48 to 55 (fun s55 wx => s55 = .bool B ∧ wr = wx)
      case first =>
        have hB := HB.out
        by_cases c1 : i < len2
        · have t1 : decide ((i : Int) < (len2 : Int)) = true := decide_eq_true (by omega)
          have t1' : decide (i < len2) = true := decide_eq_true c1
          by_cases c2 : i < 60
          · have t2 : decide ((i : Int) < 60) = true := decide_eq_true (by omega)
            have t2' : decide (i < 60) = true := decide_eq_true c2
            rw [t1', t2'] at hB
            subst hB
            go_wp2_with fail
            go_meet
            exact ⟨rfl, rfl⟩
          · have t2 : decide ((i : Int) < 60) = false := decide_eq_false (by omega)
            have t2' : decide (i < 60) = false := decide_eq_false c2
            rw [t1', t2'] at hB
            subst hB
            go_wp2_with fail
            go_meet
            exact ⟨rfl, rfl⟩
        · have t1 : decide ((i : Int) < (len2 : Int)) = false := decide_eq_false (by omega)
          have t1' : decide (i < len2) = false := decide_eq_false c1
          rw [t1'] at hB
          obtain rfl : B = false := hB
          go_wp2_with fail
          go_meet
          exact ⟨rfl, rfl⟩
      case rest =>
        obtain ⟨rfl, rfl⟩ := hcut
        cases B
        case true =>
          have hB := HB.out
          have c1 : i < len2 := Classical.byContradiction fun c => by rw [decide_eq_false c] at hB; cases hB
          have hi6 : i < 60 := Classical.byContradiction fun c => by rw [decide_eq_false c, Bool.and_false] at hB; cases hB
          have hil : i < g2.length := by rw [HG.out.1]; exact c1
          obtain ⟨o1, o2, IX, R, -⟩ := (HG.out.2.1.below H5.out.2.2.2.2.1.frame).at1 tyR (i : Int) i rfl hil
          obtain ⟨l, hxn, hxs⟩ := HG.out.2.2 g2[i]! (by rw [getElem!_pos g2 i hil]; exact List.getElem_mem hil)
          rw [HG.out.1] at IX
          generalize g2[i]! = x at R hxn hxs
          obtain ⟨xa, xn, xc⟩ := x
          have CR : wr.cell? ⟨o1, o2, none⟩ = some (.slice xa xn xc) := R 0 _ rfl
          change xn = l.length at hxn
          change Sl w xa xc l at hxs
          have LC : ∀ y : Later wr, y.1.cell? ⟨o1, o2, none⟩ = some (.slice xa xn xc) := fun y => load_later CR y
          obtain ⟨j, hj⟩ : ∃ j, j = min xn 300 := ⟨_, rfl⟩
          have MX := min_run (xn : Int) 300 j (by split <;> omega)
          have SX : ∀ W : World, (Instr.slice 28 (.slice xa xn xc) none (some (.int .i64 (j : Int))) none).run Tryd.prog W = .ok (.slice xa j xc) W := fun W => run_slice_to 28 Tryd.underlying28 xa xn xc j (by have := hxs.le; omega) hxs.non (n := 1) (fun w => by kernel_rfl) W
          obtain ⟨d, hd⟩ : ∃ d, d = l.take j := ⟨_, rfl⟩
          have hdl : d.length = j := by rw [hd, List.length_take]; omega
          have hds : Sl w xa xc d := ⟨by rw [hd]; exact hxs.bs.take j, by have := hxs.le; omega, hxs.max, hxs.non⟩
          have HD := Lib.hid (And.intro hds (And.intro hdl (show d.length ≤ 300 by omega)))
          clear hB hil R c1 CR hxn hxs hj hd hdl hds HB
          go_upto_region 10 with (fail)
          refine wp_region_mg [(0, 0), (1, 0), (2, 0), (3, 0), (4, 0), (5, 0), (6, 0), (7, 0), (8, 0), (9, 0), (10, 0), (11, 0)] (by kernel_rfl) (by kernel_rfl) ?_
          iterate 12 (refine mg_calm rfl (fun K hK => ?_); go_simp; (refine hK _ ?_; clear hK K))
          refine mg_nil fun w6 hw6 => ?_
          have l6 := H5.out.2.2.2.2.1.below hw6
          obtain ⟨nn, hnn⟩ : ∃ nn, nn = f.now.length := ⟨_, rfl⟩
          have hnb := H5.out.2.1
          have hdb := HD.out.2.2
          have hszn : (strOf f.now).size = nn := by rw [strOf_size, hnn]
          obtain ⟨S', f', he, hK', hnow'⟩ := H5.out.2.2.1.write HR.out.1.symm d (by omega)
          have C7 := write_at2 l6.at_ H5.out.2.2.2.1 (by omega) path (by have := HR.out.2.1; omega) (f.now.length : Int) ⟨by omega, by omega⟩ (HD.out.1.below l6.frame) HD.out.2.1.symm (by have := HD.out.2.1; omega) (fun hne x hx => l6.not_old (HD.out.1.blk hne x hx))
          have ok' := H5.out.2.2.2.1.write path (f.now.length : Int) d
          rw [he] at C7 ok'
          rw [← HSP.out, ← hnn] at C7
          have H6 := Lib.hid (And.intro l6 (And.intro (H5.out.2.2.2.2.2.below hw6) (And.intro hK' (And.intro hnow' (And.intro (ok'.mono (show 301 * (i + 1) + d.length + 1 ≤ 301 * (i + 1 + 1) by omega)) hnn)))))
          clear l6 hw6 IX LC MX SX he hK' hnow' ok' hnn hnb hdb
          go_wp2_with fail
          refine C7.mono ?_
          clear C7
          rintro e w7 hleft
          obtain ⟨rfl, own7, l7, hold, hkeep⟩ := H6.out.1.left3 hleft
          have r7 := H6.out.2.1.kept hold hkeep
          have ST := (HD.out.1.below l7.frame).str
          change (convert 28 9 (.slice xa d.length xc)).run Tryd.prog w7 = .ok (.string (strOf d)) w7 at ST
          rw [HD.out.2.1] at ST
          have hnl : f.now.length ≤ 20000 := by have := H5.out.2.1; omega
          have AD := fun W => str_add f.now d (by omega) (by have := HD.out.2.2; omega) W
          rw [← H6.out.2.2.2.1] at AD
          have ha8 : Below w7.heap.size w7 (w7.alloc (.cells (recA encS f'.now) 9)) := (Below.refl _ _).alloc (Nat.le_refl _) _
          have l8 := l7.below ha8
          have r8 := r7.below ha8
          have P8 := RsAt.one (enc := encS) (L := 1) w7 9 f'.now
          have S1 := tyS.slice1 f'.now w7
          have hn8 : own7 (w7.alloc (.cells (recA encS f'.now) 9)).heap.size = none := l8.not_new (Nat.le_refl _)
          have H8 := Lib.hid (And.intro l8 (And.intro r8 (And.intro P8 hn8)))
          clear l7 r7 hold hkeep hleft ha8 l8 r8 P8 hn8 hszn
          go_wp2_with (first | (refine wpList_buildSlice_at rfl _ _ _ rfl [(0, strV f'.now)] _ rfl S1 ?_) | (refine wpList_append_f rfl (.tmp 80) (.tmp 82) rfl v st rfl own7 H8.out.2.1 H8.out.1.frame.size H8.out.2.2.2 _ _ f'.now rfl H8.out.2.2.1 (by have := H5.out.1; omega) ?_; intro v9 w9 hr9 hg9; have H9 := Lib.hid (And.intro (H8.out.1.grown hg9 (fun k hk => ⟨H8.out.2.1.free k hk, (H8.out.2.1.lt hk).1⟩)) hr9); clear hr9 hg9 S1 ST AD))
          go_roundw
          case rel => exact ⟨i + 1, v9, _, f', S', own7, rfl, rfl, by go_num, by omega, by rw [List.length_append, H5.out.1]; rfl, by rw [H6.out.2.2.2.1, List.length_append]; have := H5.out.2.1; have := HD.out.2.2; omega, by have := H6.out.2.2.1; rw [← H6.out.2.2.2.1] at this; exact this, H6.out.2.2.2.2.1, H9.out.1, H9.out.2⟩
          case measure => simp [intOf]; omega
        case false =>
          have hK := H5.out.2.2.1
          obtain ⟨av, cv, hv, -⟩ := H5.out.2.2.2.2.2.rs
          obtain ⟨n, hn⟩ : ∃ n, n = st.length := ⟨_, rfl⟩
          rw [← hn] at hv
          subst hv
          obtain ⟨kk, hkk⟩ : ∃ kk : Nat, kk = (min (max keep 0) ((st.length : Int) - 1)).toNat := ⟨_, rfl⟩
          obtain ⟨x, hxk⟩ : ∃ x, x = st[kk]! := ⟨_, rfl⟩
          have hcr := hK.crash keep
          rw [← hkk, ← hxk] at hcr
          have hni : n = i + 1 := by rw [hn]; exact H5.out.1
          obtain ⟨m, hm⟩ : ∃ m, m = max keep 0 := ⟨_, rfl⟩
          have MX := max_run keep 0 m hm
          have MI := min_runI m ((n : Int) - 1) (kk : Int) (by rw [hkk, ← hn, ← hm]; omega)
          have hw1 : IntKind.i64.wrap ((n : Int) - 1) = (n : Int) - 1 := IntWalk.i64_in _ (by omega)
          have hkl : kk < st.length := by rw [hkk, ← hn]; omega
          have k6 : RsAt encI 1 (wr.alloc (.cells #[.int .i64 keep] 3)) (some ⟨wr.heap.size, 0, none⟩) 1 [keep] := const_ints wr [keep] (by simp) (0, 0)
          have ha : Below wr.heap.size wr (wr.alloc (.cells #[.int .i64 keep] 3)) := (Below.refl _ _).alloc (Nat.le_refl _) _
          have l6 := H5.out.2.2.2.2.1.below ha
          have C6 := crash_at l6.at_ H5.out.2.2.2.1 (by omega) k6 rfl (by show 1 ≤ 1000000; decide) (fun y hy => by injection hy with hy; rw [← hy]; exact H5.out.2.2.2.2.1.not_new (Nat.le_refl _))
          have ok6 := H5.out.2.2.2.1.crash [keep] (fun h => absurd h (by rw [hK.eq]; show ¬ (1048576 : Int) < 0; decide))
          rw [hcr] at C6 ok6
          have H6 := Lib.hid (And.intro l6 (And.intro (H5.out.2.2.2.2.2.below ha) (And.intro ok6 (And.intro hn (And.intro hxk hkl)))))
          clear l6 ha k6 ok6 hcr hkl hni hm hkk hK hn hxk HB
          go_wp2_with fail
          refine C6.mono ?_
          clear C6
          rintro e w7 hleft
          obtain ⟨rfl, own7, l7, hold, hkeep⟩ := H6.out.1.crashed3 hleft
          have r7 := H6.out.2.1.kept hold hkeep
          have C8 := read_at l7.at_ H6.out.2.2.1 (by omega) path (by have := HR.out.2.1; omega)
          rw [← HSP.out] at C8
          have H7 := Lib.hid (And.intro l7 r7)
          clear l7 r7 hold hkeep hleft
          go_wp2_with fail
          refine C8.mono ?_
          clear C8
          rintro e w8 ⟨hsome, -, hb8⟩
          obtain ⟨v8, rfl, hbuf8⟩ := hsome _ (still_get path x)
          change Buf w7.heap.size w7 w8 v8 x at hbuf8
          obtain ⟨a8, c8, rfl, hsl8⟩ := hbuf8.1.sl
          obtain ⟨nx, hnx⟩ : ∃ nx, nx = x.length := ⟨_, rfl⟩
          have hown8 : ∀ y, a8 = some y → own7 y.block = none ∧ y.block < w8.heap.size := fun y hy => by
            have h1 := ownB_block hbuf8.1 (g := y.block) (by rw [hy]; rfl)
            exact ⟨H7.out.1.not_new h1.1, h1.2⟩
          rw [← hnx]
          have l8 := H7.out.1.below hb8
          have k9 : RsAt encI 1 (w8.alloc (.cells #[.int .i64 5] 3)) (some ⟨w8.heap.size, 0, none⟩) 1 [5] := const_ints w8 [5] (by simp) (0, 0)
          have ha : Below w8.heap.size w8 (w8.alloc (.cells #[.int .i64 5] 3)) := (Below.refl _ _).alloc (Nat.le_refl _) _
          have l9 := l8.below ha
          have C9 := crash_at l9.at_ H6.out.2.2.1 (by omega) k9 rfl (by decide) (fun y hy => by injection hy with hy; rw [← hy]; exact l8.not_new (Nat.le_refl _))
          rw [still_crash] at C9
          have H9 := Lib.hid (And.intro l9 (And.intro ((H7.out.2.below hb8).below ha) (And.intro (hsl8.below ha) (And.intro (fun y hy => And.intro (hown8 y hy).1 (Nat.lt_of_lt_of_le (hown8 y hy).2 ha.size)) hnx))))
          clear hsome hb8 hbuf8 hsl8 hown8 l8 k9 ha l9 hnx
          go_wp2_with fail
          refine C9.mono ?_
          clear C9
          rintro e w10 hleft
          obtain ⟨rfl, own10, l10, hold, hkeep⟩ := H9.out.1.crashed3 hleft
          have r10 := H9.out.2.1.kept hold hkeep
          have s10 : Sl w10 a8 c8 x := sl_same H9.out.2.2.1 fun y hy => hkeep y.block (H9.out.2.2.2.1 y hy).2 (H9.out.2.2.2.1 y hy).1
          have C11 := read_at l10.at_ H6.out.2.2.1 (by omega) path (by have := HR.out.2.1; omega)
          rw [← HSP.out] at C11
          have H10 := Lib.hid (And.intro l10 (And.intro r10 s10))
          clear l10 r10 s10 hold hkeep hleft
          go_wp2_with fail
          refine C11.mono ?_
          clear C11
          rintro e w11 ⟨hsome, -, hb11⟩
          obtain ⟨v11, rfl, hbuf11⟩ := hsome _ (still_get path x)
          change Buf w10.heap.size w10 w11 v11 x at hbuf11
          obtain ⟨a11, c11, rfl, hsl11⟩ := hbuf11.1.sl
          rw [← H9.out.2.2.2.2]
          have l11 := H10.out.1.below hb11
          have r11 := H10.out.2.1.below hb11
          have s11 := H10.out.2.2.below hb11
          obtain ⟨X, hX⟩ : ∃ X, X = strOf x := ⟨_, rfl⟩
          have ST1 : ∀ y : Later w11, (convert 28 9 (.slice a8 nx c8)).run Tryd.prog y.1 = .ok (.string X) y.1 := fun y => by rw [hX, H9.out.2.2.2.2]; exact (s11.below y.2).str
          have ST2 : ∀ y : Later w11, (convert 28 9 (.slice a11 nx c11)).run Tryd.prog y.1 = .ok (.string X) y.1 := fun y => by rw [hX, H9.out.2.2.2.2]; exact (hsl11.below y.2).str
          obtain ⟨av', cv', hve, hrs⟩ := r11.rs
          injection hve with e1 e2 e3
          subst e1 e3
          obtain ⟨o1, o2, IX, RC, -⟩ := hrs.at1 tyS (kk : Int) kk rfl H6.out.2.2.2.2.2
          rw [← e2] at IX
          have cc := text_cell2 RC
          rw [← H6.out.2.2.2.2.1, ← hX] at cc
          have LC : ∀ y : Later w11, y.1.cell? ⟨o1, o2, none⟩ = some (.string X) := fun y => load_later cc y
          have EX : (X.toList == X.toList) = true := by simp
          have H11 := Lib.hid l11
          clear l11 r11 s11 hsome hb11 hbuf11 hsl11 hrs RC cc hX e2 MX MI
          go_upto_region 20 with (fail)
          refine wp_region_mg [(0, 0), (1, 0), (2, 0), (3, 0), (4, 0), (5, 0), (6, 0), (7, 0), (8, 0), (9, 0), (10, 0), (11, 0), (12, 0), (13, 0), (14, 0), (15, 0), (16, 0), (17, 0), (18, 0), (19, 0), (20, 0), (21, 0), (22, 0), (23, 0), (24, 0), (25, 0), (26, 0), (27, 0), (28, 0), (29, 1), (30, 0), (31, 0), (32, 0), (33, 0)] (by kernel_rfl) (by kernel_rfl) ?_
          refine mg_calm rfl (fun K hK => ?_)
          go_simp
          refine ⟨.bool true, fun y => known_any y.1, hK _ ?_⟩
          clear hK K
          iterate 28 (refine mg_calm rfl (fun K hK => ?_); go_simp; (refine hK _ ?_; clear hK K))
          refine mg_loud rfl rfl (fun w12 hw12 K hK => ?_)
          have l12 := H11.out.below hw12
          have C12 := list_at l12.at_ H6.out.2.2.1 []
          rw [still_list] at C12
          change Calls _ _ _ _ (fun e w' => ∃ a c, e = .returned (.slice a 1 c) ∧ RsAt encS 1 w' a c [path] ∧ Below _ _ w') at C12
          have H12 := Lib.hid l12
          clear l12 hw12 LC ST1 ST2 IX
          go_wp2_with fail
          refine C12.mono ?_
          clear C12
          rintro e w13 ⟨a13, c13, rfl, -, hb13⟩
          have H13 := Lib.hid (H12.out.below hb13)
          go_wp2_with fail
          refine hK _ _ hb13 ?_
          clear hK K hb13
          iterate 4 (refine mg_calm rfl (fun K hK => ?_); go_simp; (refine hK _ ?_; clear hK K))
          refine mg_nil fun w14 hw14 => ?_
          have H14 := Lib.hid (H13.out.below hw14)
          clear hw14
          go_wp2_with fail
          go_ret
          exact ⟨rfl, H14.out.frame⟩
end Go.Proofs.YthjjdcfkdmhmlaaDoor
