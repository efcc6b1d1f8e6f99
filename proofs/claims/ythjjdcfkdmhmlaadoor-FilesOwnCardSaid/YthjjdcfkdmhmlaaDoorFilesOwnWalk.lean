/-
  The law FilesOwn, walked.
-/
import Derived.Test.YthjjdcfkdmhmlaaDoorStKnown
namespace Go.Proofs.YthjjdcfkdmhmlaaDoor
open Go.RowKit Go.Mix Go.WideMaps Go.Maps

theorem OwnB.stored {w : World} {B g n c : Nat} {l : Bytes} (h : OwnB w B (.slice (some ⟨g, 0, none⟩) n c) l) (k : Nat) (x : UInt8) (z : Int) (hz : z = (x.toNat : Int)) : OwnB (w.setCell ⟨g, k, none⟩ (.int .u8 z)) B (.slice (some ⟨g, 0, none⟩) n c) (l.set k x) := by
  subst hz
  have hn : n = l.length := by
    obtain ⟨a, c', e, _⟩ := h.bs
    injection e
  subst hn
  have h1 := (World.ownsRow.stored h k (.int .u8 (x.toNat : Int))).1
  have e : bcells (l.set k x) = (bcells l).set k (.int .u8 (x.toNat : Int)) := by unfold bcells; rw [List.map_set]
  unfold OwnB
  rw [e, List.length_set]
  exact h1
theorem Live.set {B p : Nat} {w0 w : World} {own : Owns} {S : StP} (h : Live B w0 own w p S) {g : Nat} (hg : B ≤ g) (ho : own g = none) (k : Nat) (u : Value) : Live B w0 own (w.setCell ⟨g, k, none⟩ u) p S := by
  refine ⟨h.at_.keep ((FrameS.refl h.at_.lt).setCell (p := ⟨g, k, none⟩) (fun hn => hn ho) u), h.far, ?_, h.le⟩
  exact ⟨h.frame.os, h.frame.tape, h.frame.output, by have := h.frame.size; simpa [World.setCell] using this, fun j hj => (Below.heap_setCell _ _ _ _ (by show j ≠ g; omega)).trans (h.frame.block j hj)⟩

theorem Live.left2 {B p : Nat} {w0 w w' : World} {own : Owns} {S : StP} (h : Live B w0 own w p S) {r : StP × Int} {e : Ending} (k : Left own w p r e w') : e = .returned (.int .i64 r.2) ∧ ∃ own', Live B w0 own' w' p r.1 ∧ ∀ k, k < w.heap.size → own' k = own k := by
  obtain ⟨e1, own', h1, h2⟩ := k
  exact ⟨e1, own', h.turn h1 h2, h2.ow.old⟩
theorem Live.rebase {B B1 p : Nat} {w0 w1 w : World} {own : Owns} {S : StP} (h : Live B1 w1 own w p S) (g : Below B w0 w1) (hB : B ≤ B1) (hB0 : B ≤ w0.heap.size) : Live B w0 own w p S :=
  ⟨h.at_, fun k hk => Nat.le_trans hB (h.far k hk), g.trans (h.frame.mono hB), hB0⟩

/-- A byte of one's own is turned. -/
theorem flip_facts {wr : World} {B : Nat} {av : Option Addr} {n cv : Nat} {l' : Bytes} (ho : OwnB wr B (.slice av n cv) l') (hn : n = l'.length) {i : Nat} (hi : i < n) : ∃ g, av = some ⟨g, 0, none⟩ ∧ B ≤ g ∧ g < wr.heap.size ∧
    (∀ W : World, (Instr.indexAt 28 (.slice av n cv) (.int .i64 (i : Int))).run Tryd.prog W = .ok (.pointer (some ⟨g, i, none⟩)) W) ∧ wr.cell? ⟨g, i, none⟩ = some (.int .u8 ((l'[i]!).toNat : Int)) ∧ wr.frozen? ⟨g, i, none⟩ = false := by
  obtain ⟨a', c', e, hs⟩ := ho.sl
  injection e with e1 e2 e3
  subst e1 e3
  rcases ho.2 with ⟨h1, h2⟩ | ⟨g, cap, cur, h1, hb, hh, _⟩
  · omega
  · injection h1 with h1 h2 h3
    subst h1 h3
    have hat := hs.at (i : Int) i rfl (by omega)
    have he : elt (some ⟨g, 0, none⟩) i = ⟨g, i, none⟩ := by unfold elt Addr.add; simp only [Option.getD_some]; split <;> simp_all
    rw [he] at hat
    refine ⟨g, rfl, hb, lt_of_block hh, fun W => by rw [hn]; exact hat.1 W, ?_, free_blk hh i⟩
    rw [hat.2, getElem!_pos l' i (by omega)]

set_option maxRecDepth 100000 in
theorem write_nil (path : Bytes) (at_ : Int) (v : Value) (w : World) : Calls Tryd.prog 11 #[.pointer none, .string (strOf path), .int .i64 at_, v] w fun e w' => e = .returned (.int .i64 8) ∧ w = w' := by
  go_enter Tryd.func11, Tryd.ntmps11
  go_wp2_with fail
  refine (off_nil w).mono ?_
  rintro e w' ⟨rfl, rfl⟩
  go_wp2_with fail
  go_ret
  exact ⟨rfl, rfl⟩
set_option maxRecDepth 100000 in
theorem sync_nil (path : Bytes) (w : World) : Calls Tryd.prog 14 #[.pointer none, .string (strOf path)] w fun e w' => e = .returned (.int .i64 8) ∧ w = w' := by
  go_enter Tryd.func14, Tryd.ntmps14
  go_wp2_with fail
  refine (off_nil w).mono ?_
  rintro e w' ⟨rfl, rfl⟩
  go_wp2_with fail
  go_ret
  exact ⟨rfl, rfl⟩

/-- One file, written at once. -/
def oneS (l : Bytes) : StP := ⟨1048576, l.length, [([97], ⟨l, [], [⟨0, -1, l⟩]⟩)], false, false, 0⟩
theorem oneS_eq (l : Bytes) (h : l.length ≤ 300) : writeS (newS 1048576) [97] 0 l = (oneS l, 0) := by
  unfold writeS
  rw [if_neg (by show ¬ false = true; simp), if_neg (by decide), if_neg (by decide)]
  have e0 : (getF (newS 1048576).files [97]).getD file0 = file0 := rfl
  rw [e0, if_neg (by show ¬ ((0 : Nat) : Int) < 0; decide)]
  have e1 : max 0 ((0 : Int) + (l.length : Int) - ((file0.now.length : Nat) : Int)) = (l.length : Int) := by show max 0 (0 + (l.length : Int) - ((0 : Nat) : Int)) = _; omega
  rw [e1, if_neg (by
    show ¬ ((decide ((l.length : Int) > 1048576 - 0) && decide ((l.length : Int) > 0)) || (true && decide (10000 ≤ 0))) = true
    rw [decide_eq_false (by omega : ¬ (l.length : Int) > 1048576 - 0)]
    simp)]
  have e2 : doF file0 ⟨(0 : Int).toNat, -1, l⟩ = ⟨l, [], [⟨0, -1, l⟩]⟩ := by
    unfold doF Chg.on file0
    simp
  rw [e2]
  unfold doneS
  rw [if_neg (by show ¬ false = true; simp)]
  simp [newS, oneS, putF, delF, insF]
theorem oneS_ok (l : Bytes) (h : l.length ≤ 300) : OkS 301 (oneS l) := by
  have := (OkS.new 1048576 ⟨by decide, by decide⟩).write [97] 0 l
  rw [oneS_eq l h] at this
  exact this.mono (by omega)

set_option maxRecDepth 100000 in
set_option maxHeartbeats 4000000 in
theorem filesOwn_walk (a : Option Addr) (len cap : Nat) (zs : List Int) (w : World)
    (h : (a = none ∧ len = 0 ∧ cap = 0 ∧ zs = []) ∨ ∃ x, a = some x ∧ len ≤ cap ∧ cap ≤ maxLen ∧ zs.length = cap ∧ (∀ i, i < zs.length → w.cell? (x.add i) = some (.int .u8 (zs.getD i 0))) ∧ ∀ n ∈ zs, (Lit.int .u8 n).wf = true) :
    Calls Tryd.prog 6 #[.slice a len cap] w fun e w' => e = .returned (.bool true) ∧ Below w.heap.size w w' := by
  obtain ⟨L, hLl, hL, hlc, hcm, hnone⟩ := open_row h
  clear h
  obtain ⟨q, hq⟩ : ∃ q, q = min len 300 := ⟨_, rfl⟩
  have MR := min_run (len : Int) 300 q (by split <;> omega)
  have SL : ∀ W : World, (Instr.slice 28 (.slice a len cap) none (some (.int .i64 (q : Int))) none).run Tryd.prog W = .ok (.slice a q cap) W := fun W => run_slice_to 28 Tryd.underlying28 a len cap q (by omega) (fun h => (hnone h).2) (n := 1) (fun w => by kernel_rfl) W
  obtain ⟨b, hb⟩ : ∃ b, b = L.take q := ⟨_, rfl⟩
  have hbl : b.length = q := by rw [hb, List.length_take]; omega
  have hsl : Sl w a cap b := ⟨by rw [hb]; exact hL.take q, by omega, by have e2 : maxLen = 9223372036854775807 := (by decide); omega, fun h => (hnone h).2⟩
  have hq3 : b.length ≤ 300 := by omega
  have HBm := Buf.made (B := w.heap.size) (Below.refl _ w) (Nat.le_refl _)
  have HS := Lib.hid (And.intro (hsl.below ((Below.refl w.heap.size w).alloc (Nat.le_refl _) (.cells #[] 5))) (And.intro hq3 hbl))
  clear hb hL hLl hq hnone hlc hcm hsl hq3
  rw [← hbl] at SL MR
  clear hbl
  go_enter Tryd.func6, Tryd.ntmps6
  go_upto_region 2 with (first | (at_builtin; refine wpList_append_buf rfl _ _ rfl _ [] rfl HBm _ cap b rfl HS.out.1.bs HS.out.1.non (by have := HS.out.2.1; simp; omega) ?_; intro v w1 hb1 hg1))
  obtain ⟨av, cv, rfl, hsl1⟩ := hb1.1.sl
  rw [List.nil_append] at hb1 hsl1
  rw [show (([] : List UInt8) ++ b).length = b.length from rfl]
  have ho1 : ∀ x, av = some x → w.heap.size ≤ x.block ∧ x.block < w1.heap.size := fun x hx => ownB_block hb1.1 (by rw [hx]; rfl)
  have ST := hsl1.str
  have CN := new_live 1048576 w1
  obtain ⟨n, hn⟩ : ∃ n, n = b.length := ⟨_, rfl⟩
  have H1 := Lib.hid (And.intro hb1 (And.intro hsl1 (And.intro ho1 hn)))
  change (convert 28 9 _).run Tryd.prog w1 = .ok (.string (strOf b)) w1 at ST
  rw [← hn] at ST ⊢
  clear hb1 hsl1 ho1 hn hg1 HBm SL MR
  go_wp2_with fail
  refine CN.mono ?_
  clear CN ST
  rintro e w2 ⟨p, own2, rfl, l2⟩
  have C3 := write_at l2.at_ (OkS.new 1048576 ⟨by decide, by decide⟩) (by decide) [97] (by decide) 0 ⟨by decide, by decide⟩ (H1.out.2.1.below l2.frame) H1.out.2.2.2 (by have := HS.out.2.1; have := H1.out.2.2.2; omega) (fun x hx => l2.not_old (H1.out.2.2.1 x hx).2)
  rw [oneS_eq b HS.out.2.1] at C3
  have L2 := Lib.hid l2
  clear l2
  go_wp2_with fail
  refine C3.mono ?_
  clear C3
  rintro e w3 hl
  obtain ⟨rfl, own3, l3, hold⟩ := L2.out.left2 hl
  obtain ⟨-, own3', -, ht3⟩ := hl
  have l3' := l3.rebase H1.out.1.2.1 H1.out.1.2.1.size (Nat.le_refl _)
  have hown3 : ∀ x, av = some x → own3 x.block = none := fun x hx => by rw [hold x.block (Nat.lt_of_lt_of_le (H1.out.2.2.1 x hx).2 L2.out.frame.size)]; exact L2.out.not_old (H1.out.2.2.1 x hx).2
  have hob3 : OwnB w3 w.heap.size (.slice av n cv) b := by
    rw [H1.out.2.2.2]
    exact H1.out.1.1.below l3.frame
  have H3 := Lib.hid (And.intro l3' (And.intro hown3 hob3))
  clear l3 l3' hown3 hob3 hold ht3
  go_wp2_with fail
  go_loopw [5] (fun s5 wr => ∃ (i : Nat) (l' : Bytes), s5 = .int .i64 (i : Int) ∧ i ≤ n ∧ n = l'.length ∧ OwnB wr w.heap.size (.slice av n cv) l' ∧ Live w.heap.size w own3 wr p (oneS b)) (fun s5 _ => n - (intOf s5).toNat)
  case atStart => exact ⟨0, b, rfl, Nat.zero_le _, H1.out.2.2.2, H3.out.2.2, H3.out.1⟩
  case round =>
    obtain ⟨i, l', rfl, hi, hn', ho, hv⟩ := hrel
    have hnb : n ≤ 300 := by rw [H1.out.2.2.2]; exact HS.out.2.1
    by_cases hin : i < n
    · have t1 : decide ((i : Int) < (n : Int)) = true := decide_eq_true (by omega)
      have t1' : decide (i < n) = true := decide_eq_true hin
      obtain ⟨g, hg, hBg, hgl, IX, c1, f1⟩ := flip_facts ho hn' hin
      have XR : bits .xor .u8 (if IntKind.u8.signed = true then -1 else IntKind.u8.max) ((l'[i]!).toNat : Int) = ((255 - (l'[i]!).toNat : Nat) : Int) := not_u8 ((l'[i]!).toNat : Int) (l'[i]!).toNat rfl (UInt8.toNat_lt _)
      have ho2 := ho
      rw [hg] at ho2
      have HR := Lib.hid (And.intro (OwnB.stored ho2 i (UInt8.ofNat (255 - (l'[i]!).toNat)) ((255 - (l'[i]!).toNat : Nat) : Int) (by rw [UInt8.toNat_ofNat']; omega)) (And.intro (hv.set hBg (H3.out.2.1 _ hg) i (.int .u8 ((255 - (l'[i]!).toNat : Nat) : Int))) (And.intro hn' hg)))
      generalize (l'[i]!).toNat = xv at *
      clear ho ho2 hv hn' hg
      go_wp2_with fail
      go_roundw
      case rel => exact ⟨i + 1, l'.set i (UInt8.ofNat (255 - xv)), by go_num, by omega, by rw [List.length_set]; exact HR.out.2.2.1, by have h1 := HR.out.1; rw [← HR.out.2.2.2] at h1; exact h1, HR.out.2.1⟩
      case measure => simp [intOf]; omega
    · obtain rfl : i = n := by omega
      obtain ⟨w4, rfl⟩ : ∃ w4, w4 = wr := ⟨_, rfl⟩
      have t1 : decide ((i : Int) < (i : Int)) = false := decide_eq_false (by omega)
      have t1' : decide (i < i) = false := decide_eq_false (by omega)
      have L4 := Lib.hid hv
      have C4 := read_at hv.at_ (oneS_ok b HS.out.2.1) (by decide) [97] (by decide)
      clear ho hv hn' hin
      go_wp2_with fail
      refine C4.mono ?_
      clear C4
      rintro e w5 ⟨hsome, -, hb5⟩
      obtain ⟨v5, rfl, hbuf5⟩ := hsome ⟨b, [], [⟨0, -1, b⟩]⟩ rfl
      change Buf w4.heap.size w4 w5 v5 b at hbuf5
      obtain ⟨a5, c5, rfl, hsl5⟩ := hbuf5.1.sl
      rw [← H1.out.2.2.2] at hbuf5 ⊢
      have L5 := Lib.hid (And.intro (L4.out.below hb5) (And.intro hbuf5 hsl5))
      clear hsome hb5 hbuf5 hsl5
      go_wp2_with fail
      refine (known_any _).mono ?_
      rintro e w6 ⟨rfl, hw6⟩
      have ST6 := (L5.out.2.2.below hw6).str
      change (convert 28 9 _).run Tryd.prog w6 = .ok (.string (strOf b)) w6 at ST6
      rw [← H1.out.2.2.2] at ST6
      have E1 : ((strOf b).toList != (strOf b).toList) = false := by simp
      have E2 : ((strOf b).toList == (strOf b).toList) = true := by simp
      have L6 := Lib.hid (And.intro (L5.out.1.below hw6) (L5.out.2.1.1.below hw6))
      clear hw6
      obtain ⟨SB, hSB⟩ : ∃ SB, SB = strOf b := ⟨_, rfl⟩
      have HSB := Lib.hid hSB
      rw [← hSB] at ST6 E1 E2 ⊢
      clear hSB
      go_wp2_with fail
      clear ST6
      go_loopw [8] (fun s8 wr => ∃ (j : Nat) (l' : Bytes), s8 = .int .i64 (j : Int) ∧ j ≤ i ∧ i = l'.length ∧ OwnB wr w4.heap.size (.slice a5 i c5) l' ∧ Live w.heap.size w own3 wr p (oneS b)) (fun s8 _ => i - (intOf s8).toNat)
      case atStart => exact ⟨0, b, rfl, Nat.zero_le _, H1.out.2.2.2, by have h1 := L6.out.2; exact h1, L6.out.1⟩
      case round =>
        obtain ⟨j, l', rfl, hj, hn', ho, hv⟩ := hrel
        by_cases hjn : j < i
        · have t2 : decide ((j : Int) < (i : Int)) = true := decide_eq_true (by omega)
          have t2' : decide (j < i) = true := decide_eq_true hjn
          obtain ⟨g, hg, hBg, hgl, IX, c1, f1⟩ := flip_facts ho hn' hjn
          have XR : bits .xor .u8 (if IntKind.u8.signed = true then -1 else IntKind.u8.max) ((l'[j]!).toNat : Int) = ((255 - (l'[j]!).toNat : Nat) : Int) := not_u8 ((l'[j]!).toNat : Int) (l'[j]!).toNat rfl (UInt8.toNat_lt _)
          have ho2 := ho
          rw [hg] at ho2
          have hgn : own3 g = none := L4.out.not_new hBg
          have hgw : w.heap.size ≤ g := Nat.le_trans L4.out.frame.size hBg
          have HR := Lib.hid (And.intro (OwnB.stored ho2 j (UInt8.ofNat (255 - (l'[j]!).toNat)) ((255 - (l'[j]!).toNat : Nat) : Int) (by rw [UInt8.toNat_ofNat']; omega)) (And.intro (hv.set hgw hgn j (.int .u8 ((255 - (l'[j]!).toNat : Nat) : Int))) (And.intro hn' hg)))
          generalize (l'[j]!).toNat = xv at *
          clear ho ho2 hv hn' hg hgn hgw
          go_wp2_with fail
          go_roundw
          case rel => exact ⟨j + 1, l'.set j (UInt8.ofNat (255 - xv)), by go_num, by omega, by rw [List.length_set]; exact HR.out.2.2.1, by have h1 := HR.out.1; rw [← HR.out.2.2.2] at h1; exact h1, HR.out.2.1⟩
          case measure => simp [intOf]; omega
        · obtain rfl : j = i := by omega
          have t2 : decide ((j : Int) < (j : Int)) = false := decide_eq_false (by omega)
          have t2' : decide (j < j) = false := decide_eq_false (by omega)
          have L7 := Lib.hid hv
          have C7 := read_at hv.at_ (oneS_ok b HS.out.2.1) (by decide) [97] (by decide)
          clear ho hv hn' hjn
          go_wp2_with fail
          refine C7.mono ?_
          clear C7
          rintro e w8 ⟨hsome, -, hb8⟩
          obtain ⟨v8, rfl, hbuf8⟩ := hsome ⟨b, [], [⟨0, -1, b⟩]⟩ rfl
          change Buf _ _ w8 v8 b at hbuf8
          obtain ⟨a8, c8, rfl, hsl8⟩ := hbuf8.1.sl
          rw [← H1.out.2.2.2]
          have L8 := Lib.hid (And.intro (L7.out.below hb8) hsl8)
          clear hsome hb8 hbuf8 hsl8
          go_wp2_with fail
          refine (read_nil [97] _).mono ?_
          rintro e w9 ⟨rfl, rfl⟩
          go_wp2_with fail
          refine (arm_nil 1 _).mono ?_
          rintro e w9 ⟨rfl, rfl⟩
          go_wp2_with fail
          refine (crash_nil _ _).mono ?_
          rintro e w9 ⟨rfl, rfl⟩
          have hb9 : Below w8.heap.size w8 (w8.alloc (.cells #[.int .i64 1] 3)) := (Below.refl _ _).alloc (Nat.le_refl _) _
          have ST9 := (L8.out.2.below hb9).str
          change (convert 28 9 _).run Tryd.prog _ = .ok (.string (strOf b)) _ at ST9
          rw [← H1.out.2.2.2, ← HSB.out] at ST9
          have L9 := Lib.hid (L8.out.1.frame.trans (hb9.mono L8.out.1.frame.size))
          clear hb9
          generalize w8.alloc (.cells #[Value.int .i64 1] 3) = w9 at *
          go_wp2_with fail
          refine (write_nil [97] 0 _ _).mono ?_
          rintro e w10 ⟨rfl, rfl⟩
          go_wp2_with fail
          refine (sync_nil [97] _).mono ?_
          rintro e w10 ⟨rfl, rfl⟩
          go_wp2_with fail
          refine (list_nil [] _).mono ?_
          rintro e w10 ⟨rfl, hw10⟩
          have L10 := Lib.hid (L9.out.trans (hw10.mono L9.out.size))
          clear hw10
          go_wp2_with fail
          refine (used_nil _).mono ?_
          rintro e w11 ⟨rfl, rfl⟩
          go_wp2_with fail
          go_ret
          exact ⟨rfl, L10.out⟩
end Go.Proofs.YthjjdcfkdmhmlaaDoor
