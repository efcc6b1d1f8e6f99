/-
  The law SumsShow, walked.
-/
import Derived.Test.YtfpklkncdimajaaSumsZerosWalk
import Derived.Test.YtfpklkncdimajaaSumsPure3
import Derived.Test.YtfpklkncdimajaaMix
namespace Go.Proofs.Ytfpklkncdimajaa
open Go.RowKit Go.Mix

theorem sizeOf_byte (w : World) : (sizeOf 5).run Try.prog w = .ok 1 w := by kernel_rfl

/-- Are the first i of t noughts? -/
def sameB (t : Nat → UInt8) : Nat → Bool
  | 0 => true
  | i + 1 => sameB t i && (t i == 0)
theorem sameB_iff (t : Nat → UInt8) (i : Nat) : sameB t i = true ↔ ∀ j, j < i → t j = 0 := by
  induction i with
  | zero => simp [sameB]
  | succ i ih =>
    simp only [sameB, Bool.and_eq_true, ih, beq_iff_eq]
    exact ⟨fun h j hj => by rcases Nat.lt_or_ge j i with h' | h'; exact h.1 j h'; (have : j = i := by omega); rw [this]; exact h.2, fun h => ⟨fun j hj => h j (by omega), h i (by omega)⟩⟩

def turn4 (t0 t1 t2 t3 : UInt8) (j : Nat) : UInt8 := [t0, t1, t2, t3].getD j 0

theorem OwnB.form {w : World} {base : Nat} {v : Value} {l : List UInt8} (h : OwnB w base v l) (hl : 0 < l.length) : ∃ g cap, v = .slice (some ⟨g, 0, none⟩) l.length cap ∧ base ≤ g ∧ g < w.heap.size := by
  obtain ⟨_, h2⟩ := h
  rcases h2 with ⟨_, h0⟩ | ⟨g, cap, cur, rfl, hb, hh, _⟩
  · omega
  · refine ⟨g, cap, rfl, hb, ?_⟩
    rcases Nat.lt_or_ge g w.heap.size with h' | h'
    · exact h'
    · rw [Array.getElem?_eq_none h'] at hh; simp at hh

theorem OwnB.cellAt {w : World} {base g n cap : Nat} {l : List UInt8} (h : OwnB w base (.slice (some ⟨g, 0, none⟩) n cap) l) (hn : l.length = n) (j : Nat) (hj : j < n) : w.cell? ⟨g, j, none⟩ = some (.int .u8 ((l.getD j 0).toNat : Int)) := by
  subst hn
  have h1 := World.ownsRow.cellAt h j (by omega)
  rw [h1, List.getD_eq_getElem?_getD, List.getElem?_eq_getElem hj]
  simp [bcells, List.getElem?_eq_getElem hj]

theorem OwnB.frozenAt {w : World} {base g n cap : Nat} {l : List UInt8} (h : OwnB w base (.slice (some ⟨g, 0, none⟩) n cap) l) (hn : l.length = n) (j : Nat) : w.frozen? ⟨g, j, none⟩ = false := by
  subst hn; exact World.ownsRow.frozenAt h j

theorem OwnB.reads {w : World} {base n cap : Nat} {a : Option Addr} {l : List UInt8} (h : OwnB w base (.slice a n cap) l) : Bs w a l := by
  obtain ⟨a', cap', e, hb, _⟩ := h.bs
  simp only [Value.slice.injEq] at e
  rw [e.1]; exact hb

theorem OwnB.set {w : World} {base g n cap : Nat} {l : List UInt8} (h : OwnB w base (.slice (some ⟨g, 0, none⟩) n cap) l) (hn : l.length = n) (j : Nat) (x : UInt8) : OwnB (w.setCell ⟨g, j, none⟩ (.int .u8 (x.toNat : Int))) base (.slice (some ⟨g, 0, none⟩) n cap) (l.set j x) := by
  subst hn
  have h1 := (World.ownsRow.stored h j (.int .u8 (x.toNat : Int))).1
  unfold OwnB
  rw [List.length_set, show bcells (l.set j x) = (bcells l).set j (.int .u8 (x.toNat : Int)) from by simp [bcells, List.map_set]]
  exact h1

theorem OwnB.set_other {w : World} {base : Nat} {v : Value} {l : List UInt8} (h : OwnB w base v l) {a : Addr} (ha : v.ownBlock ≠ some a.block) (u : Value) : OwnB (w.setCell a u) base v l := ownsRow_setCell_other h ha u

theorem xor8 (a b : UInt8) : bits .xor .u8 (a.toNat : Int) (b.toNat : Int) = ((a ^^^ b).toNat : Int) := by
  rw [u8_xor_nat _ _ a.toNat_lt b.toNat_lt, UInt8.toNat_xor]

theorem cell_of_block {w : World} {b : Nat} {C : Array Value} {e : TypeId} {fr : Nat × Nat} (h : w.heap[b]? = some (.cells C e fr)) (j : Nat) : w.cell? ⟨b, j, none⟩ = C[j]? := by
  simp [World.cell?, h]

theorem int_mod_len (at_ : Int) (n : Nat) (h0 : 0 < n) (h1 : n ≤ 5000) : ∃ k : Nat, k < n ∧ wrap64 ((IntKind.u64.wrap at_).tmod (n : Int)) = (k : Int) := u64_mod at_ n h0 (by omega)

set_option maxHeartbeats 1600000 in
theorem sumsShow_walk (a : Option Addr) (len cap : Nat) (zs : List Int) (at_ : Int) (t0 t1 t2 t3 : UInt8) (w : World) (h : RowIn w a len cap zs) :
    Calls Try.prog 6 #[.slice a len cap, .int .i64 at_, .agg #[.int .u8 (t0.toNat : Int), .int .u8 (t1.toNat : Int), .int .u8 (t2.toNat : Int), .int .u8 (t3.toNat : Int)]] w fun e w' => e = .returned (.bool true) ∧ Below w.heap.size w w' := by
  obtain ⟨L, hL, hb, hle, hc, hn⟩ := open_row h
  obtain ⟨l, hl⟩ : ∃ l, l = L.take (min len 5000) := ⟨_, rfl⟩
  have hlen : l.length = min len 5000 := by rw [hl, List.length_take]; omega
  have hb1 : Bs w a l := hl ▸ hb.take _
  have hmax : l.length ≤ 5000 := by omega
  have HL := Lib.hid hlen
  have HN := Lib.hid hn
  clear hlen hl hn
  by_cases h0 : l.length = 0
  · go_enter Try.func6, Try.ntmps6
    go_wp2_with fail
    refine (few_bs a len cap l _ hle hc HN.out HL.out).mono ?_
    rintro e w' ⟨rfl, rfl⟩
    rw [h0]
    go_wp2_with fail
    refine (known_any _).mono ?_
    rintro e w1 ⟨rfl, hbel⟩
    go_wp2_with fail
    go_ret
    exact ⟨rfl, ((Below.refl _ _).alloc (Nat.le_refl _) _).trans (hbel.mono (by simp))⟩
  · obtain ⟨k, hk, ek⟩ := int_mod_len at_ l.length (by omega) hmax
    have EK := Lib.hid ek
    clear ek
    have hne : ((l.length : Int) == 0) = false := beq_eq_false_iff_ne.2 (by omega)
    go_enter Try.func6, Try.ntmps6
    go_wp2_with fail
    refine (few_bs a len cap l _ hle hc HN.out HL.out).mono ?_
    rintro e w' ⟨rfl, rfl⟩
    have hbel0 : Below w.heap.size w (w.alloc (.cells #[.int .u8 (t0.toNat : Int), .int .u8 (t1.toNat : Int), .int .u8 (t2.toNat : Int), .int .u8 (t3.toNat : Int)] 31)) := (Below.refl _ _).alloc (Nat.le_refl _) _
    have hT0 : (w.alloc (.cells #[.int .u8 (t0.toNat : Int), .int .u8 (t1.toNat : Int), .int .u8 (t2.toNat : Int), .int .u8 (t3.toNat : Int)] 31)).heap[w.heap.size]? = some (.cells #[.int .u8 (t0.toNat : Int), .int .u8 (t1.toNat : Int), .int .u8 (t2.toNat : Int), .int .u8 (t3.toNat : Int)] 31 (0, 0)) := heap_alloc_last _ _ _ rfl
    have hW0 : (w.alloc (.cells #[.int .u8 (t0.toNat : Int), .int .u8 (t1.toNat : Int), .int .u8 (t2.toNat : Int), .int .u8 (t3.toNat : Int)] 31)).heap.size = w.heap.size + 1 := by simp
    generalize w.alloc (.cells #[.int .u8 (t0.toNat : Int), .int .u8 (t1.toNat : Int), .int .u8 (t2.toNat : Int), .int .u8 (t3.toNat : Int)] 31) = W0 at *
    have ek := EK.out
    have HW0 := Lib.hid hW0
    clear hW0
    have how : OwnB (W0.alloc (.cells #[] 5)) W0.heap.size (.slice (some ⟨W0.heap.size, 0, none⟩) 0 0) [] := World.ownsRow_made (size := 1) W0 #[] 0 (Nat.le_refl _) (by decide) rfl
    have hg0 : Grow W0 (W0.alloc (.cells #[] 5)) := (Below.refl _ _).alloc (Nat.le_refl _) _
    go_wp2_with (first
      | (at_builtin; refine wpList_append_bytes rfl (.tmp 25) (.tmp 26) rfl W0.heap.size (.slice (some ⟨W0.heap.size, 0, none⟩) 0 0) [] rfl how a cap l rfl ((hb1.below hbel0).below hg0) (fun e => (HN.out e).2) (by simp; omega) hg0.size ?_; intro v1 w1 how1 hgr1; have hg1 := Below.grown hg0 hgr1 hg0.size (by intro k hk; simp [Value.ownBlock] at hk; omega); have hg1a := hg1.alloc hg1.size (.cells #[] 5); have how1a := how1.below (w' := w1.alloc (.cells #[] 5)) ((Below.refl _ _).alloc (Nat.le_refl _) _); have howd : OwnB (w1.alloc (.cells #[] 5)) w1.heap.size (.slice (some ⟨w1.heap.size, 0, none⟩) 0 0) [] := World.ownsRow_made (size := 1) w1 #[] 0 (Nat.le_refl _) (by decide) rfl; clear hgr1)
      | (at_builtin; refine wpList_append_bytes rfl (.tmp 28) (.tmp 29) rfl w1.heap.size (.slice (some ⟨w1.heap.size, 0, none⟩) 0 0) [] rfl howd a cap l rfl ((hb1.below hbel0).below hg1a) (fun e => (HN.out e).2) (by simp; omega) (by simp) ?_; intro v2 w2 howd2 hgr2))
    clear ek
    rw [List.nil_append] at howd2 how1a
    obtain ⟨g, capc, hv1, hgb, hgl⟩ := how1.form (by simp; omega)
    rw [List.nil_append] at hv1
    obtain ⟨d, capd, hv2, hdb, hdl⟩ := howd2.form (by omega)
    have hg2 : Grow W0 w2 := Below.grown hg1a hgr2 hg1a.size (by intro k hk; simp [Value.ownBlock] at hk; have := hg1.size; omega)
    have howc : OwnB w2 W0.heap.size v1 l := World.ownsRow.kept how1a hgr2 (by rw [hv1]; simp [Value.ownBlock]; omega)
    clear how1a hgr2 how1 how howd hg1a hg1 hg0
    subst hv1
    subst hv2
    have hT2 := (hg2.block w.heap.size (by have := HW0.out; omega)).trans hT0
    have hgd : g ≠ d := by omega
    have hgw : w.heap.size < g := by have := HW0.out; omega
    have hdw : w.heap.size < d := by have := HW0.out; have := hg2.size; omega
    have hbw : Below w.heap.size w w2 := hbel0.trans (hg2.mono (by have := HW0.out; omega))
    have HT2 := Lib.hid hT2
    clear hT2 hT0 hbel0
    have hsq : ∀ j, j < 4 → (#[Value.int .u8 (t0.toNat : Int), .int .u8 (t1.toNat : Int), .int .u8 (t2.toNat : Int), .int .u8 (t3.toNat : Int)])[j]? = some (.int .u8 ((turn4 t0 t1 t2 t3 j).toNat : Int)) := by
      intro j hj
      match j, hj with
      | 0, _ => rfl
      | 1, _ => rfl
      | 2, _ => rfl
      | 3, _ => rfl
    have HSQ := Lib.hid hsq
    clear hsq
    have hbelw : Below w.heap.size w2 w2 := Below.refl _ _
    go_loopw [10, 11] (fun s i wr => ∃ m : Nat, m ≤ 4 ∧ k + m ≤ l.length ∧ i = .int .i64 m ∧ s = .bool (sameB (turn4 t0 t1 t2 t3) m) ∧
        OwnB wr W0.heap.size (.slice (some ⟨g, 0, none⟩) l.length capc) (chg l k (turn4 t0 t1 t2 t3) m) ∧ OwnB wr w1.heap.size (.slice (some ⟨d, 0, none⟩) l.length capd) l ∧
        wr.heap[w.heap.size]? = w2.heap[w.heap.size]? ∧ Below w.heap.size w wr) (fun _ i _ => 4 - (intOf i).toNat)
    case atStart => exact ⟨0, by omega, by omega, rfl, rfl, by rw [chg_zero]; exact howc, howd2, rfl, hbw⟩
    case round =>
      clear howc howd2 hbw hbelw
      obtain ⟨m, hm4, hkm, rfl, rfl, howc, howd, hTr, hbr⟩ := hrel
      have HTR := Lib.hid (hTr.trans HT2.out)
      clear hTr
      have hlc : (chg l k (turn4 t0 t1 t2 t3) m).length = l.length := chg_length _ _ _ _ hkm
      have HLC := Lib.hid hlc
      clear hlc
      by_cases hgo : m < 4 ∧ k + m < l.length
      · obtain ⟨hm, hkl⟩ := hgo
        have ew : IntKind.i64.wrap ((k : Int) + (m : Int)) = (k : Int) + (m : Int) := IntWalk.i64_in _ (by omega)
        have ew0 : 0 ≤ (k : Int) + (m : Int) := by omega
        have ewl : (k : Int) + (m : Int) < (l.length : Int) := by omega
        have ewn : ((k : Int) + (m : Int)).toNat = k + m := by omega
        obtain ⟨y1, hy1⟩ : ∃ y1, y1 = l.getD (k + m) 0 := ⟨_, rfl⟩
        obtain ⟨z1, hz1⟩ : ∃ z1, z1 = y1 ^^^ turn4 t0 t1 t2 t3 m := ⟨_, rfl⟩
        have hc1 : ∀ x : Later wr, x.1.cell? ⟨g, k + m, none⟩ = some (.int .u8 (y1.toNat : Int)) := fun x => by
          rw [(howc.below x.2).cellAt HLC.out (k + m) hkl, chg_at _ _ _ _ hkl, hy1]
        have hcs := chg_succ l k (turn4 t0 t1 t2 t3) m hkl
        rw [← hy1, ← hz1] at hcs
        have HCS := Lib.hid hcs
        have HZ1 := Lib.hid hz1
        clear hcs hz1 hy1
        have ht1 : ∀ x : Later wr, x.1.cell? ⟨w.heap.size, m, none⟩ = some (.int .u8 ((turn4 t0 t1 t2 t3 m).toNat : Int)) := fun x => by
          have h1 := (x.2.block w.heap.size (by have := hbr.size; have := lt_of_cell (howc.cellAt HLC.out (k + m) hkl); simp only at this; omega)).trans HTR.out
          rw [cell_of_block h1]; exact HSQ.out m hm
        go_wp2_with fail
        refine wp_region_mix [(0, 0), (1, 0), (2, 0), (3, 0), (4, 0), (5, 0), (6, 0), (7, 0), (8, 0), (9, 0), (10, 0), (11, 2)] (by kernel_rfl) (by kernel_rfl) ?_
        iterate 11 (refine mix_calm rfl (fun K hK => ?_); go_simp; (refine hK _ ?_; clear hK K))
        rw [xor8, ← HZ1.out]
        refine mix_sync rfl rfl (fun w3 hw3 K hK => ?_)
        have howc3 := howc.below hw3
        have howd3 := howd.below hw3
        have hc3 := hc1 ⟨w3, hw3⟩
        have hf3 := howc3.frozenAt HLC.out (k + m)
        have hbr3 : Below w.heap.size w w3 := hbr.trans (hw3.mono hbr.size)
        have hT3 := (hw3.block w.heap.size (by have := hbr.size; have := lt_of_cell (howc.cellAt HLC.out (k + m) hkl); simp only at this; omega)).trans HTR.out
        have HT3 := Lib.hid hT3
        clear hT3
        simp only at hc3
        go_wp2_with fail
        clear hc1 hc3 hf3
        refine mix_nil fun w4 hw4 => ?_
        have howc4 := (howc3.set HLC.out (k + m) z1).below hw4
        have howd4 := (howd3.set_other (a := ⟨g, k + m, none⟩) (by simp [Value.ownBlock]; omega) (.int .u8 (z1.toNat : Int))).below hw4
        have hbr4 : Below w.heap.size w w4 := (hbr3.setCell (p := ⟨g, k + m, none⟩) (by simp only; omega) (.int .u8 (z1.toNat : Int))).trans (hw4.mono (by have := hbr3.size; simp; omega))
        have hT4 : w4.heap[w.heap.size]? = some (.cells #[.int .u8 (t0.toNat : Int), .int .u8 (t1.toNat : Int), .int .u8 (t2.toNat : Int), .int .u8 (t3.toNat : Int)] 31 (0, 0)) := by
          rw [hw4.block w.heap.size (by have := lt_of_cell (howc3.cellAt HLC.out (k + m) hkl); simp at this ⊢; omega), Below.heap_setCell _ _ _ _ (by simp only; omega)]
          exact HT3.out
        rw [← HCS.out] at howc4
        have HT4 := Lib.hid hT4
        have ht4 : w4.cell? ⟨w.heap.size, m, none⟩ = some (.int .u8 ((turn4 t0 t1 t2 t3 m).toNat : Int)) := by
          rw [cell_of_block hT4]; exact HSQ.out m hm
        clear hT4 howc3 howd3 howc howd ht1 hw4 hw3 hbr3 hbr ew ew0 ewl ewn
        have hsm : sameB (turn4 t0 t1 t2 t3) (m + 1) = (sameB (turn4 t0 t1 t2 t3) m && (turn4 t0 t1 t2 t3 m == 0)) := rfl
        generalize hS : sameB (turn4 t0 t1 t2 t3) m = S at *
        clear HZ1
        generalize turn4 t0 t1 t2 t3 m = y at *
        have HSM := Lib.hid hsm
        clear hsm hS
        have he : (((y.toNat : Int)) == 0) = (y == 0) := by
          rw [Bool.eq_iff_iff, beq_iff_eq, beq_iff_eq]
          exact ⟨fun h => UInt8.toNat_inj.1 (by have : y.toNat = 0 := by omega
                                                rw [this]; rfl), fun h => by rw [h]; rfl⟩
        cases S
        · go_wp2_with fail
          go_roundw
          case rel => exact ⟨m + 1, by omega, by omega, by go_num, by rw [HSM.out]; rfl, howc4, howd4, HT4.out.trans HT2.out.symm, hbr4⟩
          case measure => simp [intOf]; omega
        · go_wp2_with fail
          go_roundw
          case rel => exact ⟨m + 1, by omega, by omega, by go_num, by rw [HSM.out]; rfl, howc4, howd4, HT4.out.trans HT2.out.symm, hbr4⟩
          case measure => simp [intOf]; omega
      · have hend : m = 4 ∨ (m < 4 ∧ k + m = l.length) := by omega
        have HEND := Lib.hid hend
        clear hgo
        obtain ⟨y0, hy0⟩ : ∃ y0, y0 = l.getD k 0 := ⟨_, rfl⟩
        obtain ⟨q0, hq0⟩ : ∃ q0, q0 = turn4 t0 t1 t2 t3 0 := ⟨_, rfl⟩
        obtain ⟨z0, hz0⟩ : ∃ z0, z0 = y0 ^^^ q0 := ⟨_, rfl⟩
        have hd1 : ∀ x : Later wr, x.1.cell? ⟨d, k, none⟩ = some (.int .u8 (y0.toNat : Int)) := fun x => by
          rw [(howd.below x.2).cellAt rfl k hk, hy0]
        have ht1 : ∀ x : Later wr, x.1.cell? ⟨w.heap.size, 0, none⟩ = some (.int .u8 (q0.toNat : Int)) := fun x => by
          have h1 := (x.2.block w.heap.size (by have := hbr.size; have := lt_of_cell (howd.cellAt rfl k hk); simp only at this; omega)).trans HTR.out
          rw [cell_of_block h1, hq0]; exact HSQ.out 0 (by omega)
        have hcs : chg l k (turn4 t0 t1 t2 t3) 1 = l.set k z0 := by
          have h1 := chg_succ l k (turn4 t0 t1 t2 t3) 0 (by omega)
          simp only [Nat.add_zero, Nat.zero_add] at h1; rw [chg_zero, ← hy0, ← hq0, ← hz0] at h1; exact h1
        have F1 : Hid (((crc 0 (chg l k (turn4 t0 t1 t2 t3) m) : Int) == (crc 0 l : Int)) = sameB (turn4 t0 t1 t2 t3) m) := Lib.hid (by
          have h1 := crc_shows l k (turn4 t0 t1 t2 t3) m hm4 hkm
          rw [Bool.eq_iff_iff, beq_iff_eq, sameB_iff, ← h1]
          omega)
        have F2 : Hid (((adler 1 (l.set k z0) : Int) == (adler 1 l : Int)) = ((q0.toNat : Int) == 0)) := Lib.hid (by
          have h1 := adler_shows l k (turn4 t0 t1 t2 t3) hk
          rw [hcs] at h1
          rw [Bool.eq_iff_iff, beq_iff_eq, beq_iff_eq]
          have h2 : (adler 1 (l.set k z0) : Int) = (adler 1 l : Int) ↔ adler 1 (l.set k z0) = adler 1 l := by omega
          rw [h2, h1, ← hq0]
          exact ⟨fun h => by rw [h]; rfl, fun h => UInt8.toNat_inj.1 (by have : q0.toNat = 0 := by omega
                                                                         rw [this]; rfl)⟩)
        have HZ0 := Lib.hid hz0
        have HQ0 := Lib.hid hq0
        clear hz0 hcs hend hy0 hq0
        have hlz : (l.set k z0).length = l.length := by simp
        have HLZ := Lib.hid hlz
        clear hlz
        have hge : (4 : Int) ≤ (m : Int) ∨ (m : Int) < 4 ∧ (l.length : Int) ≤ (k : Int) + (m : Int) := by have := HEND.out; omega
        have e0 : (k : Int).toNat = k := by omega
        rcases hge with hge | ⟨hlt4, hge⟩
        all_goals go_wp2_with fail
        all_goals clear hge
        all_goals refine wp_region_mix [(0, 0), (1, 0), (2, 0), (3, 0), (4, 0), (5, 0), (6, 0), (7, 0), (8, 2)] (by kernel_rfl) (by kernel_rfl) ?_
        all_goals iterate 8 (refine mix_calm rfl (fun K hK => ?_); go_simp; (refine hK _ ?_; clear hK K))
        all_goals rw [xor8, ← HZ0.out]
        all_goals refine mix_sync rfl rfl (fun w3 hw3 K hK => ?_)
        all_goals have howc3 := howc.below hw3
        all_goals have howd3 := howd.below hw3
        all_goals have hd3 := hd1 ⟨w3, hw3⟩
        all_goals have hf3 := howd3.frozenAt rfl k
        all_goals have hbr3 : Below w.heap.size w w3 := hbr.trans (hw3.mono hbr.size)
        all_goals have hT3 := (hw3.block w.heap.size (by have := hbr.size; have := lt_of_cell (howd.cellAt rfl k hk); simp only at this; omega)).trans HTR.out
        all_goals have HT3 := Lib.hid hT3
        all_goals clear hT3
        all_goals simp only at hd3
        all_goals go_wp2_with fail
        all_goals clear hd1 hd3 hf3 ht1
        all_goals refine mix_nil fun w4 hw4 => ?_
        all_goals have howd4 := (howd3.set rfl k z0).below hw4
        all_goals have howc4 := (howc3.set_other (a := ⟨d, k, none⟩) (by simp [Value.ownBlock]; omega) (.int .u8 (z0.toNat : Int))).below hw4
        all_goals have hbr4 : Below w.heap.size w w4 := (hbr3.setCell (p := ⟨d, k, none⟩) (by simp only; omega) (.int .u8 (z0.toNat : Int))).trans (hw4.mono (by have := hbr3.size; simp; omega))
        all_goals have hT4 : w4.heap[w.heap.size]? = some (.cells #[.int .u8 (t0.toNat : Int), .int .u8 (t1.toNat : Int), .int .u8 (t2.toNat : Int), .int .u8 (t3.toNat : Int)] 31 (0, 0)) := (hw4.block w.heap.size (by have := lt_of_cell (howd3.cellAt rfl k hk); simp at this ⊢; omega)).trans ((Below.heap_setCell _ _ _ _ (by simp only; omega)).trans HT3.out)
        all_goals have c1 : ∀ x : Later w4, Calls Try.prog 13 #[.slice (some ⟨g, 0, none⟩) l.length capc] x.1 fun e w' => e = .returned (.int .u32 (crc 0 (chg l k (turn4 t0 t1 t2 t3) m) : Nat)) ∧ x.1 = w' := fun x => (by
          have h := crc_any (some ⟨g, 0, none⟩) capc (chg l k (turn4 t0 t1 t2 t3) m) x.1 (by rw [HLC.out]; omega) (howc4.reads.below x.2)
          rw [HLC.out] at h; exact h)
        all_goals have c2 : ∀ x : Later w4, Calls Try.prog 13 #[.slice a l.length cap] x.1 fun e w' => e = .returned (.int .u32 (crc 0 l : Nat)) ∧ x.1 = w' := fun x => crc_any a cap l x.1 (by omega) (hb1.below (hbr4.trans (x.2.mono hbr4.size)))
        all_goals have c3 : ∀ x : Later w4, Calls Try.prog 11 #[.slice (some ⟨d, 0, none⟩) l.length capd] x.1 fun e w' => e = .returned (.int .u32 (adler 1 (l.set k z0) : Nat)) ∧ x.1 = w' := fun x => (by
          have h := adler_any (some ⟨d, 0, none⟩) capd (l.set k z0) x.1 (by rw [HLZ.out]; omega) (howd4.reads.below x.2)
          rw [HLZ.out] at h; exact h)
        all_goals have c4 : ∀ x : Later w4, Calls Try.prog 11 #[.slice a l.length cap] x.1 fun e w' => e = .returned (.int .u32 (adler 1 l : Nat)) ∧ x.1 = w' := fun x => adler_any a cap l x.1 (by omega) (hb1.below (hbr4.trans (x.2.mono hbr4.size)))
        all_goals have hq : ∀ x : Later w4, x.1.cell? ⟨w.heap.size, 0, none⟩ = some (.int .u8 (q0.toNat : Int)) := fun x => (by
          have h1 := (x.2.block w.heap.size (by have := hbr4.size; have := lt_of_cell (howd4.cellAt HLZ.out k hk); simp only at this; omega)).trans hT4
          rw [cell_of_block h1, HQ0.out]; exact HSQ.out 0 (by omega))
        all_goals have C1 := Lib.hid c1
        all_goals have C2 := Lib.hid c2
        all_goals have C3 := Lib.hid c3
        all_goals have C4 := Lib.hid c4
        all_goals clear c1 c2 c3 c4 howc4 howd4 howc3 howd3 howc howd hT4 HSQ HT3 HTR HT2 hbr3 hw3 hw4
        all_goals generalize crc 0 (chg l k (turn4 t0 t1 t2 t3) m) = R at *
        all_goals generalize crc 0 l = r at *
        all_goals generalize adler 1 (l.set k z0) = A' at *
        all_goals generalize adler 1 l = A at *
        all_goals generalize sameB (turn4 t0 t1 t2 t3) m = S at *
        all_goals have f1 := F1.out
        all_goals have f2 := F2.out
        all_goals go_wp2_with fail
        all_goals refine wp_region_mix [(0, 0), (1, 0), (2, 0), (3, 0), (4, 0), (5, 0), (6, 0), (7, 0), (8, 0), (9, 0), (10, 0), (11, 0), (12, 0), (13, 0), (14, 0), (15, 0), (16, 0), (17, 0), (18, 0), (19, 0), (20, 0), (21, 0)] (by kernel_rfl) (by kernel_rfl) ?_
        all_goals refine mix_calm rfl (fun K hK => ?_)
        all_goals go_simp
        all_goals apply Exists.intro
        all_goals refine ⟨fun x => known_any x.1, hK _ ?_⟩
        all_goals clear hK K
        all_goals iterate 2 (refine mix_calm rfl (fun K hK => ?_); go_simp; (refine hK _ ?_; clear hK K))
        all_goals refine mix_calm rfl (fun K hK => ?_)
        all_goals go_simp
        all_goals apply Exists.intro
        all_goals refine ⟨fun x => calls_calm (C1.out x), hK _ ?_⟩
        all_goals clear hK K
        all_goals iterate 1 (refine mix_calm rfl (fun K hK => ?_); go_simp; (refine hK _ ?_; clear hK K))
        all_goals refine mix_calm rfl (fun K hK => ?_)
        all_goals go_simp
        all_goals apply Exists.intro
        all_goals refine ⟨fun x => calls_calm (C2.out x), hK _ ?_⟩
        all_goals clear hK K
        all_goals iterate 6 (refine mix_calm rfl (fun K hK => ?_); go_simp; (refine hK _ ?_; clear hK K))
        all_goals refine mix_calm rfl (fun K hK => ?_)
        all_goals go_simp
        all_goals apply Exists.intro
        all_goals refine ⟨fun x => calls_calm (C3.out x), hK _ ?_⟩
        all_goals clear hK K
        all_goals iterate 1 (refine mix_calm rfl (fun K hK => ?_); go_simp; (refine hK _ ?_; clear hK K))
        all_goals refine mix_calm rfl (fun K hK => ?_)
        all_goals go_simp
        all_goals apply Exists.intro
        all_goals refine ⟨fun x => calls_calm (C4.out x), hK _ ?_⟩
        all_goals clear hK K
        all_goals iterate 7 (refine mix_calm rfl (fun K hK => ?_); go_simp; (refine hK _ ?_; clear hK K))
        all_goals refine mix_nil fun w5 hw5 => ?_
        all_goals go_wp2_with fail
        all_goals go_ret
        all_goals exact ⟨rfl, hbr4.trans (hw5.mono hbr4.size)⟩

theorem sumsShow_over (a : Option Addr) (len cap : Nat) (zs : List Int) (at_ : Int) (l : List UInt8) (w : World) (h : RowIn w a len cap zs) (_ha : (Lit.int .i64 at_).wf = true) (hl : l.length = 4) :
    Calls Try.prog 6 #[.slice a len cap, .int .i64 at_, .agg (bcells l).toArray] w fun e w' => e = .returned (.bool true) ∧ Below w.heap.size w w' := by
  match l, hl with
  | [t0, t1, t2, t3], _ => exact sumsShow_walk a len cap zs at_ t0 t1 t2 t3 w h

end Go.Proofs.Ytfpklkncdimajaa
