/-
  The walk of sign of package inflate.
-/
import Derived.Test.YtaapnjhkflpiiaaInf3
import Derived.Test.YtaapnjhkflpiiaaInfCodes
import Derived.Deep.QuietTactic
namespace Go.Proofs.Ytaapnjhkflpiiaa
open Go.RowKit Go.Mix

/-- How many signs of a code have a length (none is counted that has length 0). -/
def cn (ls : List Nat) (n : Nat) : Nat := if n = 0 then 0 else cnt ls n
def icells (l : List Nat) : List Value := l.map fun (x : Nat) => .int .i64 (x : Int)
theorem icells_length (l : List Nat) : (icells l).length = l.length := by simp [icells]

/-- The cells of a code; its signs lie in what S keeps. -/
structure CodeIn (S : Nat → Prop) (w : World) (ls : List Nat) (C : Array Value) : Prop where
  size : C.size = 17
  cnts : ∀ l, l < 16 → C[l]? = some (.int .i64 (cn ls l : Nat))
  sl : ∃ a cap, C[16]? = some (.slice a (sgn ls).length cap) ∧ Cells w a (icells (sgn ls)) ∧ (a = none → cap = 0) ∧ ∀ x, a = some x → S x.block
  few : (sgn ls).length ≤ 1000

theorem Cells.frame {S : Nat → Prop} {w0 w : World} {a : Option Addr} {l : List Value} (h : Cells w0 a l) (f : FrameS S w0 w) (hS : ∀ x, a = some x → S x.block) : Cells w a l := by
  refine ⟨h.1, fun j hj => ?_⟩
  rw [← h.2 j hj]
  cases a with
  | none => have := h.1 rfl; subst this; simp at hj
  | some x =>
    have hb : (elt (some x) j).block = x.block := by unfold elt Addr.add; simp only [Option.getD_some]; split <;> rfl
    exact World.cell?_of_block (by rw [hb]; exact (f.keep x.block (hS x rfl)).2)

theorem CodeIn.frame {S : Nat → Prop} {w0 w : World} {ls : List Nat} {C : Array Value} (h : CodeIn S w0 ls C) (f : FrameS S w0 w) : CodeIn S w ls C := by
  obtain ⟨a, cap, h1, h2, h3, h4⟩ := h.sl
  exact ⟨h.size, h.cnts, ⟨a, cap, h1, h2.frame f h4, h3, h4⟩, h.few⟩
theorem CodeIn.sub {S T : Nat → Prop} {w : World} {ls : List Nat} {C : Array Value} (h : CodeIn S w ls C) (hT : ∀ k, S k → T k) : CodeIn T w ls C := by
  obtain ⟨a, cap, h1, h2, h3, h4⟩ := h.sl
  exact ⟨h.size, h.cnts, ⟨a, cap, h1, h2, h3, fun x hx => hT _ (h4 x hx)⟩, h.few⟩

theorem Fits.hold {S T : Nat → Prop} {w0 w : World} {a : Option Addr} {cap : Nat} {d : List UInt8} {most : Int} (h : Fits S w0 a cap d most) (f : FrameS S w0 w) (hT : ∀ k, S k → T k) : Fits T w a cap d most :=
  ⟨⟨(h.held.frame f).sl, fun x hx hl => hT _ (h.held.off x hx hl)⟩, h.small, h.room⟩

section
variable {S : Nat → Prop} {w0 w : World} {P : Nat} {a : Option Addr} {cap : Nat} {d : List UInt8} {most : Int} {p : Nat} {out : List UInt8}

/-- All that there is may be kept, but the struct and its bytes. -/
theorem InfS.hold (h : InfS S w0 w P a cap d most p out) : ∃ T : Nat → Prop, (∀ k, S k → T k) ∧ InfS T w w P a cap d most p out ∧
    (∀ k C t fr, w.heap[k]? = some (.cells C t fr) → k ≠ P → t ≠ 5 → T k) ∧
    (∀ w' p' out', InfS T w w' P a cap d most p' out' → InfS S w0 w' P a cap d most p' out') ∧ (∀ w', FrameS T w w' → FrameS S w0 w') := by
  obtain ⟨v, h⟩ := h
  have hF := h.row.frame
  have hST : ∀ k, S k → k < w.heap.size ∧ k ≠ P ∧ v.ownBlock ≠ some k := fun k hk => ⟨hF.lt hk, fun e => h.off (e ▸ hk), fun e => h.row.off k e hk⟩
  have hB : ∀ w', FrameS (fun k => k < w.heap.size ∧ k ≠ P ∧ v.ownBlock ≠ some k) w w' → FrameS S w0 w' := fun w' hf => hF.trans (hf.sub hST)
  refine ⟨fun k => k < w.heap.size ∧ k ≠ P ∧ v.ownBlock ≠ some k, hST, ⟨v, h.blk, h.row.rebase (FrameS.refl fun k hk => hk.1) (fun g hg hk => hk.2.2 hg), fun hk => hk.2.1 rfl, h.few⟩, ?_, ?_, hB⟩
  · intro k C t fr hk hne ht
    exact ⟨lt_of_block hk, hne, h.row.other hk ht⟩
  · rintro w' p' out' ⟨v', h'⟩
    exact ⟨v', h'.blk, h'.row.rebase (hB w' h'.row.frame) (fun g hg hk => h'.row.off g hg (hST g hk)), h.off, h'.few⟩

theorem bitS_any (hd : Fits S w0 a cap d most) (h : InfS S w0 w P a cap d most p out) (hp : p ≤ 8 * d.length) :
    Calls Try.prog 35 #[.pointer (some ⟨P, 0, none⟩)] w fun e w' =>
      (p < 8 * d.length ∧ e = .returned (.int .i64 (bitAt d p : Nat)) ∧ InfS S w0 w' P a cap d most (p + 1) out) ∨ (¬ p < 8 * d.length ∧ e = .panicked (thrown 3) ∧ FrameS S w0 w') := by
  obtain ⟨v, h⟩ := h
  refine (bit_any hd h hp).mono fun e w' h' => h'.imp (fun x => ⟨x.1, x.2.1, v, x.2.2⟩) id

theorem or_even (n b : Nat) (hb : b < 2) (hn : n ≤ 100000) : bits .or .i64 ((n : Int) * 2) (b : Int) = ((2 * n + b : Nat) : Int) := by
  have e : (n : Int) * 2 = ((n * 2 : Nat) : Int) := by omega
  have h3 : n * 2 ||| b = 2 * n + b := by
    have h4 : n * 2 = n <<< 1 := by rw [Nat.shiftLeft_eq]
    rw [h4, ← Nat.shiftLeft_add_eq_or_of_lt (i := 1) (b := b) (by omega), Nat.shiftLeft_eq]; omega
  rw [e, (i64_bits_nat (n * 2) b (by omega) (by omega)).2.1, h3]

theorem sizeOf_int (w : World) : (sizeOf 3).run Try.prog w = .ok 1 w := by kernel_rfl
/-- 's[k]' of numbers: where it lies, what it holds. -/
theorem ints_at {w : World} {a : Option Addr} {l : List Nat} (h : Cells w a (icells l)) (cap : Nat) (_hl : l.length ≤ 1000000) (ki : Int) (k : Nat) (hki : ki = k) (hk : k < l.length) :
    (∀ w : World, (Instr.indexAt 37 (.slice a l.length cap) (.int .i64 ki)).run Try.prog w = .ok (.pointer (some (elt a k))) w) ∧ w.cell? (elt a k) = some (.int .i64 (l.getD k 0 : Nat)) := by
  subst hki
  refine ⟨fun w => run_index_any (P := Try.prog) h 37 Try.underlying37 sizeOf_int cap (n := l.length) hk (by rw [icells_length]; omega) .i64 w, ?_⟩
  rw [h.2 k (by rw [icells_length]; exact hk), List.getD_eq_getElem?_getD, List.getElem?_eq_getElem hk]
  simp [icells]

theorem pow_step {n b l : Nat} (hn : n < 2 ^ l) (hb : b < 2) : 2 * n + b < 2 ^ (l + 1) := by
  rw [Nat.pow_succ]; omega

theorem cn_le (ls : List Nat) (l : Nat) (hl : l < 15) : (sgnTo ls l).length + cnt ls (l + 1) ≤ (sgn ls).length := by
  have h := sgnTo_len_mono ls (l + 1) 15 (by omega)
  rw [sgnTo, List.length_append] at h
  exact h

set_option maxRecDepth 100000 in
set_option maxHeartbeats 600000 in
theorem sign_any2 (hd : Fits S w0 a cap d most) (h : InfS S w0 w P a cap d most p out) (hp : p ≤ 8 * d.length) {ls : List Nat} {C : Array Value} (hc : CodeIn S w0 ls C) :
    Calls Try.prog 58 #[.pointer (some ⟨P, 0, none⟩), .agg C] w
      (Outs (signR d ls p) (FrameS S w0) fun x e w' => e = .returned (.int .i64 (x.1 : Nat)) ∧ InfS S w0 w' P a cap d most x.2 out) := by
  have HR := Lib.hid (show signR d ls p = signGo d ls 15 1 0 0 0 p from rfl)
  generalize signR d ls p = R at *
  have hfr : FrameS S w0 w := h.frame
  have hPlt : P ≠ w.heap.size := by obtain ⟨v, h⟩ := h; have := lt_of_block h.blk; omega
  have h1 := h.later ((Below.refl _ _).alloc (Nat.le_refl _) (.cells C 61) : Below w.heap.size w (w.alloc (.cells C 61)))
  have hQ1 : (w.alloc (.cells C 61)).heap[w.heap.size]? = some (.cells C 61 (0, 0)) := heap_alloc_last _ _ _ rfl
  go_enter Try.func58, Try.ntmps58
  go_wp2_with fail
  generalize w.alloc (.cells C 61) = w1 at *
  generalize w.heap.size = Q at *
  obtain ⟨T, hST, hI1, hTall, hback, hbackF⟩ := h1.hold
  have hTQ : T Q := hTall Q C _ _ hQ1 (Ne.symm hPlt) (by decide)
  have hdT := hd.hold h1.frame hST
  have hcT := (hc.frame h1.frame).sub hST
  have hCsz := hc.size
  go_loopw [5, 6, 7, 8] (fun s5 s6 s7 s8 wr => ∃ f l n fi q : Nat, s5 = .int .i64 (n : Int) ∧ s6 = .int .i64 (fi : Int) ∧ s7 = .int .i64 ((sgnTo ls l).length : Int) ∧ s8 = .int .i64 ((l + 1 : Nat) : Int) ∧
    signGo d ls f (l + 1) n fi (sgnTo ls l).length q = R ∧ l + f = 15 ∧ n < 2 ^ l ∧ fi ≤ n ∧ q ≤ 8 * d.length ∧ InfS T w1 wr P a cap d most q out) (fun _ _ _ l _ => 16 - (intOf l).toNat)
  case atStart => exact ⟨15, 0, 0, 0, p, rfl, rfl, rfl, rfl, HR.out.symm, rfl, by decide, Nat.le_refl _, hp, hI1⟩
  case round =>
    obtain ⟨f, l, n, fi, q, rfl, rfl, rfl, rfl, hgo, hlf, hn, hfi, hq, hI⟩ := hrel
    have hn100 : n ≤ 100000 := by
      have hl2 : (2 : Nat) ^ l ≤ 2 ^ 15 := Nat.pow_le_pow_right (by decide) (by omega)
      have e15 : (2 : Nat) ^ 15 = 32768 := by decide
      rw [e15] at hl2
      exact Nat.le_trans (Nat.le_of_lt (Nat.lt_of_lt_of_le hn hl2)) (by decide)
    cases f with
    | zero =>
      rw [signGo] at hgo
      have HG := Lib.hid hgo.symm
      have t1 : decide ((l : Int) + 1 < 16) = false := decide_eq_false (by omega)
      have t2 : decide (((l + 1 : Nat) : Int) < 16) = false := decide_eq_false (by omega)
      have hF := hbackF _ hI.frame
      clear hgo
      go_wp2_with fail
      refine (fail_any 4 _ _ rfl).mono ?_
      rintro e w' ⟨rfl, rfl⟩
      go_wp2_with fail
      exact ⟨rfl, Outs.of_err HG.out hF⟩
    | succ f =>
      rw [signGo] at hgo
      have t1 : decide ((l : Int) + 1 < 16) = true := decide_eq_true (by omega)
      have t2 : decide (((l + 1 : Nat) : Int) < 16) = true := decide_eq_true (by omega)
      have hC := Lib.hid (bitS_any hdT hI hq)
      have hb := bitAt_lt d q
      have hor := or_even n (bitAt d q) hb hn100
      have hnew : 2 * n + bitAt d q < 2 ^ (l + 1) := pow_step hn hb
      have HGO := Lib.hid hgo
      clear hgo
      generalize bitAt d q = b at *
      have HOR := Lib.hid hor
      have HNEW := Lib.hid hnew
      clear hor hn hnew
      go_wp2_with fail
      refine hC.out.mono ?_
      rintro e w2 (⟨hql, rfl, hI2⟩ | ⟨hql, rfl, hF⟩)
      · have hFT := hI2.frame
        have hQ2 := (hFT.keep Q hTQ).2.trans hQ1
        have hcQ : ∀ j : Nat, w2.cell? ⟨Q, j, none⟩ = C[j]? := fun j => by simp [World.cell?, hQ2]
        have c16 : w2.cell? ⟨Q, l + 1, none⟩ = some (.int .i64 (cn ls (l + 1) : Nat)) := (hcQ _).trans (hc.cnts (l + 1) (by omega))
        have hcn : cn ls (l + 1) = cnt ls (l + 1) := rfl
        obtain ⟨as1, cs, hs1, hs2, hs3, -⟩ := (hcT.frame hFT).sl
        have csl := (hcQ 16).trans hs1
        have hsum := cn_le ls l (by omega)
        have hkk : (sgnTo ls (l + 1)).length = (sgnTo ls l).length + cnt ls (l + 1) := by rw [sgnTo, List.length_append]; rfl
        have hfew := hc.few
        have HGO2 := Lib.hid (HGO.out.symm.trans (if_pos hql))
        rw [hcn] at c16
        clear hcQ hcn HGO hs1
        generalize cnt ls (l + 1) = c at *
        obtain ⟨k, hk0⟩ : ∃ k, k = (sgnTo ls l).length := ⟨_, rfl⟩
        obtain ⟨m, hm⟩ : ∃ m, m = 2 * n + b := ⟨_, rfl⟩
        rw [← hk0] at hkk hsum HGO2 ⊢
        rw [← hm] at HOR HNEW HGO2
        have hm100 : m ≤ 300000 := by omega
        have hmf : 2 * fi ≤ m := by omega
        have HNK := Lib.hid (And.intro hk0 hkk)
        clear hm hfi hn100 hk0 hkk
        by_cases hlt : m < 2 * fi + c
        · have t3 : decide ((m : Int) - (fi : Int) * 2 < (c : Int)) = true := decide_eq_true (by omega)
          have HG := Lib.hid (HGO2.out.trans (if_pos hlt))
          have hidx : k + (m - 2 * fi) < (sgn ls).length := by omega
          obtain ⟨IK, IC⟩ := ints_at hs2 cs (by omega) ((k : Int) + (m : Int) - (fi : Int) * 2) (k + (m - 2 * fi)) (by omega) hidx
          have HI := Lib.hid (hback _ _ _ hI2)
          have hk1000 : k ≤ 1000 := by omega
          clear HGO2 hlt hidx hsum hI hI2 hs2 hs3
          generalize (sgn ls).getD (k + (m - 2 * fi)) 0 = x at *
          generalize (sgn ls).length = y at *
          generalize elt as1 (k + (m - 2 * fi)) = z at *
          have hor := HOR.out
          go_wp2_with fail
          go_ret
          exact Outs.of_ok HG.out ⟨rfl, HI.out⟩
        · have t3 : decide ((m : Int) - (fi : Int) * 2 < (c : Int)) = false := decide_eq_false (by omega)
          have HG := Lib.hid (HGO2.out.trans (if_neg hlt))
          have hk1000 : k + c ≤ 1000 := by omega
          have hfi2 : 2 * fi + c ≤ m := by omega
          by_cases hall : k + c = (sgn ls).length
          · have HG2 := Lib.hid (HG.out.trans (if_pos hall))
            have t4 : ((k : Int) + (c : Int) == ((sgn ls).length : Int)) = true := by rw [beq_iff_eq]; omega
            have hF := hbackF _ hFT
            clear HGO2 HG hlt hsum hI hI2 hs2 hs3 hall
            generalize (sgn ls).length = y at *
            have hor := HOR.out
            go_wp2_with fail
            refine (fail_any 4 _ _ rfl).mono ?_
            rintro e w' ⟨rfl, rfl⟩
            go_wp2_with fail
            exact ⟨rfl, Outs.of_err HG2.out hF⟩
          · have HG2 := Lib.hid (HG.out.trans (if_neg hall))
            have t4 : ((k : Int) + (c : Int) == ((sgn ls).length : Int)) = false := by rw [beq_eq_false_iff_ne]; omega
            clear HGO2 HG hlt hsum hI hs2 hs3 hall
            have HNY := Lib.hid hfew
            clear hfew
            generalize (sgn ls).length = y at *
            have hor := HOR.out
            go_wp2_with fail
            go_roundw
            case rel =>
              refine ⟨f, l + 1, m, 2 * fi + c, q + 1, rfl, by go_num, ?_, by go_num, ?_, by omega, HNEW.out, hfi2, by omega, hI2⟩
              · rw [HNK.out.2]; go_num
              · rw [HNK.out.2]; exact HG2.out.symm
            case measure => simp [intOf]; omega
      · have HG := Lib.hid (HGO.out.symm.trans (if_neg hql))
        have hF2 := hbackF _ hF
        go_wp2_with fail
        exact ⟨rfl, Outs.of_err HG.out hF2⟩

end
end Go.Proofs.Ytaapnjhkflpiiaa
