/-
  slices.Contains, ContainsFunc, Clone at pairs, and Add's own test.
-/
import Derived.Test.YtnlkanhakmkejaaFind
namespace Go.Proofs.Ytnlkanhakmkejaa
open Go.RowKit Go.Mix Go.WideMaps Go.Proofs

set_option maxRecDepth 100000 in
set_option maxHeartbeats 1000000 in
theorem index_empty {w : World} (a : Option Addr) (cap : Nat) (p : Pr) : Calls Try.prog 36 #[.slice a 0 cap, .agg (encA p)] w fun e w' => e = .returned (.int .i64 (-1)) ∧ Below w.heap.size w w' := by
  have hA : Below w.heap.size w (w.alloc (.cells (encA p) 32)) := (Below.refl _ _).alloc (Nat.le_refl _) _
  have HA := Lib.hid hA
  clear hA
  go_enter Try.func36, Try.ntmps36
  go_wp2_with fail
  go_loopw [5, 8] (fun _ s8 wr => s8 = .int .i64 0 ∧ Below w.heap.size w wr) (fun _ _ _ => 0)
  case atStart => exact ⟨rfl, HA.out⟩
  case round =>
    obtain ⟨rfl, hb⟩ := hrel
    go_wp2_with fail
    go_ret
    exact ⟨rfl, hb⟩

set_option maxRecDepth 100000 in
set_option maxHeartbeats 1000000 in
theorem contains_empty {w : World} (a : Option Addr) (cap : Nat) (p : Pr) : Calls Try.prog 19 #[.slice a 0 cap, .agg (encA p)] w fun e w' => e = .returned (.bool false) ∧ Below w.heap.size w w' := by
  have hA : Below w.heap.size w (w.alloc (.cells (encA p) 32)) := (Below.refl _ _).alloc (Nat.le_refl _) _
  have HA := Lib.hid hA
  have L := tyG.load p _ _ _ (range_box w (enc p) 32)
  change Sem.run _ _ (w.alloc (.cells (encA p) 32)) = _ at L
  have C := index_empty (w := w.alloc (.cells (encA p) 32)) a cap p
  clear hA
  go_enter Try.func19, Try.ntmps19
  go_wp2_with (refine wpList_load_at rfl _ _ rfl _ _ rfl L ?_)
  refine C.mono ?_
  rintro e w2 ⟨rfl, hb2⟩
  have HB := Lib.hid (HA.out.trans (hb2.mono (by simp)))
  go_wp2_with fail
  go_ret
  exact ⟨rfl, HB.out⟩

theorem contains_any {w : World} {a : Option Addr} {cap : Nat} {l : List Pr} (h : PsAt w a cap l) (p : Pr) :
    Calls Try.prog 19 #[.slice a l.length cap, .agg (encA p)] w fun e w' => e = .returned (.bool (l.any fun y => decide (p = y))) ∧ Below w.heap.size w w' := by
  have hle := h.le
  have hbig := h.big
  by_cases hl : l = []
  · subst hl
    exact contains_empty a cap p
  · rcases h.cells with h0 | ⟨b, o, rfl, hc⟩
    · exact absurd h0 hl
    · have := AnyQ.slices_Contains Try.lgContains 40 Try.isAgg32 Try.sizeOf32 enc enc_len (fun x y => decide (x = y)) tyG.eqE b o l.length cap l p w (Nat.le_refl _) (by omega) (fun j hj i v hi => hc j hj i v hi)
      rw [List.take_length] at this
      exact this

set_option maxRecDepth 100000 in
set_option maxHeartbeats 1000000 in
theorem containsFunc_empty {w : World} (a : Option Addr) (cap : Nat) (f : Value) : Calls Try.prog 21 #[.slice a 0 cap, f] w fun e w' => e = .returned (.bool false) ∧ Below w.heap.size w w' := by
  have C := indexFunc_empty (w := w) a cap f
  go_enter Try.func21, Try.ntmps21
  go_wp2_with fail
  refine C.mono ?_
  rintro e w2 ⟨rfl, rfl⟩
  go_wp2_with fail
  go_ret
  exact ⟨rfl, Below.refl _ _⟩

theorem containsFunc_any {w : World} {a : Option Addr} {cap : Nat} {l : List Pr} (h : PsAt w a cap l) (p : Pr → Bool) (g : Nat) (lb : Array Value) (eg : ∀ args w, (callFunc g args).run Try.prog w = .ok (.enter g args) w)
    (hp : PredBelow Try.prog g lb (fun x => .agg (enc x).toArray) p w) :
    Calls Try.prog 21 #[.slice a l.length cap, .func (.func g) #[] lb] w fun e w' => e = .returned (.bool (l.any p)) ∧ Below w.heap.size w w' := by
  have hle := h.le
  have hbig := h.big
  by_cases hl : l = []
  · subst hl
    exact containsFunc_empty a cap _
  · rcases h.cells with h0 | ⟨b, o, rfl, hc⟩
    · exact absurd h0 hl
    · have hpos : 0 < l.length := by cases l with | nil => exact absurd rfl hl | cons => simp
      have h0 := hc 0 hpos
      have hb : b < w.heap.size := lt_of_cell (p := ⟨b, _, none⟩) (h0 0 _ (List.getElem?_eq_getElem (by rw [enc_len]; omega)))
      have := AnyQ.slices_ContainsFunc Try.lgContainsFunc 40 Try.isAgg32 Try.sizeOf32 enc enc_len p g lb eg b o l.length cap l w hp (Nat.le_refl _) (by omega) hb (fun j hj i v hi => hc j hj i v hi)
      rw [List.take_length] at this
      exact this

/-- The address is nil or a plain one. -/
def plainA (a : Option Addr) : Prop := a = none ∨ ∃ b o, a = some ⟨b, o, none⟩
theorem OwnP.psA {e : TypeId} {w0 w : World} {v : Value} {l : List Pr} (h : OwnP e w0 w v l) : ∃ a c, v = .slice a l.length c ∧ PsAt w a c l ∧ plainA a := by
  obtain ⟨a, c, e1, hp⟩ := h.ps
  refine ⟨a, c, e1, hp, ?_⟩
  rcases h.own.2 with ⟨h1, _⟩ | ⟨g, cap, cur, h1, _⟩
  · rw [h1] at e1; injection e1 with e1; exact .inl e1.symm
  · rw [h1] at e1; injection e1 with e1; exact .inr ⟨g, 0, e1.symm⟩

theorem clone_any {w : World} {a : Option Addr} {cap : Nat} {l : List Pr} (h : PsAt w a cap l) (ha : plainA a) (hl : l.length ≤ 1000000) :
    Calls Try.prog 20 #[.slice a l.length cap] w fun e w' => ∃ v, e = .returned v ∧ OwnP 32 w w' v l := by
  have hle := h.le
  have hbig := h.big
  rcases ha with rfl | ⟨b, o, rfl⟩
  · have hc0 := h.non rfl
    have hl0 : l = [] := List.eq_nil_of_length_eq_zero (by omega)
    subst hl0
    exact (AnyE.slices_Clone_nil Try.lgClone 0 cap w).mono fun e w' ⟨he, hw⟩ => ⟨_, he, by rw [hw]; exact OwnP.nil (Below.refl _ _)⟩
  · obtain ⟨i, hi, hz0, hz1, hz2⟩ := info_parts tyG.hi
    refine (AnyE.slices_Clone Try.lgClone i _ 40 40 hi hz0 hz1 hz2 (by simp [Value.cells, encA, enc_len]) (by decide) Try.sizeOf32 b o l.length cap (flat l) w (flat_len l) (by unfold maxLen; omega) (by omega) (fun j u hj => ?_) (flat_oneCell l)).mono fun e w' ⟨v, he, h1, h2, h3⟩ => ⟨v, he, h1, h3⟩
    rcases h.cells with rfl | ⟨b', o', e', hc⟩
    · simp [flat] at hj
    · injection e' with e'
      injection e' with e1 e2
      subst e1 e2
      exact (rangeAt_flat l o).2 hc j u hj

theorem wpList_load_g {P : Program} {ops : Array Oper} {rest : List Oper} {o : Oper} {a : Act} {w : World} {Q : Exit → Act → World → Prop} (hw : Region.wanted o (yielded ops a.tmps) = true)
    (ty : TypeId) (x : Operand) (hop : o.op = .load ty x) (V v : Value) (hx : a.eval x = V) (hl : (Instr.loadAt ty V).run P w = .ok v w)
    (h : wpList P ops Q rest (a.put o.dst v) w) : wpList P ops Q (o :: rest) a w := by
  unfold wpList
  rw [if_pos hw]
  refine .inl ?_
  unfold Oper.wp execOp
  simp only [hop, hx, Sem.run_bind, Sem.run_pure, Result.andThen_ok, hl]
  exact h

theorem enters22 : ∀ args w, (callFunc 22 args).run Try.prog w = .ok (.enter 22 args) w := enters_of Try.func22 (by kernel_rfl) rfl

def clashes (q p : Pr) : Bool := decide (p.1 = q.1) || decide (p.2 = q.2)

set_option maxRecDepth 100000 in
set_option maxHeartbeats 1000000 in
/-- Add's test: does the pair clash with the one that the box at B holds? -/
theorem addTest_any {B : Nat} {q : Pr} {w : World} (hc : w.rangeAt B 0 (enc q)) :
    PredBelow Try.prog 22 #[.pointer (some ⟨B, 0, none⟩)] (fun p => .agg (enc p).toArray) (clashes q) w := fun W p hb => by
  show Calls Try.prog 22 #[.agg (encA p), .pointer (some ⟨B, 0, none⟩)] W _
  have hb1 : Below w.heap.size w (W.alloc (.cells (encA p) 32)) := hb.alloc hb.size _
  have hr := rangeAt_enc.1 (range_box W (enc p) 32)
  have hq := rangeAt_enc.1 (range_below hc hb1)
  have L1 := tyG.loadId p.1 _ _ _ hr.1
  have L2 := tyG.loadId p.2 _ _ _ hr.2
  have L3 := tyG.loadId q.1 _ _ _ hq.1
  have L4 := tyG.loadId q.2 _ _ _ hq.2
  have E1 := eq_id_run arrG p.1 q.1
  have E2 := eq_id_run arrG p.2 q.2
  have G1 := fun op a b => tyG.eqF.2 op a b p.1 q.1
  have G2 := fun op a b => tyG.eqF.2 op a b p.2 q.2
  simp only [] at G1 G2
  change Sem.run _ _ (W.alloc (.cells (encA p) 32)) = _ at L1 L2
  have HB := Lib.hid hb1
  have hcl : clashes q p = (decide (p.1 = q.1) || decide (p.2 = q.2)) := rfl
  clear hb1 hr hq hb hc
  generalize decide (p.1 = q.1) = d1 at *
  generalize decide (p.2 = q.2) = d2 at *
  have HC := Lib.hid hcl
  clear hcl
  go_enter Try.func22, Try.ntmps22
  cases d1
  · go_wp2_with (first | (refine wpList_load_g rfl _ _ rfl _ _ rfl L1 ?_) | (refine wpList_load_g rfl _ _ rfl _ _ rfl L2 ?_) | (refine wpList_load_g rfl _ _ rfl _ _ rfl L3 ?_) | (refine wpList_load_g rfl _ _ rfl _ _ rfl L4 ?_))
    go_ret
    exact ⟨by rw [HC.out]; rfl, HB.out⟩
  · go_wp2_with (first | (refine wpList_load_g rfl _ _ rfl _ _ rfl L1 ?_) | (refine wpList_load_g rfl _ _ rfl _ _ rfl L2 ?_) | (refine wpList_load_g rfl _ _ rfl _ _ rfl L3 ?_) | (refine wpList_load_g rfl _ _ rfl _ _ rfl L4 ?_))
    go_ret
    exact ⟨by rw [HC.out]; rfl, HB.out⟩
end Go.Proofs.Ytnlkanhakmkejaa
