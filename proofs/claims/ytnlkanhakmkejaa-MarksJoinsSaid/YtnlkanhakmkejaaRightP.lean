/-
  marks.right: the walk.
-/
import Derived.Test.YtnlkanhakmkejaaIdSet
import Derived.Test.YtnlkanhakmkejaaAs24
namespace Go.Proofs.Ytnlkanhakmkejaa
open Go.RowKit Go.Mix Go.Maps Go.WideMaps

theorem mt_load {D : List Deferred} {E : List PanicEntry → World → Prop} {N : Nat → Prop} {P : Program} {ops : Array Oper} {Q : Act → World → Prop} {i : Nat} {r : List (Nat × Nat)} {o : Oper} {a : Act} {w : World} (ho : ops[i]? = some o) (hw : Region.wanted o (yielded ops a.tmps) = true)
    (ty : TypeId) (x : Operand) (hop : o.op = .load ty x) (V v : Value) (hx : a.eval x = V) (hl : ∀ y : MixT.Later N w, (Instr.loadAt ty V).run P y.1 = .ok v y.1)
    (h : MixT.wpMix D E N P ops Q r (a.put o.dst v) w) : MixT.wpMix D E N P ops Q ((i, 0) :: r) a w := by
  refine MixT.mix_calm ho (fun K hK => ?_)
  unfold MixT.calmStep
  rw [if_pos hw]
  refine ⟨v, fun y => ?_, hK _ h⟩
  unfold MixT.calmAt execOp
  simp only [hop, hx, Sem.run_bind, Sem.run_pure, Result.andThen_ok, hl y]
  exact ⟨rfl, rfl⟩

def gits (l : List Pr) (x : Id20) : Bool := l.any fun p => decide (p.1 = x)
def hgs (l : List Pr) (x : Id20) : Bool := l.any fun p => decide (p.2 = x)
theorem gits_succ {l : List Pr} {i : Nat} (h : i < l.length) : gits (l.take (i + 1)) = fun x => gits (l.take i) x || decide (x = l[i]!.1) := by
  funext x; unfold gits; rw [take_succ h, List.any_append]
  congr 1
  simp only [List.any_cons, List.any_nil, Bool.or_false]
  rw [Bool.eq_iff_iff, decide_eq_true_eq, decide_eq_true_eq]; exact eq_comm
theorem hgs_succ {l : List Pr} {i : Nat} (h : i < l.length) : hgs (l.take (i + 1)) = fun x => hgs (l.take i) x || decide (x = l[i]!.2) := by
  funext x; unfold hgs; rw [take_succ h, List.any_append]
  congr 1
  simp only [List.any_cons, List.any_nil, Bool.or_false]
  rw [Bool.eq_iff_iff, decide_eq_true_eq, decide_eq_true_eq]; exact eq_comm
theorem any_take_iff (f : Pr → Bool) {l : List Pr} {i : Nat} (hi : i ≤ l.length) : (l.take i).any f = true ↔ ∃ k, k < i ∧ f l[k]! = true := by
  rw [List.any_eq_true]
  constructor
  · rintro ⟨p, hp, hf⟩
    obtain ⟨k, hk, rfl⟩ := List.getElem_of_mem hp
    have hk2 : k < i := by rw [List.length_take] at hk; omega
    rw [List.getElem_take] at hf
    exact ⟨k, hk2, by rw [getElem!_pos l k (by omega)]; exact hf⟩
  · rintro ⟨k, hk, hf⟩
    have hkl : k < l.length := by omega
    rw [getElem!_pos l k hkl] at hf
    refine ⟨l[k], List.mem_iff_getElem.2 ⟨k, by rw [List.length_take]; omega, by rw [List.getElem_take]⟩, hf⟩

theorem pairBox {W : World} {B : Nat} {p : Pr} {t : TypeId} {fr : Nat × Nat} (h : W.heap[B]? = some (.cells (encA p) t fr)) : W.rangeAt B 0 (enc p) := fun j v hj => by
  rw [cell_of_row _ _ _ _ _ _ h, Nat.zero_add]
  simpa [encA] using hj

set_option maxRecDepth 100000 in
set_option maxHeartbeats 4000000 in
theorem right_any {w : World} {l : List Pr} {a : Option Addr} {cap : Nat} (hg : PsAt w a cap l) (hlen : l.length ≤ 1000000) :
    Calls Try.prog 28 #[.slice a l.length cap] w fun e w' => ∃ r : Bool, e = .returned (.bool r) ∧ (r = true ↔ Rt l) ∧ Below w.heap.size w w' := by
  have hmm := @run_makeMap Try.prog
  obtain ⟨n, hn⟩ : ∃ n, n = l.length := ⟨_, rfl⟩
  have HN := Lib.hid hn
  have HG := Lib.hid hg
  rw [← hn] at hlen ⊢
  clear hn hg
  obtain ⟨Z, hZ⟩ : ∃ Z, Z = encA (id0, id0) := ⟨_, rfl⟩
  have z : ∀ w, (zeroValue 32).run Try.prog w = .ok (.agg Z) w := fun w => by rw [hZ]; kernel_rfl
  have HZ := Lib.hid hZ
  clear hZ
  have hm1 : ((w.alloc (.map #[] 0)).alloc (.map #[] 0)).ownsMap Try.prog 30 (plainElem (H := Unit) Try.prog 4) w.heap.size 0 (.map []) := (World.ownsMap_made _ _ _ _).alloc _
  have hm2 : ((w.alloc (.map #[] 0)).alloc (.map #[] 0)).ownsMap Try.prog 30 (plainElem (H := Unit) Try.prog 4) (w.heap.size + 1) 0 (.map []) := by
    have := World.ownsMap_made (H := Unit) (w.alloc (.map #[] 0)) Try.prog 30 (plainElem (H := Unit) Try.prog 4)
    rw [show (w.alloc (.map #[] 0)).heap.size = w.heap.size + 1 by simp] at this
    exact this
  have hb0 : Below w.heap.size w ((w.alloc (.map #[] 0)).alloc (.map #[] 0)) := ((Below.refl _ _).alloc (Nat.le_refl _) _).alloc (by simp) _
  have HM := Lib.hid (And.intro hm1 (And.intro hm2 hb0))
  clear hm1 hm2 hb0
  go_enter Try.func28, Try.ntmps28
  go_wp2_with fail
  go_loopw [11] (fun s11 wr => ∃ (i : Nat) (D1 D2 : DataW Unit), s11 = .int .i64 (i : Int) ∧ i ≤ n ∧ wr.ownsMap Try.prog 30 (plainElem Try.prog 4) w.heap.size i D1 ∧ IdsAre D1 (gits (l.take i)) ∧ wr.ownsMap Try.prog 30 (plainElem Try.prog 4) (w.heap.size + 1) i D2 ∧ IdsAre D2 (hgs (l.take i)) ∧ (∀ j k, k < j → j < i → l[j]!.1 ≠ l[k]!.1 ∧ l[j]!.2 ≠ l[k]!.2) ∧ Below w.heap.size w wr) (fun s11 _ => n - (intOf s11).toNat)
  case atStart => exact ⟨0, .map [], .map [], rfl, Nat.zero_le _, HM.out.1, ids_start, HM.out.2.1, ids_start, fun _ _ _ h => absurd h (Nat.not_lt_zero _), HM.out.2.2⟩
  case round =>
    obtain ⟨i, D1, D2, rfl, hi, hm1, hD1, hm2, hD2, hpre, hb⟩ := hrel
    have HP := Lib.hid hpre
    have HB := Lib.hid hb
    clear hpre
    by_cases hin : i < n
    · have t1 : decide ((i : Int) < (n : Int)) = true := decide_eq_true (by omega)
      have t1' : decide (i < n) = true := decide_eq_true (by omega)
      have hil : i < l.length := by rw [← HN.out]; omega
      obtain ⟨b, q, IX, L, -, -⟩ := (HG.out.below hb).at tyG (i : Int) i rfl hil
      rw [← HN.out] at IX
      have L' := L _ (Below.refl _ _)
      have G1 := any_take_iff (fun p => decide (p.1 = l[i]!.1)) (l := l) (i := i) (by omega)
      have G2 := any_take_iff (fun p => decide (p.2 = l[i]!.2)) (l := l) (i := i) (by omega)
      have HGG := Lib.hid (And.intro (gits_succ hil) (And.intro (hgs_succ hil) (And.intro G1 G2)))
      have hP1 := ids_put hD1 l[i]!.1
      have hP2 := ids_put hD2 l[i]!.2
      rw [← gits_succ hil] at hP1
      rw [← hgs_succ hil] at hP2
      have HPUT := Lib.hid (And.intro hP1 hP2)
      have HD := Lib.hid (And.intro hD1 hD2)
      have HMM := Lib.hid (And.intro hm1 hm2)
      obtain ⟨p, hp⟩ : ∃ p, p = l[i]! := ⟨_, rfl⟩
      rw [← hp] at L'
      have HPP := Lib.hid hp
      have hzb : (wr.alloc (.cells Z 32)).heap[wr.heap.size]? = some (.cells Z 32 (0, 0)) := heap_alloc_last _ _ _ rfl
      have zs : Z.size = (encA p).size := by rw [HZ.out]; simp [encA, enc_len]
      have zi : (Try.prog.info? 32).map (·.size) = some (encA p).size := by rw [show (encA p).size = 40 by simp [encA, enc_len]]; exact tyG.ie
      have z1 : (encA p).all (·.oneCell') = true := all_oneCell_toArray (enc_one _)
      have gA : Below wr.heap.size wr ((wr.alloc (.cells Z 32)).setRow wr.heap.size (encA p)) := below_setRow ((Below.refl _ _).alloc (Nat.le_refl _) _) (Nat.le_refl _) _
      have hbox : ((wr.alloc (.cells Z 32)).setRow wr.heap.size (encA p)).heap[wr.heap.size]? = some (.cells (encA p) 32 (0, 0)) := setRow_heap _ _ _ _ _ _ hzb
      have HA := Lib.hid (And.intro gA hbox)
      clear L G1 G2 hP1 hP2 hD1 hD2 hm1 hm2 hp hb hil gA hbox
      go_upto_region 5 with (first | (refine wpList_load_at rfl _ _ rfl _ _ rfl L' ?_) | (refine wpList_store_row rfl 32 _ _ rfl wr.heap.size (encA p) rfl rfl 32 Z hzb zi zs z1 ?_))
      have gA := HA.out.1
      have hbox := HA.out.2
      obtain ⟨B, hB⟩ : ∃ B, B = wr.heap.size := ⟨_, rfl⟩
      have hBlt : w.heap.size + 1 < B := by rw [hB]; exact HMM.out.2.lt
      clear HA L' IX zs zi z1 hzb
      generalize (wr.alloc (.cells Z 32)).setRow wr.heap.size (encA p) = w5 at *
      rw [← hB] at hbox ⊢
      have gk : wr.grownBy w5 none := ⟨gA.os, gA.tape, gA.output, gA.size, fun k hk _ => gA.block k hk⟩
      have m1 := HMM.out.1.kept gk (by simp)
      have m2 := HMM.out.2.kept gk (by simp)
      have hb5 := HB.out.trans (gA.mono HB.out.size)
      have LK1 := ids_look m1 HD.out.1 p.1
      have LK2 := ids_look m2 HD.out.2 p.2
      have L1 := tyG.loadId p.1 _ _ _ (rangeAt_enc.1 (pairBox hbox)).1
      have L2 := tyG.loadId p.2 _ _ _ (rangeAt_enc.1 (pairBox hbox)).2
      simp only [Nat.zero_add] at L2
      obtain ⟨b1, hb1⟩ : ∃ b, b = gits (l.take i) p.1 := ⟨_, rfl⟩
      obtain ⟨b2, hb2⟩ : ∃ b, b = hgs (l.take i) p.2 := ⟨_, rfl⟩
      rw [← hb1] at LK1
      rw [← hb2] at LK2
      have HBB := Lib.hid (And.intro hb1 hb2)
      have H5 := Lib.hid (And.intro (And.intro m1 m2) (And.intro hb5 hbox))
      clear hb1 hb2 m1 m2 hb5 hbox gA gk hB
      cases b1
      · cases b2
        · go_upto_region 7 with (first | (refine wpList_load_at rfl _ _ rfl _ _ rfl L1 ?_) | (refine wpList_load_g rfl _ _ rfl _ _ rfl L2 ?_))
          have hbox := H5.out.2.2
          have hNB : ∀ k, k = B → k < w5.heap.size := fun k hk => by subst hk; exact lt_of_block hbox
          have LA : ∀ y : MixT.Later (· = B) w5, (Instr.loadAt 30 (.pointer (some ⟨B, 0, none⟩))).run Try.prog y.1 = .ok (.agg (idA p.1)) y.1 := fun y => tyG.loadId p.1 _ _ _ (rangeAt_enc.1 (pairBox ((y.2.keep B rfl (hNB B rfl)).trans hbox))).1
          have LB : ∀ y : MixT.Later (· = B) w5, (Instr.loadAt 30 (.pointer (some ⟨B, 20, none⟩))).run Try.prog y.1 = .ok (.agg (idA p.2)) y.1 := fun y => by
            have := tyG.loadId p.2 _ _ _ (rangeAt_enc.1 (pairBox ((y.2.keep B rfl (hNB B rfl)).trans hbox))).2
            simp only [Nat.zero_add] at this
            exact this
          have HNB := Lib.hid hNB
          clear L1 L2 LK1 LK2 hbox hNB
          refine MixT.wp_region_mix (N := (· = B)) (D := []) (E := fun _ _ => False) [(0, 0), (1, 0), (2, 0), (3, 0), (4, 0), (5, 0), (6, 1), (7, 1)] (by kernel_rfl) (fun _ _ _ _ h => h.elim) (by kernel_rfl) ?_
          iterate 2 (refine MixT.mix_calm rfl (fun K hK => ?_); go_simp; (refine hK _ ?_; clear hK K))
          refine mt_load rfl rfl _ _ rfl _ _ rfl LA ?_
          iterate 2 (refine MixT.mix_calm rfl (fun K hK => ?_); go_simp; (refine hK _ ?_; clear hK K))
          refine mt_load rfl rfl _ _ rfl _ _ rfl LB ?_
          refine MixT.mix_loud rfl rfl (fun w8 hw8 K hK => ?_)
          have gk8 : w5.grownBy w8 none := ⟨hw8.os, hw8.tape, hw8.output, hw8.size, fun k hk _ => hw8.block k hk⟩
          refine wpList_mapUpdate_own _ rfl _ _ _ 76 rfl 30 4 idKeyed Try.underlying76 (plainElem Try.prog 4) w.heap.size i D1 rfl (H5.out.1.1.kept gk8 (by simp)) (by unfold maxLen; omega) _ _ _ rfl rfl (key_id p.1) _ [] (plainElem_bool Try.underlying4 true) ?_
          intro w9 hm9 hg9
          have m29 := (H5.out.1.2.kept gk8 (by simp)).kept hg9 (by simp)
          have hb9 := (H5.out.2.1.trans (hw8.mono H5.out.2.1.size)).grown hg9 (Nat.le_trans H5.out.2.1.size hw8.size) (fun k hk => by injection hk with hk; omega)
          have gr9 : MixT.Grow (· = B) w8 w9 := ⟨hg9.os, hg9.tape, hg9.output, hg9.size, fun k hk hl => hg9.block k hl (by subst hk; simp; omega)⟩
          have HX9 := Lib.hid (And.intro (And.intro hm9 m29) hb9)
          clear hm9 m29 hb9 hg9 gk8 hw8 LA LB
          go_wp2_with fail
          refine hK _ _ gr9 ?_
          clear hK K gr9
          refine MixT.mix_loud rfl rfl (fun w10 hw10 K hK => ?_)
          have gk10 : w9.grownBy w10 none := ⟨hw10.os, hw10.tape, hw10.output, hw10.size, fun k hk _ => hw10.block k hk⟩
          refine wpList_mapUpdate_own _ rfl _ _ _ 76 rfl 30 4 idKeyed Try.underlying76 (plainElem Try.prog 4) (w.heap.size + 1) i D2 rfl (HX9.out.1.2.kept gk10 (by simp)) (by unfold maxLen; omega) _ _ _ rfl rfl (key_id p.2) _ [] (plainElem_bool Try.underlying4 true) ?_
          intro w11 hm11 hg11
          have m111 := (HX9.out.1.1.kept gk10 (by simp)).kept hg11 (by simp)
          have hb11 := (HX9.out.2.trans (hw10.mono HX9.out.2.size)).grown hg11 (Nat.le_trans HX9.out.2.size hw10.size) (fun k hk => by injection hk with hk; omega)
          have gr11 : MixT.Grow (· = B) w10 w11 := ⟨hg11.os, hg11.tape, hg11.output, hg11.size, fun k hk hl => hg11.block k hl (by subst hk; simp; omega)⟩
          have HX11 := Lib.hid (And.intro (And.intro m111 hm11) hb11)
          clear hm11 m111 hb11 hg11 gk10 hw10
          go_wp2_with fail
          refine hK _ _ gr11 ?_
          clear hK K gr11
          refine MixT.mix_nil fun w12 hw12 => ?_
          have gk12 : w11.grownBy w12 none := ⟨hw12.os, hw12.tape, hw12.output, hw12.size, fun k hk _ => hw12.block k hk⟩
          have HX12 := Lib.hid (And.intro (And.intro (HX11.out.1.1.kept gk12 (by simp)) (HX11.out.1.2.kept gk12 (by simp))) (HX11.out.2.trans (hw12.mono HX11.out.2.size)))
          clear hw12 gk12
          go_wp2_with fail
          go_roundw
          case rel =>
            refine ⟨i + 1, _, _, by go_num, by omega, HX12.out.1.1, HPP.out ▸ HPUT.out.1, HX12.out.1.2, HPP.out ▸ HPUT.out.2, fun j k hk hj => ?_, HX12.out.2⟩
            rcases Nat.lt_or_ge j i with h | h
            · exact HP.out j k hk h
            · obtain rfl : j = i := by omega
              have hh1 := HBB.out.1
              have hh2 := HBB.out.2
              rw [HPP.out] at hh1 hh2
              refine ⟨fun e => ?_, fun e => ?_⟩
              · have := HGG.out.2.2.1.2 ⟨k, hk, decide_eq_true e.symm⟩
                unfold gits at hh1
                rw [this] at hh1; cases hh1
              · have := HGG.out.2.2.2.2 ⟨k, hk, decide_eq_true e.symm⟩
                unfold hgs at hh2
                rw [this] at hh2; cases hh2
          case measure => simp [intOf]; omega
        · go_wp2_with (first | (refine wpList_load_at rfl _ _ rfl _ _ rfl L1 ?_) | (refine wpList_load_g rfl _ _ rfl _ _ rfl L2 ?_))
          go_ret
          refine ⟨_, rfl, ⟨fun h => (by cases h), fun h => ?_⟩, H5.out.2.1⟩
          have hh := HBB.out.2
          rw [HPP.out] at hh
          obtain ⟨k, hk, hf⟩ := HGG.out.2.2.2.1 hh.symm
          exact absurd (of_decide_eq_true hf).symm (h i k hk (by rw [← HN.out]; exact hin)).2
      · go_wp2_with (first | (refine wpList_load_at rfl _ _ rfl _ _ rfl L1 ?_) | (refine wpList_load_g rfl _ _ rfl _ _ rfl L2 ?_))
        go_ret
        refine ⟨_, rfl, ⟨fun h => (by cases h), fun h => ?_⟩, H5.out.2.1⟩
        have hh := HBB.out.1
        rw [HPP.out] at hh
        obtain ⟨k, hk, hf⟩ := HGG.out.2.2.1.1 hh.symm
        exact absurd (of_decide_eq_true hf).symm (h i k hk (by rw [← HN.out]; exact hin)).1
    · obtain rfl : i = n := by omega
      have t1 : decide ((i : Int) < (i : Int)) = false := decide_eq_false (by omega)
      have t1' : decide (i < i) = false := decide_eq_false (by omega)
      clear hm1 hm2 hD1 hD2 hb
      go_wp2_with fail
      go_ret
      exact ⟨_, rfl, ⟨fun _ j k hk hj => HP.out j k hk (by rw [HN.out]; exact hj), fun _ => rfl⟩, HB.out⟩
end Go.Proofs.Ytnlkanhakmkejaa
