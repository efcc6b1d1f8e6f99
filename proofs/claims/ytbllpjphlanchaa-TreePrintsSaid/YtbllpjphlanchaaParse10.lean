/-
  tree.Parse: the walk.
-/
import Derived.Test.YtbllpjphlanchaaEnts
import Derived.Maps.OwnIn
namespace Go.Proofs.Ytbllpjphlanchaa
open Go.RowKit Go.Mix
attribute [local go_sem] Oper.semAt_some

set_option maxRecDepth 100000 in
set_option maxHeartbeats 1000000 in
theorem entries_any (ad : Option Addr) (n c : Nat) (w : World) : Calls Try.prog 28 #[.slice ad n c] w fun e w' => e = .returned (.func (.func 33) #[] #[.pointer (some ⟨w.heap.size, 0, none⟩)]) ∧ w' = w.alloc (.cells #[.slice ad n c] 26) := by
  go_enter Try.func28, Try.ntmps28
  go_wp2_with fail
  go_ret
  exact ⟨rfl, rfl⟩

/-- Between two rounds of Parse's loop: what its boxes hold. -/
def PI (w : World) (S : Nat) (pre : List (Ent × Bool)) (W : World) : Prop :=
  (∃ v, Boxed W (w.heap.size + 1 + 1) 23 v ∧ W.ownsRow S 40 22 v pre.length (flatR encE (pre.map (·.1)))) ∧ Boxed W w.heap.size 23 (.slice none 0 0) ∧ Boxed W (w.heap.size + 1) 27 (.int .i64 0) ∧ (∀ x ∈ pre, x.2 = true) ∧ Below w.heap.size w W ∧ S ≤ W.heap.size
/-- A round has returned. -/
def PX (w : World) (S : Nat) (c : Code) (pre : List (Ent × Bool)) (W : World) : Prop :=
  c = .ret ∧ (∃ x ∈ pre, x.2 = false) ∧ Boxed W w.heap.size 23 (.slice none 0 0) ∧ Boxed W (w.heap.size + 1) 27 (.int .i64 4) ∧ Below w.heap.size w W ∧ S ≤ W.heap.size
theorem PI.own {w : World} {Bc S : Nat} (h3 : Bc = w.heap.size + 3) (h4 : S = Bc + 1) : OwnBox Bc S (PI w S) := by
  rintro s A B row ⟨⟨v, hv, ho⟩, hb0, hb1, hall, hbel, hsz⟩ hg hr
  have ne : ∀ k, k < Bc → some k ≠ row := fun k hk e => by
    rcases hr k e.symm with h | ⟨h, _⟩ <;> omega
  refine ⟨⟨v, hv.kept hg (ne _ (by omega)), ho.kept hg ?_⟩, hb0.kept hg (ne _ (by omega)), hb1.kept hg (ne _ (by omega)), hall, hbel.grown hg hbel.size (fun k e => ?_), Nat.le_trans hsz hg.size⟩
  · rcases ho.2 with ⟨rfl, _⟩ | ⟨g, c, cur, rfl, hb, hgb, _⟩
    · exact .inl rfl
    · refine .inr fun e => ?_
      simp only [Value.ownBlock] at e
      rcases hr g e.symm with h | ⟨_, o, ho1, ho2⟩
      · omega
      · rw [hgb] at ho1; cases ho1; cases ho2
  · rcases hr k e with h | ⟨h, _⟩ <;> omega
theorem PX.own {w : World} {Bc S : Nat} (h3 : Bc = w.heap.size + 3) (h4 : S = Bc + 1) (c : Code) : OwnBox Bc S (PX w S c) := by
  rintro s A B row ⟨hc, hex, hb0, hb1, hbel, hsz⟩ hg hr
  have ne : ∀ k, k < Bc → some k ≠ row := fun k hk e => by
    rcases hr k e.symm with h | ⟨h, _⟩ <;> omega
  refine ⟨hc, hex, hb0.kept hg (ne _ (by omega)), hb1.kept hg (ne _ (by omega)), hbel.grown hg hbel.size (fun k e => ?_), Nat.le_trans hsz hg.size⟩
  rcases hr k e with h | ⟨h, _⟩ <;> omega

theorem parse_end {n : Nat} {W : World} {D R0 R1 : Nat} {v : Value} {ec : Int} {R : Ending → World → Prop} (tmps : Array Value) (h2 : tmps[2]?.getD undef = .pointer (some ⟨R0, 0, none⟩)) (h3 : tmps[3]?.getD undef = .pointer (some ⟨R1, 0, none⟩))
    (hK : W.heap[D]? = some (.deferred (some []))) (hb0 : Boxed W R0 23 v) (hb1 : Boxed W R1 27 (.int .i64 ec))
    (h : R (.returned (.tuple #[v, .int .i64 ec])) (W.putObj D (.deferred none))) : bodyPostM Fence.wide n Try.prog Try.f19 R .ret { tmps := tmps, defers := [{ target := .collected D, args := #[] }] } W := by
  refine ⟨by simp, .inl ⟨D, _, rfl, run_takeDeferred hK, ?_⟩⟩
  have n0 : R0 ≠ D := fun e => by subst e; rw [show W.heap[R0]? = _ from hb0] at hK; cases hK
  have n1 : R1 ≠ D := fun e => by subst e; rw [show W.heap[R1]? = _ from hb1] at hK; cases hK
  have c0 : (W.putObj D (.deferred none)).cell? ⟨R0, 0, none⟩ = some v := Boxed.cell (t := 23) (by unfold Boxed; rw [World.putObj_heap_other n0]; exact hb0)
  have c1 : (W.putObj D (.deferred none)).cell? ⟨R1, 0, none⟩ = some (.int .i64 ec) := Boxed.cell (t := 27) (by unfold Boxed; rw [World.putObj_heap_other n1]; exact hb1)
  refine ⟨_, ?_, h⟩
  have hr : Try.f19.results = #[.cell 2 23, .cell 3 27] := rfl
  unfold results
  rw [hr]
  simp [h2, h3, go_sem, c0, c1]

set_option maxRecDepth 100000 in
set_option maxHeartbeats 4000000 in
theorem parse_any {w : World} {b : List UInt8} {a : Option Addr} {cap : Nat} (hs : Bs w a b) (hb : b.length ≤ 100000) (hcap : b.length ≤ cap) (hn : a = none → cap = 0) :
    Calls Try.prog 19 #[.slice a b.length cap] w fun e w' =>
      (∃ l, readE b.length b = some l ∧ RightE l ∧ ∃ v, e = .returned (.tuple #[v, .int .i64 0]) ∧ OwnR encE 22 40 w w' v l) ∨
      ((readE b.length b = none ∨ ∃ l, readE b.length b = some l ∧ ¬ RightE l) ∧ e = .returned (.tuple #[.slice none 0 0, .int .i64 4]) ∧ Below w.heap.size w w') := by
  have CE := fun W => entries_any a b.length cap W
  obtain ⟨n, hnn⟩ : ∃ n, n = 5 := ⟨_, rfl⟩
  have h1n : 1 ≤ n := by omega
  obtain ⟨W3, hW3⟩ : ∃ W3, W3 = ((w.alloc (.cells #[.slice none 0 0] 23)).alloc (.cells #[.int .i64 0] 27)).alloc (.cells #[.slice none 0 0] 23) := ⟨_, rfl⟩
  have hb3 : Below w.heap.size w W3 := by rw [hW3]; exact (((Below.refl _ _).alloc (Nat.le_refl _) _).alloc (by simp) _).alloc (by simp; omega) _
  have hs3 : W3.heap.size = w.heap.size + 3 := by rw [hW3]; simp
  have hx0 : Boxed W3 w.heap.size 23 (.slice none 0 0) := by rw [hW3]; exact ((Boxed.new w _ _).alloc _).alloc _
  have hx1 : Boxed W3 (w.heap.size + 1) 27 (.int .i64 0) := by
    rw [hW3]
    have := Boxed.new (w.alloc (.cells #[.slice none 0 0] 23)) 27 (.int .i64 0)
    rw [World.size_alloc] at this
    exact this.alloc _
  have hx2 : Boxed W3 (w.heap.size + 1 + 1) 23 (.slice none 0 0) := by
    rw [hW3]
    have := Boxed.new ((w.alloc (.cells #[.slice none 0 0] 23)).alloc (.cells #[.int .i64 0] 27)) 23 (.slice none 0 0)
    rw [World.size_alloc, World.size_alloc] at this
    exact this
  have hb4 : Below w.heap.size w (W3.alloc (.cells #[.slice a b.length cap] 26)) := hb3.alloc hb3.size _
  have hbx : (W3.alloc (.cells #[.slice a b.length cap] 26)).heap[W3.heap.size]? = some (.cells #[.slice a b.length cap] 26 (0, 0)) := heap_alloc_last _ _ _ rfl
  have H3 := Lib.hid (And.intro hb3 (And.intro hs3 (And.intro (hx0.alloc (.cells #[.slice a b.length cap] 26)) (And.intro (hx1.alloc (.cells #[.slice a b.length cap] 26)) (And.intro (hx2.alloc (.cells #[.slice a b.length cap] 26)) hb4)))))
  have HS := entries_seq (n - 1) w (W3.alloc (.cells #[.slice a b.length cap] 26)) W3.heap.size b hb hb3.size (by simp) hb4 ⟨a, cap, hbx, hs, hcap, hn⟩
  have HSQ := Lib.hid HS
  have HW3 := Lib.hid hW3
  clear hb3 hs3 hx0 hx1 hx2 hb4 hbx HS hW3
  refine (callsIn_wide (n := n)).1 ?_
  refine callsIn_of_wp_marks Try.func19 rfl trivial ?_ rfl
  simp only [Try.ntmps19, List.size_toArray, List.length_cons, List.length_nil, Nat.reduceAdd, Nat.reduceSub, Array.replicate_succ, Array.replicate_zero, List.push_toArray, List.append_toArray, List.nil_append, List.cons_append]
  generalize hQ : bodyPostM Fence.wide n Try.prog _ _ = Q
  have HQ0 := Lib.hid hQ
  clear hQ
  refine (wpIn_wide (n := n)).2 ?_
  go_wp2_with (go_at_call 28; refine (CE _).mono ?_; rintro e w' ⟨rfl, rfl⟩)
  rw [← HW3.out]
  have hB : w.heap.size + 1 + 1 + 1 = W3.heap.size := H3.out.2.1.symm
  rw [hB]
  clear CE hB
  obtain ⟨W4, hW4⟩ : ∃ W4, W4 = W3.alloc (.cells #[.slice a b.length cap] 26) := ⟨_, rfl⟩
  have H4 := H3.out
  have HSQ4 := HSQ.out
  have h4s : W4.heap.size = W3.heap.size + 1 := by rw [hW4]; simp
  rw [← hW4] at H4 HSQ4 ⊢
  clear H3 HSQ hW4
  obtain ⟨-, h3s, hx0, hx1, hx2, hb4⟩ := H4
  have hbx : W4.heap.size = w.heap.size + 4 := by omega
  have H5 := Lib.hid (And.intro hx0 (And.intro hx1 (And.intro hx2 (And.intro hb4 (And.intro h3s h4s)))))
  clear hx0 hx1 hx2 hb4
  refine (wpIn_wide (n := n)).1 ?_
  refine wpIn_rangeFunc_box (encs := encY) (Bc := W3.heap.size) (Kp := KpE w W3.heap.size) rfl h1n rfl trivial (enters_of Try.func33 (by kernel_rfl) rfl) HSQ4 (by omega) (fun h k => ⟨h.1.trans k.1, k.2.trans h.2⟩)
    (fun W l o o' hl h h1 h2 => ⟨belowK_b (w := W4) (by omega) W l o o' hl h h1 h2, by rw [World.putObj_heap_other (by omega)]⟩) (fun _ => rfl)
    (PI w W4.heap.size) (PX w W4.heap.size) (PI.own h3s h4s) (PX.own h3s h4s)
    ?h0
    (fun x a' W => ∃ k, W.heap[k]? = some (.cells (recA encE x.1) 40 (0, 0)) ∧ a' = { tmps := #[.slice a b.length cap, undef, .pointer (some ⟨w.heap.size, 0, none⟩), .pointer (some ⟨w.heap.size + 1, 0, none⟩), .pointer (some ⟨w.heap.size + 1 + 1, 0, none⟩), .pointer (some ⟨k, 0, none⟩), .bool x.2, .slice a b.length cap, .func (.func 33) #[] #[.pointer (some ⟨W3.heap.size, 0, none⟩)], .agg (recA encE x.1), .bool x.2, undef, undef, undef, undef, undef, undef, undef, undef, undef, undef], defers := [] })
    ?hAx ?assign ?body ?done ?stop
  case h0 => exact ⟨⟨_, H5.out.2.2.1, World.ownsRow_nil _ _ _ _⟩, H5.out.1, H5.out.2.1, fun _ h => (by simp at h), H5.out.2.2.2.1, Nat.le_refl _⟩
  case hAx =>
    rintro x a' W l r o' ⟨k, hk, rfl⟩ hl
    refine ⟨k, ?_, rfl⟩
    by_cases e : k = l
    · subst e; rw [hk] at hl; cases hl
    · rw [World.putObj_heap_other e]; exact hk
  case assign =>
    intro l pre x W K hi hK
    obtain ⟨Z, hZ⟩ : ∃ Z, Z = recA encE ent0 := ⟨_, rfl⟩
    have z : ∀ w, (zeroValue 40).run Try.prog w = .ok (.agg Z) w := fun w => by rw [hZ]; kernel_rfl
    obtain ⟨e1, ok⟩ := x
    have hzb : (W.alloc (.cells Z 40)).heap[W.heap.size]? = some (.cells Z 40 (0, 0)) := heap_alloc_last _ _ _ rfl
    have zs : Z.size = (recA encE e1).size := by rw [hZ]; simp [recA, encE_len]
    have zi : (Try.prog.info? 40).map (·.size) = some (recA encE e1).size := by rw [show (recA encE e1).size = 22 by simp [recA, encE_len]]; exact tyE.ie
    have z1 : (recA encE e1).all (·.oneCell') = true := all_oneCell_toArray (encE_one _)
    have hbox : ((W.alloc (.cells Z 40)).setRow W.heap.size (recA encE e1)).heap[W.heap.size]? = some (.cells (recA encE e1) 40 (0, 0)) := setRow_heap _ _ _ _ _ _ hzb
    have gA : Below W.heap.size W ((W.alloc (.cells Z 40)).setRow W.heap.size (recA encE e1)) := below_setRow ((Below.refl _ _).alloc (Nat.le_refl _) _) (Nat.le_refl _) _
    have HA := Lib.hid (And.intro hbox (And.intro gA (And.intro hi hK)))
    clear hZ hbox gA hi hK h3s h4s hbx HSQ4
    unfold encY
    gi_wp2_with (first | (refine wpListIn_store_rowTo rfl 40 _ _ rfl W.heap.size (recA encE e1) rfl rfl 40 Z hzb zi zs z1 ?_))
    have gA := HA.out.2.1
    have hi := HA.out.2.2.1
    have hg : W.grownBy ((W.alloc (.cells Z 40)).setRow W.heap.size (recA encE e1)) none := ⟨gA.os, gA.tape, gA.output, gA.size, fun k hk _ => gA.block k hk⟩
    refine HA.out.2.2.2 _ _ (KeepsOthers.of_grownBy hg (fun j o e => by cases e)) ⟨gA.mono hi.2.2.2.2.1.size, gA.block _ (by have := hi.2.2.2.2.2; have := H5.out.2.2.2.2; omega)⟩ (PI.own H5.out.2.2.2.2.1 H5.out.2.2.2.2.2 _ _ _ _ hi hg (fun r e => by cases e)) ⟨W.heap.size, HA.out.1, rfl⟩
  case body =>
    rintro l pre ⟨e1, ok⟩ a' W hi hsp ⟨k, hk, rfl⟩
    have HI := Lib.hid (And.intro hi (And.intro hsp hk))
    clear hi hsp hk h3s h4s hbx HSQ4
    cases ok
    · obtain ⟨⟨v, hv, ho⟩, hb0, hb1, hall, hbel, hsz⟩ := HI.out.1
      have hq0 := hb0
      have hst : Boxed (W.setRow w.heap.size #[.slice none 0 0]) (w.heap.size + 1) 27 (.int .i64 0) := by
        unfold Boxed
        rw [setRow_other _ _ _ _ (by omega)]; exact hb1
      have hq1 := hst
      have hp1 : Boxed ((W.setRow w.heap.size #[.slice none 0 0]).setRow (w.heap.size + 1) #[.int .i64 4]) w.heap.size 23 (.slice none 0 0) := by
        unfold Boxed
        rw [setRow_other _ _ _ _ (by omega)]; exact setRow_heap _ _ _ _ _ _ hb0
      have hp2 : Boxed ((W.setRow w.heap.size #[.slice none 0 0]).setRow (w.heap.size + 1) #[.int .i64 4]) (w.heap.size + 1) 27 (.int .i64 4) := setRow_heap _ _ _ _ _ _ hst
      have hp3 : Below w.heap.size w ((W.setRow w.heap.size #[.slice none 0 0]).setRow (w.heap.size + 1) #[.int .i64 4]) := below_setRow (below_setRow hbel (Nat.le_refl _) _) (Nat.le_succ _) _
      have hp4 : KeepsOthers W ((W.setRow w.heap.size #[.slice none 0 0]).setRow (w.heap.size + 1) #[.int .i64 4]) := by
        refine ⟨by rw [setRow_size, setRow_size]; exact Nat.le_refl _, fun j o hj ho => ?_⟩
        by_cases e0 : j = w.heap.size
        · subst e0; rw [show W.heap[w.heap.size]? = _ from hb0] at hj; cases hj; cases ho
        · by_cases e1 : j = w.heap.size + 1
          · subst e1; rw [show W.heap[w.heap.size + 1]? = _ from hb1] at hj; cases hj; cases ho
          · rw [setRow_other _ _ _ _ e1, setRow_other _ _ _ _ e0]; exact hj
      have HP := Lib.hid (And.intro hp1 (And.intro hp2 (And.intro hp3 (And.intro hp4 hsz))))
      have HQ := Lib.hid (And.intro hq0 hq1)
      clear hv ho hb0 hb1 hall hbel hsz hq0 hq1 hst hp1 hp2 hp3 hp4
      gi_wp2_with (first | (refine wpListIn_store_oneTo rfl 23 _ _ rfl w.heap.size (.slice none 0 0) rfl rfl rfl 23 _ HQ.out.1 (by kernel_rfl) ?_) | (refine wpListIn_store_oneTo rfl 27 _ _ rfl (w.heap.size + 1) (.int .i64 4) rfl rfl rfl 27 _ HQ.out.2 (by kernel_rfl) ?_))
      exact ⟨HP.out.2.2.2.1, rfl, ⟨(e1, false), by simp, rfl⟩, HP.out.1, HP.out.2.1, HP.out.2.2.1, by rw [setRow_size, setRow_size]; exact HP.out.2.2.2.2⟩
    · obtain ⟨⟨v, hv, ho⟩, hb0, hb1, hall, hbel, hsz⟩ := HI.out.1
      have hlen : (pre ++ [(e1, true)]).length ≤ b.length := Nat.le_trans (HI.out.2.1.length_le) (entL_len _ _)
      rw [List.length_append] at hlen
      have L5 := tyE.load e1 k 0 W (recBox HI.out.2.2)
      have L4 : (Instr.loadAt 23 (.pointer (some ⟨w.heap.size + 1 + 1, 0, none⟩))).run Try.prog W = .ok v W := by
        have c := hv.cell
        go_simp
      have S1 := tyE.slice1 e1 W
      have hnews : ∀ j u, (flatR encE [e1])[j]? = some u → (W.alloc (.cells (recA encE e1) 40)).cell? ((⟨W.heap.size, 0, none⟩ : Addr).add j) = some u := fun j u hj => by
        rw [flatR_one] at hj
        rw [Addr.add_mid, cell_of_row _ _ _ _ _ _ (heap_alloc_last W _ _ rfl), Nat.zero_add]
        simpa [recA] using hj
      obtain ⟨Z, by_, hi0, hzs, hby⟩ := tyE.hi
      obtain ⟨i0, hi, hz0, hz1, hz2⟩ := info_parts hi0
      have hW1 : Below W.heap.size W (W.alloc (.cells (recA encE e1) 40)) := (Below.refl _ _).alloc (Nat.le_refl _) _
      have ho1 : (W.alloc (.cells (recA encE e1) 40)).ownsRow W4.heap.size 40 22 v pre.length (flatR encE (pre.map (·.1))) := ho.kept (World.grownBy_alloc W _ none) (by cases v.ownBlock <;> simp)
      have hv1 := hv.alloc (.cells (recA encE e1) 40)
      have HI2 := Lib.hid (And.intro hb0 (And.intro hb1 (And.intro hall (And.intro hbel (And.intro hsz (And.intro hv1 hlen))))))
      have HO := Lib.hid ho1
      clear hv ho hb0 hb1 hall hbel hsz hv1 ho1 hlen
      have hzs' : (Value.agg Z).cells.size = 22 := hzs
      have hnews1 : ∀ u ∈ flatR encE [e1], u.oneCell' = true := tyE.flat_oneCell _
      have hnl : (flatR encE [e1]).length = 1 * 22 := by rw [tyE.flat_len]; rfl
      have hq1 : pre.length + 1 ≤ maxLen := by have := HI2.out.2.2.2.2.2.2; simp at this; unfold maxLen; omega
      have hq2 : (pre.length + 1) * by_ ≤ 140737488355328 := by
        have := HI2.out.2.2.2.2.2.2
        simp at this
        exact Nat.le_trans (Nat.mul_le_mul (show pre.length + 1 ≤ 100000 by omega) hby) (by decide)
      have hq3 : W4.heap.size ≤ (W.alloc (.cells (recA encE e1) 40)).heap.size := Nat.le_trans HI2.out.2.2.2.2.1 (by simp)
      gi_wp2_with (first | (refine wpListIn_load_at rfl _ _ rfl _ _ rfl L4 ?_) | (refine wpListIn_load_at rfl _ _ rfl _ _ rfl L5 ?_) | (refine wpListIn_buildSlice_at rfl _ _ _ rfl [(0, .agg (recA encE e1))] _ rfl S1 ?_) | (refine wpListIn_append_own_at _ rfl (.tmp 13) (.tmp 15) 23 rfl W4.heap.size 40 i0 (.agg Z) 22 by_ Try.underlying23 hi hz0 hz1 hz2 hzs' (by decide) v pre.length _ rfl HO.out ⟨W.heap.size, 0, none⟩ 1 1 (flatR encE [e1]) rfl hnl hnews hnews1 hq1 hq2 hq3 ?_; intro v' w1 hown' hgrow hnil hat; obtain ⟨g', cap', rfl⟩ := ownsRow_succ hown'; have HW1 := Lib.hid (And.intro hown' (And.intro hgrow hW1)); clear hown' hgrow hnil hat hW1 L4 L5 S1 hnews) | (refine wpListIn_store_oneTo rfl 23 _ _ rfl (w.heap.size + 1 + 1) (.slice (some ⟨g', 0, none⟩) (pre.length + 1) cap') rfl rfl rfl 23 v (HI2.out.2.2.2.2.2.1.kept HW1.out.2.1 (fun e => by have := (HO.out.lt _ e.symm).1; have := H5.out.2.2.2.2; omega)) (by kernel_rfl) ?_))
      have hg0 := HW1.out.2.1
      have hsz := HI2.out.2.2.2.2.1
      have h35 := H5.out.2.2.2.2
      have hrow : ∀ g, v.ownBlock = some g → W4.heap.size ≤ g ∧ ∃ o : Obj, (W.alloc (.cells (recA encE e1) 40)).heap[g]? = some o ∧ o.isCells = true := fun g hg => by
        refine ⟨(HO.out.lt _ hg).1, ?_⟩
        rcases HO.out.2 with ⟨rfl, _⟩ | ⟨g2, c2, cur, rfl, _, hgb, _⟩
        · simp [Value.ownBlock] at hg
        · simp only [Value.ownBlock, Option.some.injEq] at hg; subst hg; exact ⟨_, hgb, rfl⟩
      obtain ⟨Fw, hF⟩ : ∃ Fw, Fw = w1.setRow (w.heap.size + 1 + 1) #[.slice (some ⟨g', 0, none⟩) (pre.length + 1) cap'] := ⟨_, rfl⟩
      have hb1x : Boxed w1 (w.heap.size + 1 + 1) 23 v := HI2.out.2.2.2.2.2.1.kept hg0 (fun e => by have := (hrow _ e.symm).1; omega)
      have hsame : ∀ k, k < W.heap.size → k ≠ w.heap.size + 1 + 1 → (∀ g, v.ownBlock = some g → k ≠ g) → Fw.heap[k]? = W.heap[k]? := fun k hk h1 h2 => by
        rw [hF, setRow_other _ _ _ _ h1, hg0.block k (by simp; omega) (fun e => h2 k e.symm rfl)]
        exact (Below.refl _ W).alloc (Nat.le_refl _) (.cells (recA encE e1) 40) |>.block k hk
      have hFs : W.heap.size ≤ Fw.heap.size := by
        rw [hF, setRow_size]
        exact Nat.le_trans (by simp) hg0.size
      have hbelF : Below w.heap.size W Fw := by
        rw [hF]
        have h0 : Below w.heap.size W w1 := ((Below.refl w.heap.size W).alloc (Nat.le_trans HI2.out.2.2.2.1.size (Nat.le_refl _)) (.cells (recA encE e1) 40)).grown hg0 (by have := HI2.out.2.2.2.1.size; simp; omega) (fun g hg => by have := (hrow g hg).1; omega)
        exact below_setRow h0 (by omega) _
      rw [← hF]
      refine ⟨⟨hFs, fun j o hj ho => ?_⟩, ⟨hbelF, hsame _ (by omega) (by omega) (fun g hg => by have := (hrow g hg).1; omega)⟩, ⟨⟨_, by rw [hF]; exact setRow_heap _ _ _ _ _ _ hb1x, ?_⟩, ?_, ?_, ?_, HI2.out.2.2.2.1.trans hbelF, Nat.le_trans hsz hFs⟩⟩
      · have hjs : j < W.heap.size := (Array.getElem?_eq_some_iff.1 hj).1
        rw [hsame j hjs ?_ ?_]
        · exact hj
        · rintro rfl
          have h := HI2.out.2.2.2.2.2.1
          unfold Boxed at h
          rw [((Below.refl _ W).alloc (Nat.le_refl _) (.cells (recA encE e1) 40)).block _ hjs, hj] at h
          cases h; cases ho
        · rintro g hg rfl
          obtain ⟨_, o2, ho2, ho3⟩ := hrow _ hg
          rw [((Below.refl _ W).alloc (Nat.le_refl _) (.cells (recA encE e1) 40)).block _ hjs, hj] at ho2
          cases ho2; rw [ho] at ho3; cases ho3
      · rw [hF, List.length_append, List.map_append, flatR_append]
        refine HW1.out.1.kept (row := some (w.heap.size + 1 + 1)) ⟨rfl, rfl, rfl, by rw [setRow_size]; exact Nat.le_refl _, fun k _ hne => setRow_other _ _ _ _ (fun e => hne (by rw [e]))⟩ (.inr fun e => ?_)
        have := (HW1.out.1.lt _ e).1
        omega
      · unfold Boxed
        rw [hsame _ (by omega) (by omega) (fun g hg => by have := (hrow g hg).1; omega)]
        exact HI2.out.1
      · unfold Boxed
        rw [hsame _ (by omega) (by omega) (fun g hg => by have := (hrow g hg).1; omega)]
        exact HI2.out.2.1
      · intro x hx
        rcases List.mem_append.1 hx with h | h
        · exact HI2.out.2.2.1 x h
        · simp at h; rw [h]
  case done =>
    rintro D xs W hD rfl hi hdef
    obtain ⟨⟨v, hv, ho⟩, hb0, hb1, hall, hbel, hsz⟩ := hi
    have L4 : (Instr.loadAt 23 (.pointer (some ⟨w.heap.size + 1 + 1, 0, none⟩))).run Try.prog W = .ok v W := by
      clear ho hall HSQ4 h3s h4s hbx
      have c := hv.cell
      go_simp
    have hread := entL_true b.length b hall
    have hnames := entL_names b.length b
    have hlen := entL_len b.length b
    obtain ⟨l, hl⟩ : ∃ l, l = (entL b.length b).map (·.1) := ⟨_, rfl⟩
    have hll : (entL b.length b).length = l.length := by rw [hl, List.length_map]
    rw [← hl] at hread ho
    rw [hll] at ho hlen
    have hown : OwnR encE 22 40 w W v l := ⟨⟨ho.1, ho.2.imp id fun ⟨g, c, cur, h1, h2, h3⟩ => ⟨g, c, cur, h1, by have := H5.out.2.2.2.2; omega, h3⟩⟩, hbel⟩
    have HO2 := Lib.hid ho
    obtain ⟨ad, c, rfl, hrs, -⟩ := hown.rs tyE
    have CR := right_any hrs (by omega) (fun p hp => by
      rw [hl] at hp
      obtain ⟨x, hx, rfl⟩ := List.mem_map.1 hp
      have := hnames x hx
      omega)
    have HD := Lib.hid (And.intro hb0 (And.intro hb1 (And.intro hv (And.intro hbel (And.intro hsz (And.intro hdef (And.intro hread (And.intro hown hD))))))))
    clear hb0 hb1 hv hbel hsz hdef hread hown hrs ho hnames hlen hall hl hll hD h3s h4s hbx HSQ4
    go_wp2_with (first | (refine wpList_load_at rfl _ _ rfl _ _ rfl L4 ?_))
    refine CR.mono ?_
    rintro e W5 ⟨r, rfl, hr, hw5⟩
    have H6 := Lib.hid (And.intro hr hw5)
    clear CR L4 hr hw5
    cases r
    · have q0 := HD.out.1.kept (row := none) ⟨H6.out.2.os, H6.out.2.tape, H6.out.2.output, H6.out.2.size, fun k hk _ => H6.out.2.block k hk⟩ (by simp)
      have q1 : Boxed (W5.setRow w.heap.size #[.slice none 0 0]) (w.heap.size + 1) 27 (.int .i64 0) := by
        unfold Boxed
        rw [setRow_other _ _ _ _ (by omega)]
        exact HD.out.2.1.kept (row := none) ⟨H6.out.2.os, H6.out.2.tape, H6.out.2.output, H6.out.2.size, fun k hk _ => H6.out.2.block k hk⟩ (by simp)
      have HQ := Lib.hid (And.intro q0 q1)
      clear q0 q1
      go_wp2_with (first | (refine wpList_store_oneTo rfl 23 _ _ rfl rfl w.heap.size (.slice none 0 0) rfl rfl rfl 23 _ HQ.out.1 (by kernel_rfl) ?_) | (refine wpList_store_oneTo rfl 27 _ _ rfl rfl (w.heap.size + 1) (.int .i64 4) rfl rfl rfl 27 _ HQ.out.2 (by kernel_rfl) ?_))
      rw [← HQ0.out]
      have hD4 := HD.out.2.2.2.2.2.2.2.2
      have h35 := H5.out.2.2.2.2
      have hdf : ((W5.setRow w.heap.size #[.slice none 0 0]).setRow (w.heap.size + 1) #[.int .i64 4]).heap[D]? = some (.deferred (some [])) := by
        rw [setRow_other _ _ _ _ (by omega), setRow_other _ _ _ _ (by omega)]
        exact blockR_below HD.out.2.2.2.2.2.1 H6.out.2
      refine parse_end (v := .slice none 0 0) _ rfl rfl (D := D) hdf ?_ (setRow_heap _ _ _ _ _ _ HQ.out.2) ?_
      · unfold Boxed
        rw [setRow_other _ _ _ _ (by omega)]
        exact setRow_heap _ _ _ _ _ _ HQ.out.1
      · refine .inr ⟨.inr ⟨l, HD.out.2.2.2.2.2.2.1, fun h => by have := H6.out.1.2 h; cases this⟩, rfl, ?_⟩
        refine Below.trans (below_setRow (below_setRow (HD.out.2.2.2.1.trans (H6.out.2.mono HD.out.2.2.2.1.size)) (Nat.le_refl _) _) (Nat.le_succ _) _) (belowK_b (w := w) (Nat.le_refl _) _ D _ _ (by omega) hdf rfl rfl)
    · have q0 := HD.out.1.kept (row := none) ⟨H6.out.2.os, H6.out.2.tape, H6.out.2.output, H6.out.2.size, fun k hk _ => H6.out.2.block k hk⟩ (by simp)
      have q1 : Boxed (W5.setRow w.heap.size #[.slice ad l.length c]) (w.heap.size + 1) 27 (.int .i64 0) := by
        unfold Boxed
        rw [setRow_other _ _ _ _ (by omega)]
        exact HD.out.2.1.kept (row := none) ⟨H6.out.2.os, H6.out.2.tape, H6.out.2.output, H6.out.2.size, fun k hk _ => H6.out.2.block k hk⟩ (by simp)
      have q2 := HD.out.2.2.1.kept (row := none) ⟨H6.out.2.os, H6.out.2.tape, H6.out.2.output, H6.out.2.size, fun k hk _ => H6.out.2.block k hk⟩ (by simp)
      have L5 : (Instr.loadAt 23 (.pointer (some ⟨w.heap.size + 1 + 1, 0, none⟩))).run Try.prog W5 = .ok (.slice ad l.length c) W5 := by
        have c := q2.cell
        go_simp
      have HQ := Lib.hid (And.intro q0 q1)
      clear q0 q1 q2
      go_wp2_with (first | (refine wpList_load_at rfl _ _ rfl _ _ rfl L5 ?_) | (refine wpList_store_oneTo rfl 23 _ _ rfl rfl w.heap.size (.slice ad l.length c) rfl rfl rfl 23 _ HQ.out.1 (by kernel_rfl) ?_) | (refine wpList_store_oneTo rfl 27 _ _ rfl rfl (w.heap.size + 1) (.int .i64 0) rfl rfl rfl 27 _ HQ.out.2 (by kernel_rfl) ?_))
      rw [← HQ0.out]
      have hD4 := HD.out.2.2.2.2.2.2.2.2
      have h35 := H5.out.2.2.2.2
      have hdf : ((W5.setRow w.heap.size #[.slice ad l.length c]).setRow (w.heap.size + 1) #[.int .i64 0]).heap[D]? = some (.deferred (some [])) := by
        rw [setRow_other _ _ _ _ (by omega), setRow_other _ _ _ _ (by omega)]
        exact blockR_below HD.out.2.2.2.2.2.1 H6.out.2
      refine parse_end (v := .slice ad l.length c) _ rfl rfl (D := D) hdf ?_ (setRow_heap _ _ _ _ _ _ HQ.out.2) ?_
      · unfold Boxed
        rw [setRow_other _ _ _ _ (by omega)]
        exact setRow_heap _ _ _ _ _ _ HQ.out.1
      · refine .inl ⟨l, HD.out.2.2.2.2.2.2.1, H6.out.1.1 trivial, _, rfl, ⟨?_, ?_⟩⟩
        · refine ownsRow_putObj ?_ _ hdf rfl
          have k1 := HO2.out.kept (row := none) ⟨H6.out.2.os, H6.out.2.tape, H6.out.2.output, H6.out.2.size, fun k hk _ => H6.out.2.block k hk⟩ (by cases ad <;> simp [Value.ownBlock])
          have ne : ∀ k, k < W4.heap.size → ∀ (W : World) , W.ownsRow W4.heap.size 40 22 (.slice ad l.length c) l.length (flatR encE l) → ∀ u : Value, (W.setRow k #[u]).ownsRow W4.heap.size 40 22 (.slice ad l.length c) l.length (flatR encE l) := fun k hk W h u =>
            h.kept (row := some k) ⟨rfl, rfl, rfl, by rw [setRow_size]; exact Nat.le_refl _, fun j _ hne => setRow_other _ _ _ _ (fun e => hne (by rw [e]))⟩ (.inr fun e => by have := (h.lt _ e).1; omega)
          have k2 := ne (w.heap.size + 1) (by omega) _ (ne w.heap.size (by omega) _ k1 (.slice ad l.length c)) (.int .i64 0)
          exact ⟨k2.1, k2.2.imp id fun ⟨g, c, cur, h1, h2, h3⟩ => ⟨g, c, cur, h1, by omega, h3⟩⟩
        · exact Below.trans (below_setRow (below_setRow (HD.out.2.2.2.1.trans (H6.out.2.mono HD.out.2.2.2.1.size)) (Nat.le_refl _) _) (Nat.le_succ _) _) (belowK_b (w := w) (Nat.le_refl _) _ D _ _ (by omega) hdf rfl rfl)
  case stop =>
    rintro D c pre W hD hsp ⟨rfl, hex, hb0, hb1, hbel, hsz⟩ hdef
    have HS := Lib.hid (And.intro hex (And.intro hb0 (And.intro hb1 (And.intro hbel (And.intro hsz (And.intro hdef (And.intro hsp hD)))))))
    clear hex hb0 hb1 hbel hsz hdef hsp hD h3s h4s hbx HSQ4
    gi_wp2
    rw [← HQ0.out]
    refine parse_end (v := .slice none 0 0) _ rfl rfl (D := D) HS.out.2.2.2.2.2.1 HS.out.2.1 HS.out.2.2.1 ?_
    obtain ⟨x, hx, hf⟩ := HS.out.1
    have hD4 := HS.out.2.2.2.2.2.2.2
    have h35 := H5.out.2.2.2.2
    refine .inr ⟨.inl (entL_false _ _ ⟨x, HS.out.2.2.2.2.2.2.1.subset hx, hf⟩), rfl, ?_⟩
    exact Below.trans HS.out.2.2.2.1 (belowK_b (w := w) (Nat.le_refl _) _ D _ _ (by omega) HS.out.2.2.2.2.2.1 rfl rfl)
end Go.Proofs.Ytbllpjphlanchaa
