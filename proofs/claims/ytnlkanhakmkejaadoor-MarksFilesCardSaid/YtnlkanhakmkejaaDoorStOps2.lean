
/-
  (*Store).Remove, Rename: the walks.
-/
import Derived.Test.YtnlkanhakmkejaaDoorStOps
namespace Go.Proofs.YtnlkanhakmkejaaDoor
open Go.RowKit Go.Mix Go.WideMaps Go.Maps

/-- A file's place is taken out of the map. -/
theorem StoreIn.delMap {own : Owns} {w : World} {p M : Nat} {G : Bytes → Nat} {S : StP} (h : StoreIn own w p M G S) {x : Bytes} (hx : x.length ≤ 1000000) (ty : TypeId) :
    ∃ w', (Builtin.delete_ #[42, 9] ty #[.map (some M), .string (strOf x)]).run Tryd.prog w = .ok (.tuple #[]) w' ∧ StoreIn own w' p M G { S with files := delF S.files x } ∧ Turn (fun o => o = some .root) own own w w' := by
  obtain ⟨w', hrun, hm, hg, hsz⟩ := h.map.del x hx ty
  have hk : ∀ y, (getF (delF S.files x) y).isSome = true → (getF S.files y).isSome = true := fun y hy => by
    rw [getF_del] at hy
    split at hy
    · cases hy
    · exact hy
  obtain ⟨h1, h2⟩ := h.mapped hm hg hsz (fun y f' hy => by
    rw [getF_del] at hy
    split at hy
    · cases hy
    · exact h.file y f' hy) (fun y z hy hz => h.inj y z (hk y hy) (hk z hz))
  exact ⟨w', hrun, h1, h2⟩
/-- 'delete' at the operation, its run known. -/
theorem wpList_delete_run {P : Program} {w w' : World} {ops : Array Oper} {rest : List Oper} {o : Oper} {a : Act} {Q : Exit → Act → World → Prop} (hg : o.guard = none) (m x : Operand) (t k : TypeId) (hop : o.op = Op.call { callee := Callee.builtin Builtin.delete, args := #[m, x], argTypes := #[t, k] })
    (vm vx : Value) (hm : a.eval m = vm) (hx : a.eval x = vx) (hrun : (Builtin.delete_ #[t, k] o.type #[vm, vx]).run P w = .ok (.tuple #[]) w') (h : wpList P ops Q rest (a.put o.dst (.tuple #[])) w') : wpList P ops Q (o :: rest) a w := by
  refine wpList_plain hg fun K' hK' => ?_
  unfold Oper.wp
  simp [execOp, hop, resolve, invoke, builtin, hm, hx, hrun, Result.andThen]
  exact hK' _ _ h
/-- 'm[k] = v' at the operation, its run known. -/
theorem wpList_update_run {P : Program} {w w' : World} {ops : Array Oper} {rest : List Oper} {o : Oper} {a : Act} {Q : Exit → Act → World → Prop} (hg : o.guard = none) (m x v : Operand) (t : TypeId) (hop : o.op = Op.mapUpdate t m x v)
    (vm vx vv : Value) (hm : a.eval m = vm) (hx : a.eval x = vx) (hv : a.eval v = vv) (hrun : (Instr.mapUpdate t vm vx vv).run P w = .ok () w') (h : wpList P ops Q rest (a.put o.dst undef) w') : wpList P ops Q (o :: rest) a w := by
  refine wpList_plain hg fun K' hK' => ?_
  unfold Oper.wp
  simp [execOp, hop, hm, hx, hv, hrun, Result.andThen]
  exact hK' _ _ h

set_option maxRecDepth 100000 in
set_option maxHeartbeats 8000000 in
theorem rename_any {own : Owns} {w : World} {p M Z : Nat} {G : Bytes → Nat} {S : StP} (h : StoreIn own w p M G S) (ok : OkS Z S) (hZ : Z ≤ 100000000) (src dst : Bytes) (hp : src.length ≤ 100000) (hp2 : dst.length ≤ 100000) :
    Calls Tryd.prog 19 #[ptr p, .string (strOf src), .string (strOf dst)] w fun e w' => Left own w p (renameS S src dst) e w' := by
  have C1 := off_any h
  obtain ⟨-, -, c2, -⟩ := h.cells
  have LK := h.map.look_ok src (by omega)
  have HH := Lib.hid (And.intro h ok)
  have HZ := Lib.hid (And.intro hZ (And.intro hp hp2))
  clear h ok hZ hp hp2
  obtain ⟨D, hD⟩ : ∃ D, D = S.down := ⟨_, rfl⟩
  rw [← hD] at C1
  have HD := Lib.hid hD
  clear hD
  go_enter Tryd.func19, Tryd.ntmps19
  go_wp2_with fail
  refine C1.mono ?_
  clear C1
  rintro e w' ⟨rfl, rfl⟩
  cases D
  case true =>
    go_wp2_with fail
    go_ret
    unfold renameS
    rw [if_pos HD.out.symm]
    exact Left.same HH.out.1 (Below.refl _ _) _
  have hdn : ¬ S.down = true := by rw [← HD.out]; simp
  have HDN := Lib.hid hdn
  clear hdn
  cases hx : getF S.files src with
  | none =>
    rw [hx, placeV_none hx] at LK
    have HX := Lib.hid hx
    clear hx
    go_wp2_with fail
    go_ret
    unfold renameS
    rw [if_neg HDN.out, HX.out]
    exact Left.same HH.out.1 (Below.refl _ _) _
  | some f =>
    rw [hx, placeV_some hx] at LK
    have HX := Lib.hid hx
    clear hx
    have C2 := right_any dst HZ.out.2.2 w
    obtain ⟨R, hR⟩ : ∃ R, R = rightF dst := ⟨_, rfl⟩
    rw [← hR] at C2
    have HR := Lib.hid hR
    clear hR
    go_wp2_with fail
    refine C2.mono ?_
    clear C2
    rintro e w1 ⟨rfl, hw1⟩
    have H1 := Lib.hid hw1
    clear hw1
    cases R
    case false =>
      go_wp2_with fail
      go_ret
      unfold renameS
      rw [if_neg HDN.out, HX.out]
      simp only []
      rw [if_pos (by rw [← HR.out]; rfl)]
      exact Left.same HH.out.1 H1.out _
    have C3 := free_any (HH.out.1.below H1.out) (fun q hq => (HH.out.2.ok q hq).2.1) dst src HZ.out.2.2
    obtain ⟨F, hF⟩ : ∃ F, F = freeF S.files dst src := ⟨_, rfl⟩
    rw [← hF] at C3
    have HF := Lib.hid hF
    clear hF
    go_wp2_with fail
    refine C3.mono ?_
    clear C3
    rintro e w2 ⟨rfl, hw2⟩
    have H2 := Lib.hid (H1.out.trans (hw2.mono H1.out.size))
    clear hw2
    cases F
    case false =>
      go_wp2_with fail
      go_ret
      unfold renameS
      rw [if_neg HDN.out, HX.out]
      simp only []
      rw [if_neg (by rw [← HR.out]; simp), if_pos (by rw [← HF.out]; rfl)]
      exact Left.same HH.out.1 H2.out _
    have hs2 := HH.out.1.below H2.out
    obtain ⟨-, c1, c2, -⟩ := hs2.cells
    have g1 := hs2.free 1
    have LK2 := hs2.map.look_ok dst (by have := HZ.out.2.2; omega)
    have E := strOf_eq dst src
    have E' : ((strOf dst).toList == (strOf src).toList) = decide (dst = src) := by rw [strOf_list src]; exact E
    obtain ⟨B, hB⟩ : ∃ B, B = decide (dst = src) := ⟨_, rfl⟩
    rw [← hB] at E'
    have HB := Lib.hid hB
    have hub := HH.out.2.usedB HZ.out.1
    obtain ⟨us, hus⟩ : ∃ us, us = S.used := ⟨_, rfl⟩
    rw [← hus] at c1 hub
    have HS2 := Lib.hid (And.intro hs2 hus)
    obtain ⟨K, hK⟩ : ∃ K, K = (getF S.files dst).isSome := ⟨_, rfl⟩
    obtain ⟨V, hV⟩ : ∃ V, V = placeV G S.files dst := ⟨_, rfl⟩
    rw [← hK, ← hV] at LK2
    have HK := Lib.hid (And.intro hK hV)
    clear hs2 hus E hB LK hK hV
    go_upto_region 11 with (fail)
    go_cut [49] from 44 to 49 (fun s49 wx => s49 = .bool (K && !B) ∧ w2 = wx)
    case first =>
      cases K
      · go_wp2_with fail
        go_meet
        exact ⟨rfl, rfl⟩
      · cases B
        · go_wp2_with fail
          go_meet
          exact ⟨rfl, rfl⟩
        · go_wp2_with fail
          go_meet
          exact ⟨rfl, rfl⟩
    case rest =>
      obtain ⟨rfl, rfl⟩ := hcut
      obtain ⟨T, hT⟩ : ∃ T, T = (K && !B) := ⟨_, rfl⟩
      rw [← hT]
      have HT := Lib.hid hT
      clear hT E' LK2 c2
      obtain ⟨us2, hus2⟩ : ∃ us2, us2 = us - (if dst = src then 0 else ((((getF S.files dst).getD file0).now.length : Nat) : Int)) := ⟨_, rfl⟩
      have HU2 := Lib.hid hus2
      clear hus2
      go_upto_if 49 with (fail)
      go_cut [] (fun wx => StoreIn own wx p M G { S with used := us2 } ∧ Turn Any own own w wx)
      case first =>
        cases T
        · have e2 : us2 = S.used := by
            rw [HU2.out, HS2.out.2]
            have h1 := HT.out
            rw [HK.out.1, HB.out] at h1
            by_cases e : dst = src
            · rw [if_pos e]; omega
            · rw [if_neg e]
              rw [decide_eq_false e] at h1
              cases hg : getF S.files dst with
              | none => simp [file0]
              | some g => rw [hg] at h1; simp at h1
          have E2 := Lib.hid e2
          clear e2
          go_wp2_with fail
          go_meet
          rw [E2.out]
          exact ⟨HS2.out.1, Turn.below H2.out HH.out.1.lt⟩
        · have h1 := HT.out
          rw [HK.out.1, HB.out] at h1
          have hne : ¬ dst = src := fun e => by rw [decide_eq_true e] at h1; simp at h1
          obtain ⟨g, hg⟩ : ∃ g, getF S.files dst = some g := by
            cases hg : getF S.files dst with
            | none => rw [hg] at h1; simp at h1
            | some g => exact ⟨g, rfl⟩
          have hv := HK.out.2
          rw [placeV_some hg] at hv
          subst hv
          have hgo := HH.out.2.at hg
          have hZ := HZ.out.1
          obtain ⟨v1, v2, v3, L, p1, ⟨a1, ca1, rfl, s1, -⟩, -⟩ := (HS2.out.1.file dst g hg).ex
          have k0 := cell_blk p1 0 _ rfl
          obtain ⟨nn, hnn⟩ : ∃ nn, nn = g.now.length := ⟨_, rfl⟩
          rw [← hnn] at k0
          have hnnb : nn ≤ 100000000 := by omega
          have e2 : us2 = us - (nn : Int) := by rw [HU2.out, if_neg hne, hg, hnn]; rfl
          have E2 := Lib.hid e2
          have LU : ∀ x : Later w2, x.1.cell? ⟨p, 1, none⟩ = some (.int .i64 us) := fun x => load_later c1 x
          have LN : ∀ x : Later w2, x.1.cell? ⟨G dst, 0, none⟩ = some (.slice a1 nn ca1) := fun x => load_later k0 x
          have hw2 : IntKind.i64.wrap (us - (nn : Int)) = us - (nn : Int) := IntWalk.i64_in _ (by omega)
          clear c1 k0 h1 hne hg hgo hnn p1 s1 hZ e2
          go_upto_region 12 with (fail)
          refine wp_region_mg [(0, 0), (1, 0), (2, 0), (3, 0), (4, 0), (5, 0), (6, 0), (7, 0), (8, 0), (9, 0), (10, 0), (11, 0), (12, 2)] (by kernel_rfl) (by kernel_rfl) ?_
          iterate 12 (refine mg_calm rfl (fun K hK => ?_); go_simp; (refine hK _ ?_; clear hK K))
          refine mg_sync rfl rfl (fun w3 hw3' K hK => ?_)
          have hs3 := HS2.out.1.below hw3'
          have q1 := hs3.cells.2.1
          have f1 := hs3.free 1
          have HW3 := Lib.hid hw3'
          clear LU LN g1 hw3'
          go_wp2_with fail
          refine mg_nil fun w4 hw4 => ?_
          obtain ⟨hs4, ht4⟩ := hs3.setRoot (k := 1) (v := .int .i64 (us - (nn : Int))) (S' := { S with used := us - (nn : Int) }) rfl rfl
          have T4 := Lib.hid (And.intro (hs4.below hw4) ((((Turn.below (T := Any) H2.out HH.out.1.lt).trans (Turn.below HW3.out HS2.out.1.lt)).trans (turn_root ht4)).trans (Turn.below hw4 hs4.lt)))
          clear hs3 q1 f1 hs4 ht4 hw4 hw2
          go_wp2_with fail
          go_meet
          rw [E2.out]
          exact T4.out
      case rest =>
        obtain ⟨hs3, ht3⟩ := hcut
        obtain ⟨-, -, c2, -⟩ := hs3.cells
        obtain ⟨w4, hrun, hs4, ht4⟩ := hs3.delMap (x := src) (by have := HZ.out.2.1; omega) 0
        have hfl : (delF S.files src).length ≤ 1000000 := by have := HH.out.2.few; have := length_del_le S.files src; omega
        have hf4 : FileAt own w4 (G src) f := ((hs3.file src f HX.out).turn ht4 hs3.lt (by simp) (by simp))
        obtain ⟨w5, hrun5, hs5, ht5⟩ := hs4.putMap (sorted_del HH.out.2.sorted src) hfl (x := dst) (by have := HZ.out.2.2; omega) hf4 (fun y _ hy e => by
          change (getF (delF S.files src) y).isSome = true at hy
          rw [getF_del] at hy
          split at hy
          · cases hy
          · rename_i hne
            exact hne (hs3.inj y src hy (by show (getF S.files src).isSome = true; rw [HX.out]; rfl) e))
        have hrun : ∀ ty, (Builtin.delete_ #[42, 9] ty #[.map (some M), .string (strOf src)]).run Tryd.prog wc = .ok (.tuple #[]) w4 := fun ty => hrun
        have q2 := hs4.cells.2.2.1
        have CE := done_any hs5 (fun _ => HH.out.2.leftB)
        have H5 := Lib.hid ((ht3.trans (turn_root ht4)).trans (turn_root ht5))
        clear hs3 ht3 hs4 ht4 hfl hf4 hs5 ht5 c1 g1
        go_wp2_with (first | (refine wpList_delete_run rfl _ _ _ _ rfl _ _ rfl rfl (hrun _) ?_) | (refine wpList_update_run rfl _ _ _ _ rfl _ _ _ rfl rfl rfl hrun5 ?_))
        refine CE.mono ?_
        clear CE
        rintro e w6 ⟨rfl, hs6, ht6⟩
        have H6 := Lib.hid (And.intro hs6 (H5.out.trans (turn_root ht6)))
        clear hs6 ht6
        go_wp2_with fail
        go_ret
        unfold renameS
        rw [if_neg HDN.out, HX.out]
        simp only []
        rw [if_neg (by rw [← HR.out]; simp), if_neg (by rw [← HF.out]; simp)]
        refine ⟨rfl, _, ⟨M, updG G dst (G src), ?_⟩, H6.out.2⟩
        show StoreIn _ _ _ _ _ (doneS { S with used := S.used - (if dst = src then 0 else ((((getF S.files dst).getD file0).now.length : Nat) : Int)), files := putF (delF S.files src) dst f })
        rw [← HS2.out.2, ← HU2.out]
        exact H6.out.1
end Go.Proofs.YtnlkanhakmkejaaDoor