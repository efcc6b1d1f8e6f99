/-
  Add: the walk.
-/
import Derived.Test.YtnlkanhakmkejaaAddFns
namespace Go.Proofs.Ytnlkanhakmkejaa
open Go.RowKit Go.Mix Go.WideMaps Go.Proofs

def addL (l : List Pr) (q : Pr) : List Pr := if l.any (fun y => decide (q = y)) = true then l else if l.any (clashes q) = true then [] else l ++ [q]
def addE (l : List Pr) (q : Pr) : Int := if l.any (fun y => decide (q = y)) = true then 0 else if l.any (clashes q) = true then 9 else 0

theorem OwnP.rebase {e : TypeId} {w0 w1 w : World} {v : Value} {l : List Pr} (h : OwnP e w1 w v l) (b : Below w0.heap.size w0 w1) : OwnP e w0 w v l := by
  refine ⟨⟨h.own.1, h.own.2.imp id ?_⟩, b.trans (h.frame.mono b.size)⟩
  rintro ⟨g, cap, cur, e1, hg, r⟩
  exact ⟨g, cap, cur, e1, Nat.le_trans b.size hg, r⟩

set_option maxRecDepth 100000 in
set_option maxHeartbeats 2000000 in
theorem add_any {w : World} {a : Option Addr} {cap : Nat} {l : List Pr} (h : PsAt w a cap l) (ha : plainA a) (hl : l.length ≤ 1000000) (q : Pr) :
    Calls Try.prog 9 #[.slice a l.length cap, .agg (encA q)] w fun e w' => ∃ v, e = .returned (.tuple #[v, .int .i64 (addE l q)]) ∧ OwnP 32 w w' v (addL l q) := by
  have hA : Below w.heap.size w (w.alloc (.cells (encA q) 32)) := (Below.refl _ _).alloc (Nat.le_refl _) _
  have hr := range_box w (enc q) 32
  change World.rangeAt (w.alloc (.cells (encA q) 32)) _ _ _ at hr
  have L := tyG.load q _ _ _ hr
  have C1 := contains_any (h.below hA) q
  have HH := Lib.hid h
  have HA := Lib.hid hA
  have HR := Lib.hid hr
  have HP := Lib.hid ha
  have HL := Lib.hid hl
  obtain ⟨b1, hb1⟩ : ∃ b, b = l.any fun y => decide (q = y) := ⟨_, rfl⟩
  have HB1 := Lib.hid hb1
  rw [← hb1] at C1
  obtain ⟨n, hn⟩ : ∃ n, n = l.length := ⟨_, rfl⟩
  have HN := Lib.hid hn
  rw [← hn] at C1 ⊢
  clear h hA hr ha hl hb1 hn
  go_enter Try.func9, Try.ntmps9
  go_wp2_with (refine wpList_load_at rfl _ _ rfl _ _ rfl L ?_)
  refine C1.mono ?_
  rintro e w2 ⟨rfl, hb2⟩
  have hB := HA.out.trans (hb2.mono (by simp))
  have HB := Lib.hid hB
  have hr2 := range_below HR.out hb2
  have HR2 := Lib.hid hr2
  clear C1 L hr2 hB hb2
  cases b1
  · have C3 := containsFunc_any (HH.out.below HB.out) (clashes q) 22 #[.pointer (some ⟨w.heap.size, 0, none⟩)] enters22 (addTest_any HR2.out)
    obtain ⟨b2, hb2⟩ : ∃ b, b = l.any (clashes q) := ⟨_, rfl⟩
    have HB2 := Lib.hid hb2
    rw [← hb2, ← HN.out] at C3
    clear hb2
    go_wp2_with fail
    refine C3.mono ?_
    rintro e w3 ⟨rfl, hb3⟩
    have HB3 := Lib.hid (HB.out.trans (hb3.mono HB.out.size))
    have hr3 := range_below HR2.out hb3
    have HR3 := Lib.hid hr3
    clear C3 hr3 hb3
    cases b2
    · have L' : ∀ y : Later w3, (Instr.loadAt 32 (.pointer (some ⟨w.heap.size, 0, none⟩))).run Try.prog y.1 = .ok (.agg (encA q)) y.1 := fun y => tyG.load q _ _ _ (range_below HR3.out y.2)
      have C4 : ∀ W, Grow w3 W → _ := fun W (g : Below w3.heap.size w3 W) => clone_any ((HH.out.below HB3.out).below g) HP.out HL.out
      rw [← HN.out] at C4
      have hes : addL l q = l ++ [q] ∧ addE l q = 0 := by unfold addL addE; rw [← HB1.out, ← HB2.out]; simp
      have HES := Lib.hid hes
      have B1 := fun W : World => tyG.one q W
      clear hes
      go_upto_region 5 with (fail)
      refine wp_region_mix [(0, 0), (2, 0), (1, 7), (4, 2), (5, 0), (6, 0)] (by kernel_rfl) (by kernel_rfl) ?_
      iterate 1 (refine mix_calm rfl (fun K hK => ?_); go_simp; (refine hK _ ?_; clear hK K))
      refine mix_load rfl rfl _ _ rfl _ _ rfl L' ?_
      refine mix_fork rfl rfl (fun _ => rfl) (fun _ => rfl) (fun w4 hw4 K hK => ?_) (fun w4 hw4 K hK => ?_)
      · have C := C4 w4 hw4
        go_wp2_with fail
        refine C.mono ?_
        rintro e w5 ⟨v5, rfl, ho5⟩
        have ho6 := ho5.rebase (HB3.out.trans (hw4.mono HB3.out.size))
        go_wp2_with fail
        refine hK _ _ ho5.frame ?_
        clear C ho5 hK K C4
        intro w6 hw6 K2 hK2
        have ho7a := ho6.later hw6
        refine wpList_buildSlice_at rfl _ _ _ rfl [(0, .agg (encA q))] _ rfl (B1 w6) ?_
        refine hK2 _ _ ((Below.refl _ _).alloc (Nat.le_refl _) _) ?_
        clear hK2 K2
        have hp7 := PsAt.one w6 32 q
        have ho7 := ho7a.later ((Below.refl _ _).alloc (Nat.le_refl _) (.cells (encA q) 32))
        generalize w6.alloc (.cells (encA q) 32) = w7 at *
        clear L' B1 ho6 ho7a hw6 hw4
        refine mix_sync rfl rfl (fun w8 hw8 K hK => ?_)
        have ho8 := ho7.later hw8
        have hp8 := hp7.below hw8
        clear ho7 hp7 hw8
        refine wpList_append_p tyG rfl (.tmp 15) (.tmp 17) rfl _ l rfl ho8 _ 1 1 [q] rfl rfl hp8 (by have := HL.out; simp; omega) ?_
        intro v9 w9 ho9 hg9 hn9
        rw [← HES.out.1] at ho9
        clear hg9 hn9 ho8 hp8
        go_wp2_with fail
        iterate 2 (refine mix_calm rfl (fun K hK => ?_); go_simp; (refine hK _ ?_; clear hK K))
        refine mix_nil fun w10 hw10 => ?_
        have ho10 := ho9.later hw10
        clear ho9 hw10
        go_wp2_with fail
        go_ret2
        exact ⟨_, by rw [HES.out.2]; rfl, ho10⟩
      · refine wpList_buildSlice_at rfl _ _ _ rfl [(0, .agg (encA q))] _ rfl (B1 w4) ?_
        have g4 : Below w4.heap.size w4 (w4.alloc (.cells (encA q) 32)) := (Below.refl _ _).alloc (Nat.le_refl _) _
        refine hK _ _ g4 ?_
        clear hK K
        have hp5 := PsAt.one w4 32 q
        have hw5 := Grow.trans hw4 g4
        generalize w4.alloc (.cells (encA q) 32) = w5 at *
        intro w6 hw6 K2 hK2
        have hp6 := hp5.below hw6
        have hw36 := Grow.trans hw5 hw6
        have C := C4 w6 hw36
        clear hp5 hw5 hw6 C4
        go_wp2_with fail
        refine C.mono ?_
        rintro e w7 ⟨v7, rfl, ho6⟩
        have ho7 := ho6.rebase (HB3.out.trans (hw36.mono HB3.out.size))
        have hp7 := hp6.below ho6.frame
        go_wp2_with fail
        refine hK2 _ _ ho6.frame ?_
        clear hK2 K2 C ho6 hp6 hw36 L' B1 g4 hw4
        refine mix_sync rfl rfl (fun w8 hw8 K hK => ?_)
        have ho8 := ho7.later hw8
        have hp8 := hp7.below hw8
        clear ho7 hp7 hw8
        refine wpList_append_p tyG rfl (.tmp 15) (.tmp 17) rfl _ l rfl ho8 _ 1 1 [q] rfl rfl hp8 (by have := HL.out; simp; omega) ?_
        intro v9 w9 ho9 hg9 hn9
        rw [← HES.out.1] at ho9
        clear hg9 hn9 ho8 hp8
        go_wp2_with fail
        iterate 2 (refine mix_calm rfl (fun K hK => ?_); go_simp; (refine hK _ ?_; clear hK K))
        refine mix_nil fun w10 hw10 => ?_
        have ho10 := ho9.later hw10
        clear ho9 hw10
        go_wp2_with fail
        go_ret2
        exact ⟨_, by rw [HES.out.2]; rfl, ho10⟩
    · have hes : addL l q = [] ∧ addE l q = 9 := by unfold addL addE; rw [← HB1.out, ← HB2.out]; simp
      have HES := Lib.hid hes
      clear hes
      go_wp2_with fail
      go_ret2
      exact ⟨_, by rw [HES.out.2]; rfl, by rw [HES.out.1]; exact OwnP.nil HB3.out⟩
  · have hes : addL l q = l ∧ addE l q = 0 := by unfold addL addE; rw [← HB1.out]; simp
    have HES := Lib.hid hes
    have C := clone_any (HH.out.below HB.out) HP.out HL.out
    rw [← HN.out] at C
    clear hes
    go_wp2_with fail
    refine C.mono ?_
    rintro e w5 ⟨v5, rfl, ho5⟩
    have ho6 := ho5.rebase HB.out
    have HO6 := Lib.hid ho6
    clear C ho5 ho6
    go_wp2_with fail
    go_ret2
    exact ⟨_, by rw [HES.out.2]; rfl, by rw [HES.out.1]; exact HO6.out⟩
end Go.Proofs.Ytnlkanhakmkejaa
