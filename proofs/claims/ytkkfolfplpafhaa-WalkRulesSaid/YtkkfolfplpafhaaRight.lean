/-
  The law's right: the walk.
-/
import Derived.Test.YtkkfolfplpafhaaFew
namespace Go.Proofs.Ytkkfolfplpafhaa
open Go.RowKit Go.Mix

def modN (z : Int) (i : Nat) : Nat := (wrap64 ((IntKind.u64.wrap z).tmod i)).toNat
theorem u64_mod (n : Int) (K : Nat) (h0 : 0 < K) (h1 : K ≤ 9223372036854775807) : wrap64 ((IntKind.u64.wrap n).tmod K) = (modN n K : Nat) ∧ modN n K < K := by
  have hw : IntKind.u64.wrap n = n % 18446744073709551616 := IntKind.wrap_u64 n
  have h2 : 0 ≤ n % 18446744073709551616 := Int.emod_nonneg _ (by decide)
  obtain ⟨u, hu⟩ := Int.eq_ofNat_of_zero_le h2
  have e : wrap64 ((IntKind.u64.wrap n).tmod K) = ((u % K : Nat) : Int) := by
    rw [hw, hu, Int.tmod_eq_emod_of_nonneg (by omega), show ((u : Int) % (K : Int)) = ((u % K : Nat) : Int) from rfl, IntWalk.wrap64_in _ ⟨by omega, by have := Nat.mod_lt u h0; omega⟩]
  have hm := Nat.mod_lt u h0
  unfold modN
  rw [e]
  exact ⟨by omega, by omega⟩

/-- The parents of node i, ahead of it. -/
def rowN (g : List (List Int)) (i : Nat) : List Nat := if i = 0 then [] else ((fewG g).getD i []).map fun z => modN z i
def rightG (g : List (List Int)) : List (List Int) := (List.range (fewG g).length).map fun i => natsZ (rowN g i)
theorem rightG_len (g : List (List Int)) : (rightG g).length = (fewG g).length := by unfold rightG; rw [List.length_map, List.length_range]
theorem rightG_at {g : List (List Int)} {i : Nat} (hi : i < (fewG g).length) : (rightG g).getD i [] = natsZ (rowN g i) := by
  unfold rightG
  rw [List.getD_eq_getElem?_getD, List.getElem?_map, List.getElem?_range hi]; rfl
theorem rowN_len (g : List (List Int)) (i : Nat) : (rowN g i).length ≤ 6 := by
  unfold rowN
  split
  · simp
  · rw [List.length_map]; exact fewG_small g i
theorem rowN_lt (g : List (List Int)) (i : Nat) (hi : i < 1000) : ∀ x ∈ rowN g i, x < i := by
  intro x hx
  unfold rowN at hx
  split at hx
  · simp at hx
  · rename_i h0
    obtain ⟨z, -, rfl⟩ := List.mem_map.1 hx
    exact (u64_mod z i (by omega) (by omega)).2
theorem rightG_small (g : List (List Int)) (k : Nat) : ((rightG g).getD k []).length ≤ 6 := by
  rcases Nat.lt_or_ge k (fewG g).length with h | h
  · rw [rightG_at h, natsZ_len]; exact rowN_len g k
  · rw [List.getD_eq_getElem?_getD, List.getElem?_eq_none (by rw [rightG_len]; exact h)]; simp
theorem rightG_right (g : List (List Int)) : ∀ i, i < (rightG g).length → ∀ z ∈ (rightG g).getD i [], 0 ≤ z ∧ z < (i : Int) := by
  intro i hi z hz
  rw [rightG_len] at hi
  rw [rightG_at hi] at hz
  unfold natsZ at hz
  obtain ⟨x, hx, rfl⟩ := List.mem_map.1 hz
  have hl := fewG_len g
  have := rowN_lt g i (by omega) x hx
  omega

/-- Rows that are laid down so far. -/
structure LaidAt (w : World) (R : List (List Int)) (es : List (Option Addr × Nat)) (i : Nat) : Prop where
  el : es.length = i
  cells : ∀ j, j < i → Cells w (es.getD j (none, 0)).1 (zcells (R.getD j []))
  held : ∀ j, j < i → ∀ x, (es.getD j (none, 0)).1 = some x → ∃ C, w.heap[x.block]? = some (.cells C 3 (0, 0))
  caps : ∀ j, j < i → (R.getD j []).length ≤ (es.getD j (none, 0)).2
  nons : ∀ j, j < i → (es.getD j (none, 0)).1 = none → (es.getD j (none, 0)).2 = 0
theorem LaidAt.below {w w' : World} {R : List (List Int)} {es : List (Option Addr × Nat)} {i : Nat} (h : LaidAt w R es i) (g : Below w.heap.size w w') : LaidAt w' R es i :=
  ⟨h.el, fun j hj => (h.cells j hj).below g, fun j hj x hx => by obtain ⟨C, hC⟩ := h.held j hj x hx; exact ⟨C, block_below hC g⟩, h.caps, h.nons⟩
theorem elt_block (x : Addr) (k : Nat) : (elt (some x) k).block = x.block := by unfold elt Addr.add; simp only [Option.getD_some]; split <;> rfl
theorem LaidAt.grown {w w' : World} {R : List (List Int)} {es : List (Option Addr × Nat)} {i : Nat} (h : LaidAt w R es i) {row : Option Nat} (g : w.grownBy w' row) (hr : ∀ b C, row = some b → w.heap[b]? ≠ some (.cells C 3 (0, 0))) : LaidAt w' R es i := by
  have hk : ∀ j, j < i → ∀ x, (es.getD j (none, 0)).1 = some x → w'.heap[x.block]? = w.heap[x.block]? := fun j hj x hx => by
    obtain ⟨C, hC⟩ := h.held j hj x hx
    exact g.block _ (lt_of_block hC) (fun e => hr _ C e.symm hC)
  refine ⟨h.el, fun j hj => ?_, fun j hj x hx => ?_, h.caps, h.nons⟩
  · have hc := h.cells j hj
    refine ⟨hc.1, fun k hk' => ?_⟩
    rw [← hc.2 k hk']
    obtain ⟨x, hx⟩ := hc.isSome hk'
    rw [hx]
    exact World.cell?_of_block (by rw [elt_block]; exact hk j hj x hx)
  · obtain ⟨C, hC⟩ := h.held j hj x hx
    exact ⟨C, (hk j hj x hx).trans hC⟩
theorem getD_app_l {α : Type} {l m : List α} {d : α} {k : Nat} (h : k < l.length) : (l ++ m).getD k d = l.getD k d := by
  rw [List.getD_eq_getElem?_getD, List.getD_eq_getElem?_getD, List.getElem?_append_left h]
theorem getD_app_e {α : Type} {l : List α} {x d : α} : (l ++ [x]).getD l.length d = x := by
  rw [List.getD_eq_getElem?_getD, List.getElem?_append_right (Nat.le_refl _), Nat.sub_self]; rfl
theorem LaidAt.snoc {w : World} {R : List (List Int)} {es : List (Option Addr × Nat)} {i : Nat} (h : LaidAt w R es i) {a : Option Addr} {c : Nat} (hc : Cells w a (zcells (R.getD i []))) (hh : ∀ x, a = some x → ∃ C, w.heap[x.block]? = some (.cells C 3 (0, 0))) (h1 : (R.getD i []).length ≤ c) (h2 : a = none → c = 0) :
    LaidAt w R (es ++ [(a, c)]) (i + 1) := by
  have hl := h.el
  have e1 : ∀ j, j < i → (es ++ [(a, c)]).getD j (none, 0) = es.getD j (none, 0) := fun j hj => getD_app_l (by omega)
  have e2 : (es ++ [(a, c)]).getD i (none, 0) = (a, c) := by rw [← hl]; exact getD_app_e
  refine ⟨by simp [hl], fun j hj => ?_, fun j hj x hx => ?_, fun j hj => ?_, fun j hj => ?_⟩
  · by_cases hji : j = i
    · subst hji; rw [e2]; exact hc
    · rw [e1 j (by omega)]; exact h.cells j (by omega)
  · by_cases hji : j = i
    · subst hji; rw [e2] at hx; exact hh x hx
    · rw [e1 j (by omega)] at hx; exact h.held j (by omega) x hx
  · by_cases hji : j = i
    · subst hji; rw [e2]; exact h1
    · rw [e1 j (by omega)]; exact h.caps j (by omega)
  · by_cases hji : j = i
    · subst hji; rw [e2]; exact h2
    · rw [e1 j (by omega)]; exact h.nons j (by omega)
theorem Row.notInt {S : Nat → Prop} {w0 w : World} {v : Value} {xs : List Value} (h : Row S 24 w0 w v xs) : ∀ b C, v.ownBlock = some b → w.heap[b]? ≠ some (.cells C 3 (0, 0)) := fun b C hb hC => by
  obtain ⟨D, hD⟩ := h.held b hb
  rw [hD] at hC
  injection hC with hC
  injection hC with _ hC _
  exact absurd hC (by decide)
theorem gcellsN_app (R : List (List Int)) (es : List (Option Addr × Nat)) (x : Option Addr × Nat) : gcellsN R (es ++ [x]) es.length = gcellsN R es es.length := by
  unfold gcellsN
  refine List.map_congr_left fun j hj => ?_
  rw [getD_app_l (List.mem_range.1 hj)]

set_option maxRecDepth 100000 in
set_option maxHeartbeats 2000000 in
theorem right_any {w : World} {g : List (List Int)} {es0 : List (Option Addr × Nat)} {a : Option Addr} {cap : Nat} (hg : GraphAt w a cap g es0) :
    Calls Try.prog 11 #[.slice a g.length cap] w fun e w' => ∃ a' cap' es, e = .returned (.slice a' (rightG g).length cap') ∧ GraphAt w' a' cap' (rightG g) es ∧ Below w.heap.size w w' := by
  have C0 := few_any hg
  have hfl := fewG_len g
  obtain ⟨m, hm⟩ : ∃ m, m = (fewG g).length := ⟨_, rfl⟩
  have HM := Lib.hid hm
  rw [← hm] at hfl C0
  have hm30 : m ≤ 30 := by omega
  have HRL := Lib.hid (rightG_len g)
  clear hm hfl hg
  go_enter Try.func11, Try.ntmps11
  go_wp2_with fail
  refine C0.mono ?_
  rintro e w1 ⟨af, cf, rfl, hF, g1⟩
  clear C0
  have hF0 : FrameS (· < w1.heap.size) w1 w1 := FrameS.refl fun _ hk => hk
  go_wp2_with fail
  go_loopw [3, 5] (fun s3 s5 wr => ∃ (i : Nat) (es : List (Option Addr × Nat)), s5 = .int .i64 (i : Int) ∧ i ≤ m ∧ Row (· < w1.heap.size) 24 w1 wr s3 (gcellsN (rightG g) es i) ∧ LaidAt wr (rightG g) es i) (fun _ s5 _ => m - (intOf s5).toNat)
  case atStart => exact ⟨0, [], rfl, Nat.zero_le _, Row.nil hF0, ⟨rfl, fun j hj => by omega, fun j hj => by omega, fun j hj => by omega, fun j hj => by omega⟩⟩
  case round =>
    obtain ⟨i, es, rfl, hi, hrow, hla⟩ := hrel
    have hb1 : Below w1.heap.size w1 wr := hrow.frame.toBelow fun _ hk => hk
    by_cases him : i < m
    · have t1 : decide ((i : Int) < (m : Int)) = true := decide_eq_true (by omega)
      have t1' : decide (i < m) = true := decide_eq_true him
      have hif : i < (fewG g).length := by rw [← HM.out]; exact him
      have HRA := Lib.hid (rightG_at hif)
      have hrn : (rowN g i) = if i = 0 then [] else ((fewG g).getD i []).map fun z => modN z i := rfl
      have HRN := Lib.hid hrn
      have hl6 := fewG_small g i
      obtain ⟨l, hl⟩ : ∃ l, l = (fewG g).getD i [] := ⟨_, rfl⟩
      rw [← hl] at HRN hl6
      have HL := Lib.hid hl
      clear hl
      obtain ⟨wi, hwi⟩ : ∃ wi, wi = wr := ⟨_, rfl⟩
      have HWI := Lib.hid hwi
      clear hrn hwi
      go_wp2_with fail
      go_loopw [6, 7] (fun s6 s7 wx => ∃ k : Nat, s7 = .int .i64 (k : Int) ∧ k ≤ l.length ∧ (i = 0 → k = 0) ∧ Row (· < wi.heap.size) 3 wi wx s6 (icells ((l.take k).map fun z => modN z i))) (fun _ s7 _ => l.length - (intOf s7).toNat)
      case atStart => exact ⟨0, rfl, Nat.zero_le _, fun _ => rfl, Row.nil (by rw [HWI.out]; exact FrameS.refl fun _ hk => hk)⟩
      case round =>
        obtain ⟨k, rfl, hk, hk0, hp⟩ := hrel
        have hfx := hp.frame.toBelow (fun _ hk => hk)
        rw [HWI.out] at hfx
        have hFx := hF.below (hb1.trans (Below.mono hfx hb1.size))
        obtain ⟨IKg, ICg⟩ := hFx.at (i : Int) i rfl hif
        rw [← HM.out] at IKg
        rw [← HL.out] at ICg
        have hint := hFx.ints i hif
        rw [← HL.out] at hint
        by_cases hgo : k < l.length ∧ 0 < i
        · have u1 : decide ((k : Int) < (l.length : Int)) = true := decide_eq_true (by omega)
          have u1' : decide (k < l.length) = true := decide_eq_true hgo.1
          have u2 : decide ((0 : Int) < (i : Int)) = true := decide_eq_true (by omega)
          have u2' : decide (0 < i) = true := decide_eq_true hgo.2
          obtain ⟨IKk, ICk⟩ := zs_at hint (es0.getD i (none, 0)).2 (k : Int) k rfl hgo.1
          have hnx : icells ((l.take (k + 1)).map fun z => modN z i) = icells ((l.take k).map fun z => modN z i) ++ [.int .i64 (modN (l.getD k 0) i : Nat)] := by
            rw [List.take_succ_eq_append_getElem hgo.1, List.map_append, List.getD_eq_getElem?_getD, List.getElem?_eq_getElem hgo.1]
            simp [icells]
          have HNX := Lib.hid hnx
          have HPL := Lib.hid (show (icells ((l.take k).map fun z => modN z i)).length ≤ 6 by rw [icells_length, List.length_map, List.length_take]; omega)
          obtain ⟨em, -⟩ := u64_mod (l.getD k 0) i hgo.2 (by omega)
          have en : IntKind.u64.wrap (i : Int) = (i : Int) := by rw [IntKind.wrap_u64]; omega
          have hn0 : ¬ (i : Int) = 0 := by omega
          generalize (es0.getD i (none, 0)).1 = e1 at *
          generalize (es0.getD i (none, 0)).2 = e2 at *
          generalize l.getD k 0 = z at *
          generalize modN z i = mz at *
          generalize hXS : icells ((l.take k).map fun z => modN z i) = XS at *
          clear hnx hint hXS
          go_wp2_with (at_builtin; refine wpList_append_fresh elemInt rfl (.tmp 29) (.tmp 42) rfl _ _ rfl hp _ [.int .i64 (mz : Int)] (by first | rfl | simp [em]) 1 1 rfl rfl (by simp [Value.oneCell']) (by have := HPL.out; simp only [List.length_singleton]; omega) (by have := HPL.out; simp only [List.length_singleton]; omega) ?_; intro v5 w5 hb5 hgr5)
          rw [← HNX.out] at hb5
          go_roundw
          case rel => exact ⟨k + 1, by go_num, by omega, fun h => absurd h (by omega), hb5⟩
          case measure => simp [intOf]; omega
        · have hrow2 : (l.take k).map (fun z => modN z i) = rowN g i := by
            rw [HRN.out]
            by_cases hi0 : i = 0
            · rw [if_pos hi0, hk0 hi0]; rfl
            · rw [if_neg hi0, List.take_of_length_le (by omega)]
          rw [hrow2] at hp
          have HPL := Lib.hid (rowN_len g i)
          obtain ⟨ap, cp, hvp, hpc, hple, -, hpn⟩ := hp.slice
          have hheld : ∀ x, ap = some x → ∃ C, wr.heap[x.block]? = some (.cells C 3 (0, 0)) := fun x hx => hp.held x.block (by rw [hvp, hx]; rfl)
          have hwx : Below wi.heap.size wi wr := hp.frame.toBelow fun _ hk => hk
          rw [HWI.out] at hwx
          have hla2 := hla.below hwx
          have hrow3 := hrow.later hwx
          have hb2 := hb1.trans (Below.mono hwx hb1.size)
          have hpz : Cells wr ap (zcells ((rightG g).getD i [])) := by rw [HRA.out, ← icells_z]; exact hpc
          have hlen2 : ((rightG g).getD i []).length = (rowN g i).length := by rw [HRA.out, natsZ_len]
          have hla3 := hla2.snoc hpz hheld (by rw [hlen2]; rw [icells_length] at hple; exact hple) hpn
          have hel := hla.el
          have HSN := Lib.hid (show gcellsN (rightG g) (es ++ [(ap, cp)]) (i + 1) = gcellsN (rightG g) es i ++ [.slice ap (rowN g i).length cp] by
            rw [gcellsN_snoc]
            have e1 : gcellsN (rightG g) (es ++ [(ap, cp)]) i = gcellsN (rightG g) es i := by
              have := gcellsN_app (rightG g) es (ap, cp)
              rw [hel] at this; exact this
            have e2 : (es ++ [(ap, cp)]).getD i (none, 0) = (ap, cp) := by rw [← hel]; exact getD_app_e
            rw [e1, e2, hlen2])
          have HGL := Lib.hid (gcellsN_len (rightG g) es i)
          have hnot := hrow3.notInt
          rw [icells_length] at hvp
          subst hvp
          generalize (rowN g i).length = RL at *
          clear hla hrow hp hpc hpz hla2 hrow2 hint
          by_cases hkl : k < l.length
          · have u1 : decide ((k : Int) < (l.length : Int)) = true := decide_eq_true (by omega)
            have u1' : decide (k < l.length) = true := decide_eq_true hkl
            have u2 : decide ((0 : Int) < (i : Int)) = false := decide_eq_false (by omega)
            have u2' : decide (0 < i) = false := decide_eq_false (by omega)
            go_wp2_with (at_builtin; refine wpList_append_fresh elemRow rfl (.tmp 44) (.tmp 46) rfl _ _ rfl hrow3 _ [.slice ap RL cp] rfl 1 1 rfl rfl (by simp [Value.oneCell']) (by rw [HGL.out]; simp only [List.length_singleton]; omega) (by rw [HGL.out]; simp only [List.length_singleton]; omega) ?_; intro v5 w5 hb5 hgr5)
            rw [← HSN.out] at hb5
            have hla5 := hla3.grown hgr5 hnot
            go_roundw
            case rel => exact ⟨i + 1, _, by go_num, by omega, hb5, hla5⟩
            case measure => simp [intOf]; omega
          · have u1 : decide ((k : Int) < (l.length : Int)) = false := decide_eq_false (by omega)
            have u1' : decide (k < l.length) = false := decide_eq_false (by omega)
            go_wp2_with (at_builtin; refine wpList_append_fresh elemRow rfl (.tmp 44) (.tmp 46) rfl _ _ rfl hrow3 _ [.slice ap RL cp] rfl 1 1 rfl rfl (by simp [Value.oneCell']) (by rw [HGL.out]; simp only [List.length_singleton]; omega) (by rw [HGL.out]; simp only [List.length_singleton]; omega) ?_; intro v5 w5 hb5 hgr5)
            rw [← HSN.out] at hb5
            have hla5 := hla3.grown hgr5 hnot
            go_roundw
            case rel => exact ⟨i + 1, _, by go_num, by omega, hb5, hla5⟩
            case measure => simp [intOf]; omega
    · obtain rfl : i = m := by omega
      have t1 : decide ((i : Int) < (i : Int)) = false := decide_eq_false (by omega)
      obtain ⟨a9, c9, e9, hc9, hle9, -, hn9⟩ := hrow.slice
      rw [gcellsN_len] at e9 hle9
      subst e9
      have hres : GraphAt wr a9 c9 (rightG g) es := by
        refine ⟨by rw [HRL.out, ← HM.out]; exact hle9, hn9, ?_, fun k hk => ?_, fun k hk => ?_, fun k hk => ?_⟩
        · have e : gcells (rightG g) es = gcellsN (rightG g) es i := by unfold gcells gcellsN; rw [HRL.out, HM.out]
          rw [e]; exact hc9
        · exact hla.cells k (by rw [HM.out, ← HRL.out]; exact hk)
        · exact hla.caps k (by rw [HM.out, ← HRL.out]; exact hk)
        · exact hla.nons k (by rw [HM.out, ← HRL.out]; exact hk)
      have HRES := Lib.hid hres
      have hfr := g1.trans (Below.mono hb1 g1.size)
      clear hres hrow hc9 hla
      go_wp2_with fail
      go_ret
      exact ⟨_, _, _, (by rw [HRL.out, ← HM.out]; rfl), HRES.out, hfr⟩
end Go.Proofs.Ytkkfolfplpafhaa
