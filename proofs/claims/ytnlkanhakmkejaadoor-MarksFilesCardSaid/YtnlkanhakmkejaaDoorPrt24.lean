/-
  Sets of sums: map[api.Id]bool.
  marks.right: the walk.
  marks.Print and the document's Print: the walks.
-/
import Derived.Test.YtnlkanhakmkejaaDoorAdd24
import Derived.Test.YtnlkanhakmkejaaDoorMixT
import Derived.Maps.OwnSet
import Derived.Maps.OwnOps
import Derived.WideKeyArr2
import Derived.Test.YtnlkanhakmkejaaDoorStr
import Derived.Test.YtnlkanhakmkejaaDoorSl18
import Derived.Test.YtnlkanhakmkejaaDoorSha24
import Derived.Laws.Concat
namespace Go.Proofs.YtnlkanhakmkejaaDoor
open Go.RowKit Go.Mix Go.Maps Go.WideMaps

/-- What an array of bytes reads as, as a map's key. -/
theorem key_of_bytes {P : Program} {k e n : Nat} (A : ArrKey P k e n) (he : P.underlying e = some (.int .u8)) (hsz : ∃ m, P.types.size = m + 1) (l : List UInt8) (hl : l.length = n) : keyOf P k (.agg (bcells l).toArray) = some (.string l) := by
  have hkt := A.keyType hsz
  obtain ⟨m, hm⟩ := hsz
  have hsize := A.size
  have hone := A.one
  unfold keyOf
  rw [A.hu]
  have hf : Value.formed P k (.agg (bcells l).toArray) = true := by
    unfold Value.formed
    rw [A.hu]
    simp [hsize, bcells_length, hl]
  simp only [hkt, hf, Bool.and_self, if_true, hm]
  have hc : (Value.cells (.agg (bcells l).toArray)).toList = bcells l := by simp [Value.cells]
  rw [hc]
  unfold Program.keyLits
  rw [A.hu]
  simp only [hsize, bcells_length, hl, if_true, hone]
  rw [mapM_all (g := fun i => [Lit.int .u8 ((l.getD i 0).toNat : Int)])]
  · simp only [Option.map_some]
    congr 2
    subst hl
    unfold keyBytes
    have e2 : ((List.range l.length).map fun i => [Lit.int .u8 ((l.getD i 0).toNat : Int)]).flatten = (List.range l.length).map fun i => Lit.int .u8 ((l.getD i 0).toNat : Int) := by
      generalize List.range l.length = r
      induction r with
      | nil => rfl
      | cons x r ih => simp only [List.map_cons, List.flatten_cons, ih]; rfl
    have e1 : ((List.range l.length).map fun i => [Lit.int .u8 ((l.getD i 0).toNat : Int)]).flatten = l.map fun x => Lit.int .u8 (x.toNat : Int) := by
      rw [e2]
      refine List.ext_getElem (by simp) fun j h1 h2 => ?_
      simp at h2
      simp [h2]
    rw [e1]
    clear e1 e2 hc hf hsize hkt A
    induction l with
    | nil => rfl
    | cons x l ih =>
      simp only [List.map_cons, List.flatMap_cons]
      rw [ih]
      have hx : Lit.keyBytes (.int .u8 (x.toNat : Int)) = [x] := by
        have h := x.toNat_lt
        have e3 : ((x.toNat : Int) % 2 ^ IntKind.u8.bits).toNat = x.toNat := by
          show ((x.toNat : Int) % 256).toNat = x.toNat
          omega
        show bytesBE (IntKind.u8.bits / 8) ((x.toNat : Int) % 2 ^ IntKind.u8.bits).toNat = [x]
        rw [e3]
        show bytesBE 1 x.toNat = [x]
        simp [bytesBE, bytesLE]
      rw [hx]; rfl
  · intro i hi
    have hi' : i < l.length := by simpa [hl] using hi
    have e1 : ((bcells l).drop (i * 1)).take 1 = [Value.int .u8 (l[i].toNat : Int)] := by
      rw [Nat.mul_one, List.drop_eq_getElem_cons (by rw [bcells_length]; exact hi')]
      simp [bcells]
    rw [e1]
    unfold Program.keyLits
    rw [he]
    have hw : (Lit.int .u8 (l[i].toNat : Int)).wf = true := by
      have h := l[i].toNat_lt
      simp [Lit.wf, IntKind.min, IntKind.max, IntKind.signed, IntKind.bits]
      omega
    simp [hw, hi']

theorem plainElem_bool_inv {P : Program} {e : TypeId} (he : P.underlying e = some .bool) {v : Value} {z : DataW Unit × List MemPlace} (h : plainElem P e v = some z) : ∃ x, v = .bool x ∧ z = (.lit (.bool x), []) := by
  unfold plainElem at h
  rw [he] at h
  cases v <;> simp at h
  exact ⟨_, rfl, h.symm⟩
theorem zeroB (w : World) : (zeroValue 4).run Tryd.prog w = .ok (.bool false) w := by kernel_rfl
theorem idKeyed : Keyed Tryd.prog 46 := Keyed.of_law arrG.law
theorem key_id (x : Id20) : keyOf Tryd.prog 46 (.agg (idA x)) = some (.string x.1) := key_of_bytes arrG Tryd.underlying5 ⟨_, rfl⟩ x.1 x.2

/-- What the set of sums holds. -/
def IdsAre (D : DataW Unit) (S : Id20 → Bool) : Prop := IsMap D ∧ ∀ x : Id20, D.atKey (.string x.1) (.lit (.bool false)) = .lit (.bool (S x))
theorem ids_start : IdsAre (.map []) (fun _ => false) := ⟨isMap_empty, fun z => by simp; rfl⟩
theorem ids_put {D : DataW Unit} {S : Id20 → Bool} (h : IdsAre D S) (y : Id20) : IdsAre (D.put (.string y.1) (.lit (.bool true))) (fun x => S x || decide (x = y)) := by
  refine ⟨h.1.put _ _, fun x => ?_⟩
  by_cases hz : x = y
  · subst hz
    rw [atKey_put_same h.1 (show WideAt.IsKeyLit (.string x.1) from trivial)]
    simp
  · rw [atKey_put_other (fun e => hz (by injection e with e; exact Subtype.ext e)), h.2 x]
    simp [hz]
set_option maxRecDepth 100000 in
theorem ids_look {w : World} {MB n : Nat} {D : DataW Unit} {S : Id20 → Bool} (h : w.ownsMap Tryd.prog 46 (plainElem Tryd.prog 4) MB n D) (hD : IdsAre D S) (x : Id20) :
    (Instr.lookup 103 (.map (some MB)) (.agg (idA x)) false).run Tryd.prog w = .ok (.bool (S x)) w := by
  obtain ⟨v, ps, hrun, hv⟩ := h.lookup idKeyed Tryd.underlying103 (zeroB w) (plainElem_bool Tryd.underlying4 false) (key_id x)
  obtain ⟨b, rfl, hx⟩ := plainElem_bool_inv Tryd.underlying4 hv
  rw [hD.2 x] at hx
  simp only [Prod.mk.injEq] at hx
  have h1 := hx.1
  injection h1 with h1
  injection h1 with h1
  rw [hrun, ← h1]
end Go.Proofs.YtnlkanhakmkejaaDoor
namespace Go.Proofs.YtnlkanhakmkejaaDoor
open Go.RowKit Go.Mix Go.Maps Go.WideMaps

theorem mt_load {D : List Deferred} {E : List PanicEntry → World → Prop} {N : Nat → Prop} {P : Program} {ops : Array Oper} {Q : Act → World → Prop} {i : Nat} {r : List (Nat × Nat)} {o : Oper} {a : Act} {w : World} (ho : ops[i]? = some o) (hw : Region.wanted o (yielded ops a.tmps) = true)
    (ty : TypeId) (x : Operand) (hop : o.op = .load ty x) (V v : Value) (hx : a.eval x = V) (hl : ∀ y : MixT.Later N w, (Instr.loadAt ty V).run P y.1 = .ok v y.1)
    (h : MixT.wpMix D E N P ops Q r (a.put o.dst v) w) : MixT.wpMix D E N P ops Q ((i, 0) :: r) a w := by
  refine MixT.mix_calm ho (fun K hK => ?_)
  unfold MixT.calmStep
  rw [if_pos hw]
  refine ⟨v, fun y => ?_, hK _ h⟩
  unfold MixT.calmAt execOp
  simp only [hop, hx, Sem.run_bind, Sem.run_pure, Result.andThen_ok, hl y]
  exact ⟨rfl, rfl⟩

def gits (l : List Pr) (x : Id20) : Bool := l.any fun p => decide (p.1 = x)
def hgs (l : List Pr) (x : Id20) : Bool := l.any fun p => decide (p.2 = x)
theorem gits_succ {l : List Pr} {i : Nat} (h : i < l.length) : gits (l.take (i + 1)) = fun x => gits (l.take i) x || decide (x = l[i]!.1) := by
  funext x; unfold gits; rw [take_succ h, List.any_append]
  congr 1
  simp only [List.any_cons, List.any_nil, Bool.or_false]
  rw [Bool.eq_iff_iff, decide_eq_true_eq, decide_eq_true_eq]; exact eq_comm
theorem hgs_succ {l : List Pr} {i : Nat} (h : i < l.length) : hgs (l.take (i + 1)) = fun x => hgs (l.take i) x || decide (x = l[i]!.2) := by
  funext x; unfold hgs; rw [take_succ h, List.any_append]
  congr 1
  simp only [List.any_cons, List.any_nil, Bool.or_false]
  rw [Bool.eq_iff_iff, decide_eq_true_eq, decide_eq_true_eq]; exact eq_comm
theorem any_take_iff (f : Pr → Bool) {l : List Pr} {i : Nat} (hi : i ≤ l.length) : (l.take i).any f = true ↔ ∃ k, k < i ∧ f l[k]! = true := by
  rw [List.any_eq_true]
  constructor
  · rintro ⟨p, hp, hf⟩
    obtain ⟨k, hk, rfl⟩ := List.getElem_of_mem hp
    have hk2 : k < i := by rw [List.length_take] at hk; omega
    rw [List.getElem_take] at hf
    exact ⟨k, hk2, by rw [getElem!_pos l k (by omega)]; exact hf⟩
  · rintro ⟨k, hk, hf⟩
    have hkl : k < l.length := by omega
    rw [getElem!_pos l k hkl] at hf
    refine ⟨l[k], List.mem_iff_getElem.2 ⟨k, by rw [List.length_take]; omega, by rw [List.getElem_take]⟩, hf⟩

theorem pairBox {W : World} {B : Nat} {p : Pr} {t : TypeId} {fr : Nat × Nat} (h : W.heap[B]? = some (.cells (encAK p) t fr)) : W.rangeAt B 0 (enc p) := fun j v hj => by
  rw [cell_of_row _ _ _ _ _ _ h, Nat.zero_add]
  simpa [encAK] using hj

set_option maxRecDepth 100000 in
set_option maxHeartbeats 4000000 in
theorem right_anyK {w : World} {l : List Pr} {a : Option Addr} {cap : Nat} (hg : PsAt w a cap l) (hlen : l.length ≤ 1000000) :
    Calls Tryd.prog 30 #[.slice a l.length cap] w fun e w' => ∃ r : Bool, e = .returned (.bool r) ∧ (r = true ↔ Rt l) ∧ Below w.heap.size w w' := by
  have hmm := @run_makeMap Tryd.prog
  obtain ⟨n, hn⟩ : ∃ n, n = l.length := ⟨_, rfl⟩
  have HN := Lib.hid hn
  have HG := Lib.hid hg
  rw [← hn] at hlen ⊢
  clear hn hg
  obtain ⟨Z, hZ⟩ : ∃ Z, Z = encAK (id0, id0) := ⟨_, rfl⟩
  have z : ∀ w, (zeroValue 50).run Tryd.prog w = .ok (.agg Z) w := fun w => by rw [hZ]; kernel_rfl
  have HZ := Lib.hid hZ
  clear hZ
  have hm1 : ((w.alloc (.map #[] 0)).alloc (.map #[] 0)).ownsMap Tryd.prog 46 (plainElem (H := Unit) Tryd.prog 4) w.heap.size 0 (.map []) := (World.ownsMap_made _ _ _ _).alloc _
  have hm2 : ((w.alloc (.map #[] 0)).alloc (.map #[] 0)).ownsMap Tryd.prog 46 (plainElem (H := Unit) Tryd.prog 4) (w.heap.size + 1) 0 (.map []) := by
    have := World.ownsMap_made (H := Unit) (w.alloc (.map #[] 0)) Tryd.prog 46 (plainElem (H := Unit) Tryd.prog 4)
    rw [show (w.alloc (.map #[] 0)).heap.size = w.heap.size + 1 by simp] at this
    exact this
  have hb0 : Below w.heap.size w ((w.alloc (.map #[] 0)).alloc (.map #[] 0)) := ((Below.refl _ _).alloc (Nat.le_refl _) _).alloc (by simp) _
  have HM := Lib.hid (And.intro hm1 (And.intro hm2 hb0))
  clear hm1 hm2 hb0
  go_enter Tryd.func30, Tryd.ntmps30
  go_wp2_with fail
  go_loopw [11] (fun s11 wr => ∃ (i : Nat) (D1 D2 : DataW Unit), s11 = .int .i64 (i : Int) ∧ i ≤ n ∧ wr.ownsMap Tryd.prog 46 (plainElem Tryd.prog 4) w.heap.size i D1 ∧ IdsAre D1 (gits (l.take i)) ∧ wr.ownsMap Tryd.prog 46 (plainElem Tryd.prog 4) (w.heap.size + 1) i D2 ∧ IdsAre D2 (hgs (l.take i)) ∧ (∀ j k, k < j → j < i → l[j]!.1 ≠ l[k]!.1 ∧ l[j]!.2 ≠ l[k]!.2) ∧ Below w.heap.size w wr) (fun s11 _ => n - (intOf s11).toNat)
  case atStart => exact ⟨0, .map [], .map [], rfl, Nat.zero_le _, HM.out.1, ids_start, HM.out.2.1, ids_start, fun _ _ _ h => absurd h (Nat.not_lt_zero _), HM.out.2.2⟩
  case round =>
    obtain ⟨i, D1, D2, rfl, hi, hm1, hD1, hm2, hD2, hpre, hb⟩ := hrel
    have HP := Lib.hid hpre
    have HB := Lib.hid hb
    clear hpre
    by_cases hin : i < n
    · have t1 : decide ((i : Int) < (n : Int)) = true := decide_eq_true (by omega)
      have t1' : decide (i < n) = true := decide_eq_true (by omega)
      have hil : i < l.length := by rw [← HN.out]; omega
      obtain ⟨b, q, IX, L, -, -⟩ := (HG.out.below hb).at tyG (i : Int) i rfl hil
      rw [← HN.out] at IX
      have L' := L _ (Below.refl _ _)
      have G1 := any_take_iff (fun p => decide (p.1 = l[i]!.1)) (l := l) (i := i) (by omega)
      have G2 := any_take_iff (fun p => decide (p.2 = l[i]!.2)) (l := l) (i := i) (by omega)
      have HGG := Lib.hid (And.intro (gits_succ hil) (And.intro (hgs_succ hil) (And.intro G1 G2)))
      have hP1 := ids_put hD1 l[i]!.1
      have hP2 := ids_put hD2 l[i]!.2
      rw [← gits_succ hil] at hP1
      rw [← hgs_succ hil] at hP2
      have HPUT := Lib.hid (And.intro hP1 hP2)
      have HD := Lib.hid (And.intro hD1 hD2)
      have HMM := Lib.hid (And.intro hm1 hm2)
      obtain ⟨p, hp⟩ : ∃ p, p = l[i]! := ⟨_, rfl⟩
      rw [← hp] at L'
      have HPP := Lib.hid hp
      have hzb : (wr.alloc (.cells Z 50)).heap[wr.heap.size]? = some (.cells Z 50 (0, 0)) := heap_alloc_last _ _ _ rfl
      have zs : Z.size = (encAK p).size := by rw [HZ.out]; simp [encAK, enc_len]
      have zi : (Tryd.prog.info? 50).map (·.size) = some (encAK p).size := by rw [show (encAK p).size = 40 by simp [encAK, enc_len]]; exact tyG.ie
      have z1 : (encAK p).all (·.oneCell') = true := all_oneCell_toArray (enc_one _)
      have gA : Below wr.heap.size wr ((wr.alloc (.cells Z 50)).setRow wr.heap.size (encAK p)) := below_setRow ((Below.refl _ _).alloc (Nat.le_refl _) _) (Nat.le_refl _) _
      have hbox : ((wr.alloc (.cells Z 50)).setRow wr.heap.size (encAK p)).heap[wr.heap.size]? = some (.cells (encAK p) 50 (0, 0)) := setRow_heap _ _ _ _ _ _ hzb
      have HA := Lib.hid (And.intro gA hbox)
      clear L G1 G2 hP1 hP2 hD1 hD2 hm1 hm2 hp hb hil gA hbox
      go_upto_region 5 with (first | (refine wpList_load_at rfl _ _ rfl _ _ rfl L' ?_) | (refine wpList_store_row rfl 50 _ _ rfl wr.heap.size (encAK p) rfl rfl 50 Z hzb zi zs z1 ?_))
      have gA := HA.out.1
      have hbox := HA.out.2
      obtain ⟨B, hB⟩ : ∃ B, B = wr.heap.size := ⟨_, rfl⟩
      have hBlt : w.heap.size + 1 < B := by rw [hB]; exact HMM.out.2.lt
      clear HA L' IX zs zi z1 hzb
      generalize (wr.alloc (.cells Z 50)).setRow wr.heap.size (encAK p) = w5 at *
      rw [← hB] at hbox ⊢
      have gk : wr.grownBy w5 none := ⟨gA.os, gA.tape, gA.output, gA.size, fun k hk _ => gA.block k hk⟩
      have m1 := HMM.out.1.kept gk (by simp)
      have m2 := HMM.out.2.kept gk (by simp)
      have hb5 := HB.out.trans (gA.mono HB.out.size)
      have LK1 := ids_look m1 HD.out.1 p.1
      have LK2 := ids_look m2 HD.out.2 p.2
      have L1 := tyG.loadId p.1 _ _ _ (rangeAt_enc.1 (pairBox hbox)).1
      have L2 := tyG.loadId p.2 _ _ _ (rangeAt_enc.1 (pairBox hbox)).2
      simp only [Nat.zero_add] at L2
      obtain ⟨b1, hb1⟩ : ∃ b, b = gits (l.take i) p.1 := ⟨_, rfl⟩
      obtain ⟨b2, hb2⟩ : ∃ b, b = hgs (l.take i) p.2 := ⟨_, rfl⟩
      rw [← hb1] at LK1
      rw [← hb2] at LK2
      have HBB := Lib.hid (And.intro hb1 hb2)
      have H5 := Lib.hid (And.intro (And.intro m1 m2) (And.intro hb5 hbox))
      clear hb1 hb2 m1 m2 hb5 hbox gA gk hB
      cases b1
      · cases b2
        · go_upto_region 7 with (first | (refine wpList_load_at rfl _ _ rfl _ _ rfl L1 ?_) | (refine wpList_load_g rfl _ _ rfl _ _ rfl L2 ?_))
          have hbox := H5.out.2.2
          have hNB : ∀ k, k = B → k < w5.heap.size := fun k hk => by subst hk; exact lt_of_block hbox
          have LA : ∀ y : MixT.Later (· = B) w5, (Instr.loadAt 46 (.pointer (some ⟨B, 0, none⟩))).run Tryd.prog y.1 = .ok (.agg (idA p.1)) y.1 := fun y => tyG.loadId p.1 _ _ _ (rangeAt_enc.1 (pairBox ((y.2.keep B rfl (hNB B rfl)).trans hbox))).1
          have LB : ∀ y : MixT.Later (· = B) w5, (Instr.loadAt 46 (.pointer (some ⟨B, 20, none⟩))).run Tryd.prog y.1 = .ok (.agg (idA p.2)) y.1 := fun y => by
            have := tyG.loadId p.2 _ _ _ (rangeAt_enc.1 (pairBox ((y.2.keep B rfl (hNB B rfl)).trans hbox))).2
            simp only [Nat.zero_add] at this
            exact this
          have HNB := Lib.hid hNB
          clear L1 L2 LK1 LK2 hbox hNB
          refine MixT.wp_region_mix (N := (· = B)) (D := []) (E := fun _ _ => False) [(0, 0), (1, 0), (2, 0), (3, 0), (4, 0), (5, 0), (6, 1), (7, 1)] (by kernel_rfl) (fun _ _ _ _ h => h.elim) (by kernel_rfl) ?_
          iterate 2 (refine MixT.mix_calm rfl (fun K hK => ?_); go_simp; (refine hK _ ?_; clear hK K))
          refine mt_load rfl rfl _ _ rfl _ _ rfl LA ?_
          iterate 2 (refine MixT.mix_calm rfl (fun K hK => ?_); go_simp; (refine hK _ ?_; clear hK K))
          refine mt_load rfl rfl _ _ rfl _ _ rfl LB ?_
          refine MixT.mix_loud rfl rfl (fun w8 hw8 K hK => ?_)
          have gk8 : w5.grownBy w8 none := ⟨hw8.os, hw8.tape, hw8.output, hw8.size, fun k hk _ => hw8.block k hk⟩
          refine wpList_mapUpdate_own _ rfl _ _ _ 103 rfl 46 4 idKeyed Tryd.underlying103 (plainElem Tryd.prog 4) w.heap.size i D1 rfl (H5.out.1.1.kept gk8 (by simp)) (by unfold maxLen; omega) _ _ _ rfl rfl (key_id p.1) _ [] (plainElem_bool Tryd.underlying4 true) ?_
          intro w9 hm9 hg9
          have m29 := (H5.out.1.2.kept gk8 (by simp)).kept hg9 (by simp)
          have hb9 := (H5.out.2.1.trans (hw8.mono H5.out.2.1.size)).grown hg9 (Nat.le_trans H5.out.2.1.size hw8.size) (fun k hk => by injection hk with hk; omega)
          have gr9 : MixT.Grow (· = B) w8 w9 := ⟨hg9.os, hg9.tape, hg9.output, hg9.size, fun k hk hl => hg9.block k hl (by subst hk; simp; omega)⟩
          have HX9 := Lib.hid (And.intro (And.intro hm9 m29) hb9)
          clear hm9 m29 hb9 hg9 gk8 hw8 LA LB
          go_wp2_with fail
          refine hK _ _ gr9 ?_
          clear hK K gr9
          refine MixT.mix_loud rfl rfl (fun w10 hw10 K hK => ?_)
          have gk10 : w9.grownBy w10 none := ⟨hw10.os, hw10.tape, hw10.output, hw10.size, fun k hk _ => hw10.block k hk⟩
          refine wpList_mapUpdate_own _ rfl _ _ _ 103 rfl 46 4 idKeyed Tryd.underlying103 (plainElem Tryd.prog 4) (w.heap.size + 1) i D2 rfl (HX9.out.1.2.kept gk10 (by simp)) (by unfold maxLen; omega) _ _ _ rfl rfl (key_id p.2) _ [] (plainElem_bool Tryd.underlying4 true) ?_
          intro w11 hm11 hg11
          have m111 := (HX9.out.1.1.kept gk10 (by simp)).kept hg11 (by simp)
          have hb11 := (HX9.out.2.trans (hw10.mono HX9.out.2.size)).grown hg11 (Nat.le_trans HX9.out.2.size hw10.size) (fun k hk => by injection hk with hk; omega)
          have gr11 : MixT.Grow (· = B) w10 w11 := ⟨hg11.os, hg11.tape, hg11.output, hg11.size, fun k hk hl => hg11.block k hl (by subst hk; simp; omega)⟩
          have HX11 := Lib.hid (And.intro (And.intro m111 hm11) hb11)
          clear hm11 m111 hb11 hg11 gk10 hw10
          go_wp2_with fail
          refine hK _ _ gr11 ?_
          clear hK K gr11
          refine MixT.mix_nil fun w12 hw12 => ?_
          have gk12 : w11.grownBy w12 none := ⟨hw12.os, hw12.tape, hw12.output, hw12.size, fun k hk _ => hw12.block k hk⟩
          have HX12 := Lib.hid (And.intro (And.intro (HX11.out.1.1.kept gk12 (by simp)) (HX11.out.1.2.kept gk12 (by simp))) (HX11.out.2.trans (hw12.mono HX11.out.2.size)))
          clear hw12 gk12
          go_wp2_with fail
          go_roundw
          case rel =>
            refine ⟨i + 1, _, _, by go_num, by omega, HX12.out.1.1, HPP.out ▸ HPUT.out.1, HX12.out.1.2, HPP.out ▸ HPUT.out.2, fun j k hk hj => ?_, HX12.out.2⟩
            rcases Nat.lt_or_ge j i with h | h
            · exact HP.out j k hk h
            · obtain rfl : j = i := by omega
              have hh1 := HBB.out.1
              have hh2 := HBB.out.2
              rw [HPP.out] at hh1 hh2
              refine ⟨fun e => ?_, fun e => ?_⟩
              · have := HGG.out.2.2.1.2 ⟨k, hk, decide_eq_true e.symm⟩
                unfold gits at hh1
                rw [this] at hh1; cases hh1
              · have := HGG.out.2.2.2.2 ⟨k, hk, decide_eq_true e.symm⟩
                unfold hgs at hh2
                rw [this] at hh2; cases hh2
          case measure => simp [intOf]; omega
        · go_wp2_with (first | (refine wpList_load_at rfl _ _ rfl _ _ rfl L1 ?_) | (refine wpList_load_g rfl _ _ rfl _ _ rfl L2 ?_))
          go_ret
          refine ⟨_, rfl, ⟨fun h => (by cases h), fun h => ?_⟩, H5.out.2.1⟩
          have hh := HBB.out.2
          rw [HPP.out] at hh
          obtain ⟨k, hk, hf⟩ := HGG.out.2.2.2.1 hh.symm
          exact absurd (of_decide_eq_true hf).symm (h i k hk (by rw [← HN.out]; exact hin)).2
      · go_wp2_with (first | (refine wpList_load_at rfl _ _ rfl _ _ rfl L1 ?_) | (refine wpList_load_g rfl _ _ rfl _ _ rfl L2 ?_))
        go_ret
        refine ⟨_, rfl, ⟨fun h => (by cases h), fun h => ?_⟩, H5.out.2.1⟩
        have hh := HBB.out.1
        rw [HPP.out] at hh
        obtain ⟨k, hk, hf⟩ := HGG.out.2.2.1.1 hh.symm
        exact absurd (of_decide_eq_true hf).symm (h i k hk (by rw [← HN.out]; exact hin)).1
    · obtain rfl : i = n := by omega
      have t1 : decide ((i : Int) < (i : Int)) = false := decide_eq_false (by omega)
      have t1' : decide (i < i) = false := decide_eq_false (by omega)
      clear hm1 hm2 hD1 hD2 hb
      go_wp2_with fail
      go_ret
      exact ⟨_, rfl, ⟨fun _ j k hk hj => HP.out j k hk (by rw [HN.out]; exact hj), fun _ => rfl⟩, HB.out⟩
end Go.Proofs.YtnlkanhakmkejaaDoor
namespace Go.Proofs.YtnlkanhakmkejaaDoor
open Go.RowKit Go.Mix Go.WideMaps Go.Proofs

def lineL (p : Pr) : List UInt8 := hexL p.1.1 ++ [32] ++ hexL p.2.1 ++ [10]
def textL (l : List Pr) : List UInt8 := l.flatMap lineL
theorem lineL_len (p : Pr) : (lineL p).length = 82 := by
  have h1 := p.1.2
  have h2 := p.2.2
  simp only [lineL, List.length_append, hexL_len, h1, h2, List.length_singleton]
theorem textL_len : ∀ l : List Pr, (textL l).length = 82 * l.length
  | [] => rfl
  | p :: l => by
    have := textL_len l
    simp only [textL, List.flatMap_cons, List.length_append, lineL_len, List.length_cons] at this ⊢
    omega
theorem textL_succ {l : List Pr} {i : Nat} (h : i < l.length) : textL (l.take (i + 1)) = textL (l.take i) ++ lineL l[i]! := by
  rw [take_succ h]; unfold textL; rw [List.flatMap_append]; simp
set_option maxRecDepth 100000 in
set_option maxHeartbeats 4000000 in
theorem print_any {w : World} {l : List Pr} {a : Option Addr} {cap : Nat} (hg : PsAt w a cap l) (hlen : l.length ≤ 1000000) :
    Calls Tryd.prog 15 #[.slice a l.length cap] w fun e w' => (Rt l → ∃ b c, e = .returned (.tuple #[.slice b (82 * l.length) c, .int .i64 0]) ∧ Sl w' b c (textL l) ∧ ∀ x, b = some x → w.heap.size ≤ x.block) ∧ (¬ Rt l → e = .returned (.tuple #[.slice none 0 0, .int .i64 9])) ∧ Below w.heap.size w w' := by
  have C1 := right_anyK hg hlen
  obtain ⟨n, hn⟩ : ∃ n, n = l.length := ⟨_, rfl⟩
  have HN := Lib.hid hn
  have HG := Lib.hid hg
  rw [← hn] at C1 hlen ⊢
  clear hn hg
  obtain ⟨Z, hZ⟩ : ∃ Z, Z = encAK (id0, id0) := ⟨_, rfl⟩
  have z : ∀ w, (zeroValue 50).run Tryd.prog w = .ok (.agg Z) w := fun w => by rw [hZ]; kernel_rfl
  have HZ := Lib.hid hZ
  clear hZ
  go_enter Tryd.func15, Tryd.ntmps15
  go_wp2_with fail
  refine C1.mono ?_
  rintro e w2 ⟨r, rfl, hr, hb2⟩
  have HR := Lib.hid hr
  have HB2 := Lib.hid hb2
  clear C1 hr hb2
  cases r
  · have hno : ¬ Rt l := fun h => by have := HR.out.2 h; cases this
    go_wp2_with fail
    go_ret2
    exact ⟨fun h => absurd h hno, fun _ => rfl, HB2.out⟩
  · have hyes := HR.out.1 rfl
    have hbl := bld_new w2
    have hb3 : Below w.heap.size w (w2.alloc (.cells #[.pointer none, .slice none 0 0] 80)) := HB2.out.alloc HB2.out.size _
    obtain ⟨B, hB⟩ : ∃ B, B = w2.heap.size := ⟨_, rfl⟩
    have hBw : w.heap.size ≤ B := by rw [hB]; exact HB2.out.size
    rw [← hB] at hbl
    have HBL := Lib.hid (And.intro hbl hb3)
    have HY := Lib.hid hyes
    clear hbl hb3 hyes
    go_wp2_with fail
    rw [← hB]
    clear hB
    go_loopw [12] (fun s12 wr => ∃ i : Nat, s12 = .int .i64 (i : Int) ∧ i ≤ n ∧ Bld B B (textL (l.take i)) wr ∧ Below w.heap.size w wr) (fun s12 _ => n - (intOf s12).toNat)
    case atStart => exact ⟨0, rfl, Nat.zero_le _, HBL.out.1, HBL.out.2⟩
    case round =>
      obtain ⟨i, rfl, hi, hbl, hb⟩ := hrel
      by_cases hin : i < n
      · have t1 : decide ((i : Int) < (n : Int)) = true := decide_eq_true (by omega)
        have t1' : decide (i < n) = true := decide_eq_true (by omega)
        have hil : i < l.length := by rw [← HN.out]; omega
        obtain ⟨b, q, IX, L, -, -⟩ := (HG.out.below hb).at tyG (i : Int) i rfl hil
        rw [← HN.out] at IX
        have L' := L _ (Below.refl _ _)
        have HS := Lib.hid (textL_succ hil)
        have hacc : (textL (l.take i)).length ≤ 82000000 := by rw [textL_len, List.length_take]; omega
        have HACC := Lib.hid hacc
        obtain ⟨p, hp⟩ : ∃ p, p = l[i]! := ⟨_, rfl⟩
        rw [← hp] at L'
        have HPP := Lib.hid hp
        have hzb : (wr.alloc (.cells Z 50)).heap[wr.heap.size]? = some (.cells Z 50 (0, 0)) := heap_alloc_last _ _ _ rfl
        have zs : Z.size = (encAK p).size := by rw [HZ.out]; simp [encAK, enc_len]
        have zi : (Tryd.prog.info? 50).map (·.size) = some (encAK p).size := by rw [show (encAK p).size = 40 by simp [encAK, enc_len]]; exact tyG.ie
        have z1 : (encAK p).all (·.oneCell') = true := all_oneCell_toArray (enc_one _)
        have gA : Below wr.heap.size wr ((wr.alloc (.cells Z 50)).setRow wr.heap.size (encAK p)) := below_setRow ((Below.refl _ _).alloc (Nat.le_refl _) _) (Nat.le_refl _) _
        have hbox : ((wr.alloc (.cells Z 50)).setRow wr.heap.size (encAK p)).heap[wr.heap.size]? = some (.cells (encAK p) 50 (0, 0)) := setRow_heap _ _ _ _ _ _ hzb
        have HA := Lib.hid (And.intro gA hbox)
        have HW := Lib.hid (And.intro hbl hb)
        generalize textL (l.take i) = acc at *
        clear L hp hb hbl hil gA hbox hacc
        go_upto_region 7 with (first | (refine wpList_load_at rfl _ _ rfl _ _ rfl L' ?_) | (refine wpList_store_row rfl 50 _ _ rfl wr.heap.size (encAK p) rfl rfl 50 Z hzb zi zs z1 ?_))
        have gA := HA.out.1
        have hbox := HA.out.2
        obtain ⟨X, hX⟩ : ∃ X, X = wr.heap.size := ⟨_, rfl⟩
        clear HA L' IX zs zi z1 hzb
        generalize (wr.alloc (.cells Z 50)).setRow wr.heap.size (encAK p) = w5 at *
        rw [← hX] at hbox ⊢
        have bl5 := HW.out.1.later gA
        have hb5 := HW.out.2.trans (gA.mono HW.out.2.size)
        have LA : ∀ y : Later w5, (Instr.loadAt 46 (.pointer (some ⟨X, 0, none⟩))).run Tryd.prog y.1 = .ok (.agg (idA p.1)) y.1 := fun y => tyG.loadId p.1 _ _ _ (rangeAt_enc.1 (pairBox (block_below hbox y.2))).1
        have LB : ∀ y : Later w5, (Instr.loadAt 46 (.pointer (some ⟨X, 20, none⟩))).run Tryd.prog y.1 = .ok (.agg (idA p.2)) y.1 := fun y => by
          have := tyG.loadId p.2 _ _ _ (rangeAt_enc.1 (pairBox (block_below hbox y.2))).2
          simp only [Nat.zero_add] at this
          exact this
        have A1 : ∀ W, (Op.stringOp .add (hexS p.1) ⟨#[32]⟩).run Tryd.prog W = .ok (.string (strOf (hexL p.1.1 ++ [32]))) W := fun W => Go.run_string_add_lists (P := Tryd.prog) W (hexL p.1.1) [32] (by rw [hexL_len, p.1.2]; omega) (by decide)
        have A2 : ∀ W, (Op.stringOp .add (strOf (hexL p.1.1 ++ [32])) (hexS p.2)).run Tryd.prog W = .ok (.string (strOf (hexL p.1.1 ++ [32] ++ hexL p.2.1))) W := fun W => Go.run_string_add_lists (P := Tryd.prog) W (hexL p.1.1 ++ [32]) (hexL p.2.1) (by rw [List.length_append, hexL_len, p.1.2]; decide) (by rw [hexL_len, p.2.2]; omega)
        have A3 : ∀ W, (Op.stringOp .add (strOf (hexL p.1.1 ++ [32] ++ hexL p.2.1)) ⟨#[10]⟩).run Tryd.prog W = .ok (.string (strOf (lineL p))) W := fun W => Go.run_string_add_lists (P := Tryd.prog) W (hexL p.1.1 ++ [32] ++ hexL p.2.1) [10] (by rw [List.length_append, List.length_append, hexL_len, hexL_len, p.1.2, p.2.2]; decide) (by decide)
        have CX := fun W => hex_any p.1 W
        have CY := fun W => hex_any p.2 W
        have HLN := Lib.hid (show (strOf (lineL p)).size = 82 ∧ (strOf (lineL p)).data.toList = lineL p by rw [strOf_size, lineL_len]; exact ⟨rfl, rfl⟩)
        have H5 := Lib.hid (And.intro bl5 hb5)
        obtain ⟨T4, hT4⟩ : ∃ T, T = strOf (lineL p) := ⟨_, rfl⟩
        have HT4 := Lib.hid hT4
        rw [← hT4] at A3
        generalize strOf (hexL p.1.1 ++ [32] ++ hexL p.2.1) = T3 at *
        generalize strOf (hexL p.1.1 ++ [32]) = T2 at *
        generalize hexS p.1 = T1 at *
        generalize hexS p.2 = T5 at *
        generalize idA p.1 = V1 at *
        generalize idA p.2 = V2 at *
        clear bl5 hb5 hbox gA hX hT4
        refine wp_region_mix [(0, 0), (1, 0), (2, 0), (3, 0), (4, 0), (5, 0), (6, 0), (7, 0), (8, 0), (9, 2)] (by kernel_rfl) (by kernel_rfl) ?_
        (refine mix_calm rfl (fun K hK => ?_); go_simp; (refine hK _ ?_; clear hK K))
        refine mix_load rfl rfl _ _ rfl _ _ rfl LA ?_
        refine mix_calm rfl (fun K hK => ?_)
        go_simp
        apply Exists.intro
        refine ⟨fun y => CX y.1, hK _ ?_⟩
        clear hK K
        iterate 2 (refine mix_calm rfl (fun K hK => ?_); go_simp; (refine hK _ ?_; clear hK K))
        refine mix_load rfl rfl _ _ rfl _ _ rfl LB ?_
        refine mix_calm rfl (fun K hK => ?_)
        go_simp
        apply Exists.intro
        refine ⟨fun y => CY y.1, hK _ ?_⟩
        clear hK K
        iterate 2 (refine mix_calm rfl (fun K hK => ?_); go_simp; (refine hK _ ?_; clear hK K))
        refine mix_sync rfl rfl (fun w8 hw8 K hK => ?_)
        have bl8 := H5.out.1.later hw8
        have hb8 := H5.out.2.trans (Below.mono hw8 H5.out.2.size)
        have C9 := bld_str B B acc T4 w8 bl8 (by rw [HT4.out, HLN.out.1]; have := HACC.out; omega) (Nat.le_of_lt (bl8.elim (·.lt) (·.lt)))
        rw [HT4.out, HLN.out.1, ← HT4.out] at C9
        have HB8 := Lib.hid hb8
        clear bl8 hb8 hw8 LA LB A1 A2 A3 CX CY
        go_wp2_with fail
        refine C9.mono ?_
        rintro e w9 ⟨rfl, bl9, hb9⟩
        rw [HT4.out, HLN.out.2, HPP.out, ← HS.out] at bl9
        have HB9 := Lib.hid (HB8.out.trans (hb9.mono hBw))
        clear C9 hb9
        go_wp2_with fail
        refine mix_nil fun w10 hw10 => ?_
        have bl10 := bl9.later hw10
        have HB10 := Lib.hid (HB9.out.trans (Below.mono hw10 HB9.out.size))
        clear bl9 hw10
        go_wp2_with fail
        go_roundw
        case rel => exact ⟨i + 1, by go_num, by omega, bl10, HB10.out⟩
        case measure => simp [intOf]; omega
      · obtain rfl : i = n := by omega
        have t1 : decide ((i : Int) < (i : Int)) = false := decide_eq_false (by omega)
        have t1' : decide (i < i) = false := decide_eq_false (by omega)
        have et : l.take i = l := by rw [HN.out]; exact List.take_of_length_le (Nat.le_refl _)
        rw [et] at hbl
        have C := Tryd.Builder_String_any B B (textL l) wr hbl (Nat.le_of_lt (hbl.elim (·.lt) (·.lt)))
        have HB := Lib.hid hb
        change Calls _ _ _ _ (fun e w' => e = .returned (.string (strOf (textL l))) ∧ Below B wr w') at C
        have hs : (strOf (textL l)).size = 82 * i := by rw [strOf_size, textL_len, HN.out]
        have hd : (strOf (textL l)).data.toList = textL l := rfl
        have HSD := Lib.hid (And.intro hs hd)
        obtain ⟨T, hT⟩ : ∃ T, T = strOf (textL l) := ⟨_, rfl⟩
        have HT := Lib.hid hT
        rw [← hT] at C
        clear hb hbl et hs hd hT
        go_wp2_with fail
        refine C.mono ?_
        rintro e w11 ⟨rfl, hb11⟩
        obtain ⟨c12, w12, hrun, hsl, hb12⟩ := bytes_made w11 T (by rw [HT.out, HSD.out.1]; omega)
        rw [HT.out, HSD.out.1, ← HT.out] at hrun
        rw [HT.out, HSD.out.2] at hsl
        have HB11 := Lib.hid (HB.out.trans (hb11.mono hBw))
        have HSL := Lib.hid (And.intro hsl hb12)
        clear C hb11 hsl hb12
        go_wp2_with fail
        go_ret2
        refine ⟨fun _ => ⟨_, _, rfl, HSL.out.1, fun x hx => ?_⟩, fun h => absurd HY.out h, HB11.out.trans (HSL.out.2.mono HB11.out.size)⟩
        injection hx with hx
        rw [← hx]
        exact HB11.out.size
end Go.Proofs.YtnlkanhakmkejaaDoor
