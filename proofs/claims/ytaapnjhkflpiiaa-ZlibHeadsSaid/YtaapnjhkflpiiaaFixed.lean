/-
  The walk of fixed of package deflate.
-/
import Derived.Test.YtaapnjhkflpiiaaFixedPure
import Derived.Test.YtaapnjhkflpiiaaStored
import Derived.Maps.OwnSet
import Derived.Maps.OwnOps
import Derived.WideKeyArr2
import Derived.Deep.QuietTactic
import Derived.BigQuiet
import Derived.WalkSmall
import Derived.Deep.CutRange
import Derived.Laws.Cover3
namespace Go.Proofs.Ytaapnjhkflpiiaa
open Go.RowKit Go.Mix Go.Maps Go.WideMaps

theorem keyArr : ArrKey Try.prog 83 5 3 := ⟨Try.underlying83, by kernel_rfl, by kernel_rfl, by kernel_rfl⟩
theorem keyLaw : Keyed Try.prog 83 := Keyed.of_law keyArr.law

theorem mapM_all {α β : Type} (f : α → Option β) (g : α → β) : ∀ l : List α, (∀ x ∈ l, f x = some (g x)) → l.mapM f = some (l.map g)
  | [], _ => rfl
  | x :: l, h => by
    rw [List.mapM_cons, h x (by simp), mapM_all f g l (fun y hy => h y (by simp [hy]))]
    rfl

/-- What an array of bytes reads as, as a map's key. -/
theorem key_of_bytes {P : Program} {k e n : Nat} (A : ArrKey P k e n) (he : P.underlying e = some (.int .u8)) (hsz : ∃ m, P.types.size = m + 1) (l : List UInt8) (hl : l.length = n) : keyOf P k (.agg (bcells l).toArray) = some (.string l) := by
  have hkt := A.keyType hsz
  obtain ⟨m, hm⟩ := hsz
  have hsize := A.size
  have hone := A.one
  unfold keyOf
  rw [A.hu]
  have hf : Value.formed P k (.agg (bcells l).toArray) = true := by
    unfold Value.formed
    rw [A.hu]
    simp [hsize, bcells_length, hl]
  simp only [hkt, hf, Bool.and_self, if_true, hm]
  have hc : (Value.cells (.agg (bcells l).toArray)).toList = bcells l := by simp [Value.cells]
  rw [hc]
  unfold Program.keyLits
  rw [A.hu]
  simp only [hsize, bcells_length, hl, if_true, hone]
  rw [mapM_all (g := fun i => [Lit.int .u8 ((l.getD i 0).toNat : Int)])]
  · simp only [Option.map_some]
    congr 2
    subst hl
    unfold keyBytes
    have e2 : ((List.range l.length).map fun i => [Lit.int .u8 ((l.getD i 0).toNat : Int)]).flatten = (List.range l.length).map fun i => Lit.int .u8 ((l.getD i 0).toNat : Int) := by
      generalize List.range l.length = r
      induction r with
      | nil => rfl
      | cons x r ih => simp only [List.map_cons, List.flatten_cons, ih]; rfl
    have e1 : ((List.range l.length).map fun i => [Lit.int .u8 ((l.getD i 0).toNat : Int)]).flatten = l.map fun x => Lit.int .u8 (x.toNat : Int) := by
      rw [e2]
      refine List.ext_getElem (by simp) fun j h1 h2 => ?_
      simp at h2
      simp [h2]
    rw [e1]
    clear e1 e2 hc hf hsize hkt A
    induction l with
    | nil => rfl
    | cons x l ih =>
      simp only [List.map_cons, List.flatMap_cons]
      rw [ih]
      have hx : Lit.keyBytes (.int .u8 (x.toNat : Int)) = [x] := by
        have h := x.toNat_lt
        have e3 : ((x.toNat : Int) % 2 ^ IntKind.u8.bits).toNat = x.toNat := by
          show ((x.toNat : Int) % 256).toNat = x.toNat
          omega
        show bytesBE (IntKind.u8.bits / 8) ((x.toNat : Int) % 2 ^ IntKind.u8.bits).toNat = [x]
        rw [e3]
        show bytesBE 1 x.toNat = [x]
        simp [bytesBE, bytesLE]
      rw [hx]; rfl
  · intro i hi
    have hi' : i < l.length := by simpa [hl] using hi
    have e1 : ((bcells l).drop (i * 1)).take 1 = [Value.int .u8 (l[i].toNat : Int)] := by
      rw [Nat.mul_one, List.drop_eq_getElem_cons (by rw [bcells_length]; exact hi')]
      simp [bcells]
    rw [e1]
    unfold Program.keyLits
    rw [he]
    have hw : (Lit.int .u8 (l[i].toNat : Int)).wf = true := by
      have h := l[i].toNat_lt
      simp [Lit.wf, IntKind.min, IntKind.max, IntKind.signed, IntKind.bits]
      omega
    simp [hw, hi']

/-- What the map of what was seen holds. -/
def SeenIs (D : DataW Unit) (b : List UInt8) (n : Nat) : Prop :=
  IsMap D ∧ ∀ key : List UInt8, Maps.has D (.string key) = (lastSeen b key n).isSome ∧ ∀ p, lastSeen b key n = some p → D.atKey (.string key) (.lit (.int .i64 0)) = .lit (.int .i64 (p : Int))

theorem seen_start (b : List UInt8) : SeenIs (.map []) b 0 := ⟨isMap_empty, fun key => ⟨rfl, fun p h => by simp [lastSeen] at h⟩⟩

theorem isKeyStr (l : List UInt8) : WideAt.IsKeyLit (.string l) := trivial

theorem seen_put {D : DataW Unit} {b : List UInt8} {n : Nat} (h : SeenIs D b n) (h3 : n + 3 ≤ b.length) (key : List UInt8) (hkey : key = (b.drop n).take 3) : SeenIs (D.put (.string key) (.lit (.int .i64 (n : Int)))) b (n + 1) := by
  subst hkey
  refine ⟨h.1.put _ _, fun k => ?_⟩
  by_cases hk : k = (b.drop n).take 3
  · subst hk
    rw [lastSeen, if_pos ⟨h3, rfl⟩]
    refine ⟨by rw [has_put_same h.1 (isKeyStr _)]; rfl, fun p hp => ?_⟩
    injection hp with hp
    subst hp
    exact atKey_put_same h.1 (isKeyStr _) _ _
  · rw [lastSeen, if_neg (fun h => hk h.2.symm)]
    have hne : (Lit.string k) ≠ .string ((b.drop n).take 3) := fun e => hk (by injection e)
    refine ⟨by rw [has_put_other hne]; exact (h.2 k).1, fun p hp => ?_⟩
    rw [atKey_put_other hne]
    exact (h.2 k).2 p hp

theorem seen_skip {D : DataW Unit} {b : List UInt8} {n : Nat} (h : SeenIs D b n) (h3 : ¬ n + 3 ≤ b.length) : SeenIs D b (n + 1) := by
  refine ⟨h.1, fun k => ?_⟩
  rw [lastSeen, if_neg (fun h => h3 h.1)]
  exact h.2 k

theorem lit_int_inj {a b : Int} (h : (DataW.lit (.int .i64 a) : DataW Unit) = .lit (.int .i64 b)) : a = b := by
  injection h with h
  injection h

theorem zeroI (w : World) : (zeroValue 3).run Try.prog w = .ok (.int .i64 0) w := by kernel_rfl

/-- Three bytes at a place: as the walk comes to them. -/
theorem three_at {w : World} {a : Option Addr} {cap : Nat} {b : List UInt8} (hs : Sl w a cap b) (n : Nat) (h3 : n + 3 ≤ b.length) :
    ∃ (bb off : Nat) (x y z : UInt8), (b.drop n).take 3 = [x, y, z] ∧
      (∀ w : World, (Instr.slice 22 (.slice a b.length cap) (some (.int .i64 (n : Int))) none none).run Try.prog w = .ok (.slice (some ⟨bb, off, none⟩) (b.length - n) (cap - n)) w) ∧
      (∀ w : World, (Instr.arrayAt 83 (.slice (some ⟨bb, off, none⟩) (b.length - n) (cap - n))).run Try.prog w = .ok (.pointer (some ⟨bb, off, none⟩)) w) ∧
      w.cell? ⟨bb, off, none⟩ = some (.int .u8 (x.toNat : Int)) ∧ w.cell? ⟨bb, off + 1, none⟩ = some (.int .u8 (y.toNat : Int)) ∧ w.cell? ⟨bb, off + 2, none⟩ = some (.int .u8 (z.toNat : Int)) := by
  have hle := hs.le
  obtain ⟨bb, off, rfl, hc⟩ : ∃ bb off, a = some ⟨bb, off, none⟩ ∧ ∀ j (h : j < b.length), w.cell? ⟨bb, off + j, none⟩ = some (.int .u8 (b[j].toNat : Int)) := by
    rcases hs.bs with rfl | h
    · simp at h3
    · exact h
  refine ⟨bb, off + n, b[n], b[n + 1], b[n + 2], ?_, fun w => ?_, fun w => run_arrayAt w _ 5 3 _ _ _ Try.underlying83 (by omega), hc n (by omega), ?_, ?_⟩
  · rw [List.drop_eq_getElem_cons (by omega), List.drop_eq_getElem_cons (by omega), List.drop_eq_getElem_cons (by omega)]; rfl
  · have h := run_slice_from (P := Try.prog) 22 Try.underlying22 sizeOf_u8 (some ⟨bb, off, none⟩) b.length cap n (by omega) w
    have e : subAt (some ⟨bb, off, none⟩) cap n = some ⟨bb, off + n, none⟩ := by
      unfold subAt; rw [if_neg (by omega)]; unfold Addr.add; by_cases h0 : n = 0 <;> simp [h0]
    rw [e] at h; exact h
  · rw [Nat.add_assoc]; exact hc (n + 1) (by omega)
  · rw [Nat.add_assoc]; exact hc (n + 2) (by omega)

abbrev SeenAt (w : World) (MB n : Nat) (D : DataW Unit) : Prop := w.ownsMap Try.prog 83 (plainElem Try.prog 3) MB n D

theorem SeenAt.same {w w' : World} {MB n : Nat} {D : DataW Unit} (h : SeenAt w MB n D) (e : w'.heap[MB]? = w.heap[MB]?) : SeenAt w' MB n D := by
  obtain ⟨es, clock, hb, F, hs, hD⟩ := h
  exact ⟨es, clock, e.trans hb, F, hs, hD⟩
theorem SeenAt.later {w w' : World} {MB n : Nat} {D : DataW Unit} (h : SeenAt w MB n D) (g : Below w.heap.size w w') : SeenAt w' MB n D := h.same (g.block MB (World.ownsMap.lt h))

theorem BitsAt.later {S : Nat → Prop} {w0 w w' : World} {P : Nat} {bs : List Nat} (h : BitsAt S w0 w P bs) (g : Below w.heap.size w w') : BitsAt S w0 w' P bs := by
  obtain ⟨v, h1, h2, h3⟩ := h
  exact ⟨v, block_below h1 g, h2.later g, h3⟩

theorem BitsAt.sl {w x : World} {P : Nat} {bs : List Nat} (h : BitsAt (· < w.heap.size) w x P bs) {a : Option Addr} {cap : Nat} {b : List UInt8} (hs : Sl w a cap b) : Sl x a cap b := by
  obtain ⟨v, _, h, _⟩ := h
  exact hs.below (h.frame.toBelow (fun k hk => hk))

theorem map_ne {w : World} {MB n P : Nat} {D : DataW Unit} {C : Array Value} {e : TypeId} {fr : Nat × Nat} (h : SeenAt w MB n D) (hP : w.heap[P]? = some (.cells C e fr)) : P ≠ MB := by
  rintro rfl
  obtain ⟨es, clock, hb, _⟩ := h
  rw [hb] at hP; cases hP

theorem row_ne_map {S : Nat → Prop} {w0 w : World} {v : Value} {xs : List Value} {e : TypeId} {MB n : Nat} {D : DataW Unit} (h : SeenAt w MB n D) (hR : Row S e w0 w v xs) : v.ownBlock ≠ some MB := by
  rcases hR.own.2 with ⟨rfl, _⟩ | ⟨g, cap, cur, rfl, _, hg, _⟩
  · simp [Value.ownBlock]
  · simp [Value.ownBlock]
    exact map_ne h hg

/-- The map held fast while bits are put. -/
theorem BitsAt.hold {B : Nat} {w wr : World} {P : Nat} {bs : List Nat} {MB n : Nat} {D : DataW Unit} (h : BitsAt (· < B) w wr P bs) (hm : SeenAt wr MB n D) : BitsAt (fun k => k < B ∨ k = MB) wr wr P bs := by
  obtain ⟨v, h1, h2, h3⟩ := h
  refine ⟨v, h1, h2.rebase (FrameS.refl ?_) ?_, ?_⟩
  · rintro k (hk | rfl)
    · exact h2.frame.lt hk
    · exact World.ownsMap.lt hm
  · rintro g hg (hk | rfl)
    · exact h2.off g hg hk
    · exact row_ne_map hm h2 hg
  · rintro (hk | hk)
    · exact h3 hk
    · exact map_ne hm h1 hk

theorem BitsAt.back {B : Nat} {w wr w' : World} {P : Nat} {bs cs : List Nat} {MB n : Nat} {D : DataW Unit} (h : BitsAt (fun k => k < B ∨ k = MB) wr w' P cs) (h0 : BitsAt (· < B) w wr P bs) (hm : SeenAt wr MB n D) : BitsAt (· < B) w w' P cs ∧ SeenAt w' MB n D := by
  obtain ⟨v, h1, h2, h3⟩ := h
  obtain ⟨_, _, k2, _⟩ := h0
  exact ⟨⟨v, h1, h2.rebase (k2.frame.trans (h2.frame.sub fun k hk => .inl hk)) (fun g hg hk => h2.off g hg (.inl hk)), fun hk => h3 (.inl hk)⟩, hm.same (h2.frame.keep MB (.inr rfl)).2⟩

/-- Bits while the map is written. -/
theorem BitsAt.past {B : Nat} {w wr w' : World} {P : Nat} {bs : List Nat} {MB n : Nat} {D : DataW Unit} (h : BitsAt (· < B) w wr P bs) (hm : SeenAt wr MB n D) (g : wr.grownBy w' (some MB)) (hB : B ≤ MB) : BitsAt (· < B) w w' P bs := by
  obtain ⟨v, h1, h2, h3⟩ := h
  exact ⟨v, (g.block P (lt_of_block h1) (by simp; exact map_ne hm h1)).trans h1, h2.kept g (.inr (row_ne_map hm h2)) (fun k hk => by injection hk; omega), h3⟩

set_option maxRecDepth 100000 in
set_option maxHeartbeats 4000000 in
theorem fixed_sl (a : Option Addr) (cap : Nat) (b : List UInt8) (w : World) (hs : Sl w a cap b) (hl : b.length ≤ 1000000) :
    Calls Try.prog 33 #[.slice a b.length cap] w fun e w' => ∃ v, e = .returned v ∧ RowB (· < w.heap.size) w w' v (fixedOf b) := by
  have hmm := @run_makeMap Try.prog
  have HX := Lib.hid (show fixedBits b = numBits 3 3 ++ fixedGo b (b.length + 1) 0 ++ signBits 256 from rfl)
  obtain ⟨X, hX⟩ : ∃ X, X = numBits 3 3 ++ fixedGo b (b.length + 1) 0 := ⟨_, rfl⟩
  rw [← hX] at HX
  have HX0 := Lib.hid hX
  clear hX
  go_enter Try.func33, Try.ntmps33
  go_wp2_with fail
  have hb0 : BitsAt (· < w.heap.size) w (w.alloc (.cells #[.slice none 0 0, .int .i64 0] 79)) w.heap.size [] :=
    ⟨.slice none 0 0, heap_alloc_last _ _ _ rfl, Row.nil ((FrameS.refl (fun k hk => hk)).below ((Below.refl _ _).alloc (Nat.le_refl _) _)), by omega⟩
  refine Calls.mono (number_any (· < w.heap.size) w.heap.size w [] 3 3 _ _ _ rfl rfl (by decide) (by decide) (by intro x h; cases h) hb0 (by decide)) ?_
  rintro e w1 ⟨rfl, hb1⟩
  rw [List.nil_append] at hb1
  have hb2 := hb1.later (w' := w1.alloc (.map #[] 0)) ((Below.refl _ _).alloc (Nat.le_refl _) _)
  have hm2 : SeenAt (w1.alloc (.map #[] 0)) w1.heap.size 0 (.map []) := World.ownsMap_made _ _ _ _
  have hBM : w.heap.size ≤ w1.heap.size := by obtain ⟨v, _, h, _⟩ := hb1; exact h.frame.size
  clear hb0 hb1
  go_wp2_with fail
  obtain ⟨P, hP⟩ : ∃ P, P = w.heap.size := ⟨_, rfl⟩
  obtain ⟨MB, hMB⟩ : ∃ MB, MB = w1.heap.size := ⟨_, rfl⟩
  rw [← hMB] at hm2 hBM ⊢
  clear hMB
  clear hP
  go_loopw [5] (fun i wr => ∃ (n f : Nat) (bs : List Nat) (D : DataW Unit), i = .int .i64 n ∧ n ≤ b.length ∧ b.length < n + f ∧ bs ++ fixedGo b f n = X ∧ IsBits bs ∧ bs.length ≤ 60 * n + 10 ∧ BitsAt (· < w.heap.size) w wr w.heap.size bs ∧ SeenAt wr MB n D ∧ SeenIs D b n) (fun i _ => b.length - (intOf i).toNat)
  case atStart => exact ⟨0, b.length + 1, numBits 3 3, .map [], rfl, by omega, by omega, HX0.out.symm, numBits_isBits _ _, by rw [numBits_len]; omega, hb2, hm2, seen_start b⟩
  case round =>
    clear hb2 hm2
    obtain ⟨n, f, bs, D, rfl, hn, hf, hgo, hbits, hbl, hbs, hm, hD⟩ := hrel
    by_cases hnl : n < b.length
    · have ht : decide (n < b.length) = true := decide_eq_true hnl
      obtain ⟨f, rfl⟩ : ∃ g, f = g + 1 := ⟨f - 1, by omega⟩
      rw [fixedGo, if_pos hnl] at hgo
      obtain ⟨agb1, agb2, agb3⟩ := again_bounds b n
      have age := again_end b n
      have hsr := hbs.sl hs
      have HAG := Lib.hid (show again b n = ((again b n).1, (again b n).2) from rfl)
      have HGO := Lib.hid hgo
      clear hgo
      generalize hq : (again b n).1 = q at *
      generalize hbk : (again b n).2 = bk at *
      clear hq hbk
      obtain ⟨wo, rfl⟩ : ∃ wo : World, wo = wr := ⟨_, rfl⟩
      go_upto_if 24 with (fail)
      go_cut [6, 7, 8, 9] from 16 to 105 (fun s6 s7 s8 s9 wc => s6 = .int .i64 (q : Int) ∧ (3 ≤ q → s7 = .int .i64 (bk : Int)) ∧ Below wo.heap.size wo wc)
      case first =>
        by_cases h3 : n + 3 ≤ b.length
        · have ht3 : decide ((n : Int) + 3 ≤ (b.length : Int)) = true := decide_eq_true (by omega)
          obtain ⟨bb, off, x, y, z, hxyz, hsl, har, c0, c1, c2⟩ := three_at hsr n h3
          have hDk := hD.2 [x, y, z]
          have hag := HAG.out
          unfold again at hag
          rw [if_pos h3, hxyz] at hag
          cases hls : lastSeen b [x, y, z] n with
          | none =>
            rw [hls] at hag hDk
            simp only [Prod.mk.injEq] at hag
            obtain ⟨h0, h1⟩ := hag
            subst h0 h1
            have hhas : Maps.has D (.string [x, y, z]) = false := hDk.1
            clear hDk hls hxyz
            go_wp2_with (at_lookup; refine wpList_lookup_own_ok_int _ rfl _ _ 81 rfl 83 3 .i64 keyLaw Try.underlying81 Try.underlying3 (zeroI _) MB n D rfl hm _ _ rfl (key_of_bytes keyArr Try.underlying5 ⟨_, rfl⟩ [x, y, z] rfl) ?_; intro c hat hwc)
            go_meet
            exact ⟨rfl, fun h => by omega, Below.refl _ _⟩
          | some was =>
            rw [hls] at hag hDk
            have hhas : Maps.has D (.string [x, y, z]) = true := hDk.1
            have HVAL := Lib.hid (hDk.2 was rfl)
            have hwn := lastSeen_lt _ _ _ _ hls
            clear hDk hls hxyz
            by_cases hd : n - was ≤ 32768
            · have htd : decide ((n : Int) - (was : Int) ≤ 32768) = true := decide_eq_true (by omega)
              simp only [if_pos hd, Prod.mk.injEq] at hag
              obtain ⟨hq, hk2⟩ := hag
              have HQ := Lib.hid hq
              have HK2 := Lib.hid hk2
              clear hq hk2 hd
              go_wp2_with (at_lookup; refine wpList_lookup_own_ok_int _ rfl _ _ 81 rfl 83 3 .i64 keyLaw Try.underlying81 Try.underlying3 (zeroI _) MB n D rfl hm _ _ rfl (key_of_bytes keyArr Try.underlying5 ⟨_, rfl⟩ [x, y, z] rfl) ?_; intro c hat hwc; have hc := lit_int_inj (hat.symm.trans HVAL.out); clear hat hwc; subst hc)
              go_loopw [6] (fun s6 wx => ∃ k : Nat, s6 = .int .i64 (k : Int) ∧ k ≤ 258 ∧ min 258 (k + comF (b.drop (was + k)) (b.drop (n + k))) = q ∧ Below wo.heap.size wo wx) (fun s _ => 258 - (intOf s).toNat)
              case atStart => exact ⟨0, rfl, by omega, by rw [← HQ.out]; simp, Below.refl _ _⟩
              case round =>
                obtain ⟨k, rfl, hk, hmin, gw⟩ := hrel
                obtain ⟨T, hT⟩ : ∃ T : Bool, T = decide (k < 258 ∧ comF (b.drop (was + k)) (b.drop (n + k)) ≠ 0) := ⟨_, rfl⟩
                have hcom := com_at b (was + k) (n + k)
                have HT := Lib.hid hT
                have HMIN := Lib.hid hmin
                clear hT hmin
                have hsr9 := hsr.below gw
                go_upto_region 11 with (fail)
                go_cut [69] from 45 to 71 (fun t wx => t = .bool T ∧ Below wo.heap.size wo wx)
                case first =>
                  have hT := HT.out
                  by_cases h258 : k < 258
                  · have t1 : decide ((k : Int) < 258) = true := decide_eq_true (by omega)
                    have w1 := Lib.hid (show IntKind.i64.wrap ((n : Int) + (k : Int)) = (n : Int) + (k : Int) from IntWalk.i64_in _ (by omega))
                    have w2 := Lib.hid (show IntKind.i64.wrap ((was : Int) + (k : Int)) = (was : Int) + (k : Int) from IntWalk.i64_in _ (by omega))
                    by_cases hlen : n + k < b.length
                    · have t2 : decide ((n : Int) + (k : Int) < (b.length : Int)) = true := decide_eq_true (by omega)
                      obtain ⟨i1, c1'⟩ := hsr9.at ((was : Int) + (k : Int)) (was + k) (by omega) (by omega)
                      obtain ⟨i2, c2'⟩ := hsr9.at ((n : Int) + (k : Int)) (n + k) (by omega) hlen
                      rw [dif_pos ⟨by omega, hlen⟩] at hcom
                      generalize b[was + k] = x' at *
                      generalize b[n + k] = y' at *
                      have hxy : ((x'.toNat : Int) == (y'.toNat : Int)) = T := by
                        rw [hT, hcom, Bool.eq_iff_iff]
                        simp [h258]
                        constructor
                        · intro h; have : x' = y' := UInt8.toNat_inj.1 (by omega)
                          simp [this]
                        · intro h; by_cases e : x' = y'
                          · rw [e]
                          · simp [e] at h
                      clear hT hcom
                      have w1' := w1.out
                      have w2' := w2.out
                      go_quiet (fail)
                      go_wp2_with fail
                      go_meet
                      exact ⟨rfl, below_drewN gw _⟩
                    · have t2 : decide ((n : Int) + (k : Int) < (b.length : Int)) = false := decide_eq_false (by omega)
                      rw [dif_neg (by omega)] at hcom
                      have hTf : T = false := by rw [hT, hcom]; simp
                      subst hTf
                      clear hT hcom
                      have w1' := w1.out
                      go_quiet (fail)
                      go_wp2_with fail
                      go_meet
                      exact ⟨rfl, below_drewN gw _⟩
                  · have t1 : decide ((k : Int) < 258) = false := decide_eq_false (by omega)
                    have hTf : T = false := by rw [hT]; simp [h258]
                    subst hTf
                    clear hT hcom
                    go_quiet (fail)
                    go_wp2_with fail
                    go_meet
                    exact ⟨rfl, below_drewN gw _⟩
                case rest =>
                  obtain ⟨rfl, gw2⟩ := hcut
                  cases T with
                  | true =>
                    have hT := HT.out
                    have hT2 : k < 258 ∧ comF (b.drop (was + k)) (b.drop (n + k)) ≠ 0 := by simpa using hT.symm
                    have hm3 : min 258 (k + 1 + comF (b.drop (was + (k + 1))) (b.drop (n + (k + 1)))) = q := by
                      rw [← HMIN.out]
                      have h5 := hT2.2
                      rw [hcom] at h5 ⊢
                      split at h5
                      · rename_i h6
                        rw [dif_pos h6]
                        split at h5
                        · rename_i h7
                          rw [if_pos h7, show was + (k + 1) = was + k + 1 from rfl, show n + (k + 1) = n + k + 1 from rfl]
                          congr 1; omega
                        · exact absurd rfl h5
                      · exact absurd rfl h5
                    have HM3 := Lib.hid hm3
                    obtain ⟨hk258, -⟩ := hT2
                    clear hT hm3 hcom
                    go_wp2_with fail
                    go_roundw
                    case rel => exact ⟨k + 1, by go_num, by omega, HM3.out, gw2⟩
                    case measure => simp [intOf]; omega
                  | false =>
                    have hkq : q = k := by
                      have h5 := HT.out
                      rw [← HMIN.out]
                      have h6 : ¬ (k < 258 ∧ comF (b.drop (was + k)) (b.drop (n + k)) ≠ 0) := by simpa using h5.symm
                      omega
                    have HKQ := Lib.hid hkq
                    clear hkq hcom
                    go_wp2_with fail
                    go_meet
                    exact ⟨by rw [HKQ.out], fun _ => by rw [← HK2.out]; go_num, gw2⟩
            · have htd : decide ((n : Int) - (was : Int) ≤ 32768) = false := decide_eq_false (by omega)
              simp only [if_neg hd, Prod.mk.injEq] at hag
              obtain ⟨h0, h1⟩ := hag
              subst h0 h1
              clear hd
              go_wp2_with (at_lookup; refine wpList_lookup_own_ok_int _ rfl _ _ 81 rfl 83 3 .i64 keyLaw Try.underlying81 Try.underlying3 (zeroI _) MB n D rfl hm _ _ rfl (key_of_bytes keyArr Try.underlying5 ⟨_, rfl⟩ [x, y, z] rfl) ?_; intro c hat hwc; have hc := lit_int_inj (hat.symm.trans HVAL.out); clear hat hwc; subst hc)
              go_meet
              exact ⟨rfl, fun h => by omega, Below.refl _ _⟩
        · have ht3 : decide ((n : Int) + 3 ≤ (b.length : Int)) = false := decide_eq_false (by omega)
          have hag := HAG.out
          unfold again at hag
          rw [if_neg h3] at hag
          simp only [Prod.mk.injEq] at hag
          obtain ⟨h0, h1⟩ := hag
          subst h0 h1
          go_wp2_with fail
          go_meet
          exact ⟨rfl, fun h => by omega, Below.refl _ _⟩
      case rest =>
        obtain ⟨rfl, hbk7, gwc⟩ := hcut
        have hbs2 := hbs.later gwc
        have hm2 := hm.later gwc
        have hsr2 := hsr.below gwc
        clear hbs hm hsr gwc
        go_upto_if 73 with (fail)
        go_cut [10] from 16 to 105 (fun s10 wc => ∃ (st : Nat) (cs : List Nat), s10 = .int .i64 (st : Int) ∧ 1 ≤ st ∧ n + st ≤ b.length ∧ cs ++ fixedGo b f (n + st) = X ∧ IsBits cs ∧ cs.length ≤ 60 * (n + st) + 10 ∧ BitsAt (· < w.heap.size) w wc w.heap.size cs ∧ SeenAt wc MB n D)
        case first =>
          by_cases hq3 : 3 ≤ q
          · obtain rfl := hbk7 hq3
            have ht3 : decide (3 ≤ (q : Int)) = true := decide_eq_true (by omega)
            have hg := HGO.out
            rw [if_pos hq3] at hg
            have HG := Lib.hid hg
            have ll := lengthBits_len q agb1
            have dl := distBits_len bk agb2
            clear hg HGO HAG
            go_wp2_with fail
            refine Calls.mono (length_any _ w.heap.size _ bs q _ _ rfl hq3 agb1 hbits (hbs2.hold hm2) (by omega)) ?_
            rintro e w3 ⟨rfl, h3⟩
            obtain ⟨hbs3, hm3⟩ := h3.back hbs2 hm2
            clear h3 hbs2 hm2 hsr2
            go_wp2_with fail
            refine Calls.mono (distance_any _ w.heap.size _ _ bk _ _ rfl (by omega) agb2 (hbits.app (lengthBits_isBits q)) (hbs3.hold hm3) (by rw [List.length_append]; omega)) ?_
            rintro e w4 ⟨rfl, h4⟩
            obtain ⟨hbs4, hm4⟩ := h4.back hbs3 hm3
            clear h4 hbs3 hm3
            go_wp2_with fail
            go_meet
            exact ⟨q, _, rfl, by omega, by omega, by rw [← HG.out]; simp, (hbits.app (lengthBits_isBits q)).app (distBits_isBits bk), by simp only [List.length_append]; omega, hbs4, hm4⟩
          · have ht3 : decide (3 ≤ (q : Int)) = false := decide_eq_false (by omega)
            have hg := HGO.out
            rw [if_neg hq3] at hg
            obtain ⟨IK, IC⟩ := hsr2.at (n : Int) n rfl hnl
            have eg : b.getD n 0 = b[n] := by rw [List.getD_eq_getElem?_getD, List.getElem?_eq_getElem hnl]; rfl
            rw [eg] at hg
            have h8 := b[n].toNat_lt
            generalize b[n] = x at *
            have HG := Lib.hid hg
            have sl := signBits_len x.toNat
            clear hg HGO HAG eg
            go_wp2_with fail
            refine Calls.mono (sign_any _ w.heap.size _ bs x.toNat _ _ (by first | rfl | simp) (by omega) hbits (hbs2.hold hm2) (by omega)) ?_
            rintro e w3 ⟨rfl, h3⟩
            obtain ⟨hbs3, hm3⟩ := h3.back hbs2 hm2
            clear h3 hbs2 hm2 hsr2
            go_wp2_with fail
            go_meet
            exact ⟨1, _, rfl, by omega, by omega, by rw [← HG.out]; simp, hbits.app (signBits_isBits _), by simp only [List.length_append]; omega, hbs3, hm3⟩
        case rest =>
          obtain ⟨st, cs, rfl, hst1, hst2, hgo2, hcs, hcl, hb3, hm3⟩ := hcut
          have HGO2 := Lib.hid hgo2
          clear hbs2 hm2 hsr2 hgo2 HGO HAG hbk7
          obtain ⟨wp, rfl⟩ : ∃ wp : World, wp = wc := ⟨_, rfl⟩
          go_wp2_with fail
          go_loopw [5, 89] (fun i j wx => ∃ (k : Nat) (E : DataW Unit), i = .int .i64 ((n + k : Nat) : Int) ∧ j = .int .i64 (k : Int) ∧ k ≤ st ∧ BitsAt (· < w.heap.size) w wx w.heap.size cs ∧ SeenAt wx MB (n + k) E ∧ SeenIs E b (n + k)) (fun _ j _ => st - (intOf j).toNat)
          case atStart => exact ⟨0, D, rfl, rfl, by omega, hb3, hm3, hD⟩
          case round =>
            clear hb3 hm3 hD
            obtain ⟨k, E, rfl, rfl, hk, hb3, hm3, hE⟩ := hrel
            by_cases hks : k < st
            · have htk : decide ((k : Int) < (st : Int)) = true := decide_eq_true (by omega)
              obtain ⟨m, hmk⟩ : ∃ m, m = n + k := ⟨_, rfl⟩
              rw [← hmk] at hm3 hE ⊢
              have hm1 : m < b.length := by omega
              have HMK := Lib.hid hmk
              clear hmk
              by_cases h3 : m + 3 ≤ b.length
              · have ht3 : decide ((m : Int) + 3 ≤ (b.length : Int)) = true := decide_eq_true (by omega)
                obtain ⟨bb, off, x, y, z, hxyz, hsl, har, c0, c1, c2⟩ := three_at (hb3.sl hs) m h3
                have HXYZ := Lib.hid hxyz
                clear hxyz
                go_wp2_with (at_mapUpdate; refine wpList_mapUpdate_own _ rfl _ _ _ 81 rfl 83 3 keyLaw Try.underlying81 _ MB m _ rfl hm3 (by unfold maxLen; omega) _ _ _ rfl rfl (key_of_bytes keyArr Try.underlying5 ⟨_, rfl⟩ [x, y, z] rfl) _ [] (plainElem_int Try.underlying3 (WalkArith.wf_i64 (by omega))) ?_; intro w5 hm5 hgr5)
                have hb5 := hb3.past hm3 hgr5 hBM
                have hE5 := seen_put hE h3 _ HXYZ.out.symm
                rw [show m + 1 = n + (k + 1) from by rw [HMK.out]; omega] at hm5 hE5
                have e5 : (m : Int) + 1 = ((n + (k + 1) : Nat) : Int) := by rw [HMK.out]; omega
                rw [e5]
                go_roundw
                case rel => exact ⟨k + 1, _, rfl, by go_num, by omega, hb5, hm5, hE5⟩
                case measure => simp [intOf]; omega
              · have ht3 : decide ((m : Int) + 3 ≤ (b.length : Int)) = false := decide_eq_false (by omega)
                have hE5 := seen_skip hE h3
                have hm5 := World.ownsMap.mono hm3 (Nat.le_succ m)
                rw [show m + 1 = n + (k + 1) from by rw [HMK.out]; omega] at hE5
                rw [show m.succ = n + (k + 1) from by rw [HMK.out]; omega] at hm5
                have e5 := Lib.hid (show (m : Int) + 1 = ((n + (k + 1) : Nat) : Int) by rw [HMK.out]; omega)
                go_wp2_with fail
                rw [e5.out]
                go_roundw
                case rel => exact ⟨k + 1, _, rfl, by go_num, by omega, hb3, hm5, hE5⟩
                case measure => simp [intOf]; omega
            · obtain rfl : k = st := by omega
              have htk : decide ((k : Int) < (k : Int)) = false := decide_eq_false (by omega)
              go_wp2_with fail
              go_roundw
              case rel => exact ⟨n + k, f, cs, E, rfl, hst2, by omega, HGO2.out, hcs, hcl, hb3, hm3, hE⟩
              case measure => simp [intOf]; omega
    · obtain rfl : n = b.length := by omega
      have ht : decide (b.length < b.length) = false := decide_eq_false (by omega)
      have hg : fixedGo b f b.length = [] := by cases f with | zero => rfl | succ f => rw [fixedGo, if_neg (by omega)]
      rw [hg, List.append_nil] at hgo
      have HGO := Lib.hid hgo
      clear hgo hg
      have hsl := signBits_len 256
      go_wp2_with fail
      refine Calls.mono (sign_any _ w.heap.size _ bs 256 _ _ rfl (by omega) hbits hbs (by omega)) ?_
      rintro e w3 ⟨rfl, h3⟩
      rw [HGO.out, ← HX.out] at h3
      obtain ⟨v, hP, hrow, -⟩ := h3
      obtain ⟨c0, -⟩ := two_cells hP
      obtain ⟨av, cv, hv, -⟩ := hrow.sl
      obtain ⟨nv, hnv⟩ : ∃ nv, nv = (packB (fixedBits b)).length := ⟨_, rfl⟩
      rw [← hnv] at hv
      subst hv
      clear hnv
      go_wp2_with fail
      go_ret
      exact ⟨_, rfl, hrow⟩

end Go.Proofs.Ytaapnjhkflpiiaa
