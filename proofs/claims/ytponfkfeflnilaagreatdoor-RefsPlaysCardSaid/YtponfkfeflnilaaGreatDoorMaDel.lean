/-
  A struct stored into a row of the call's own: 's[i] = x'.
  refs.Drop's test; slices.IndexFunc, ContainsFunc at refs: the walks.
  slices.DeleteFunc at refs: the walk.
  slices.DeleteFunc at refs: the walk.
  refs.Drop: the walk.
-/
import Derived.Test.YtponfkfeflnilaaGreatDoorMaRec
import Derived.Test.YtponfkfeflnilaaGreatDoorMaBas
import Derived.Test.YtponfkfeflnilaaGreatDoorMaSet
import Derived.Lib.SliceRun
namespace Go.Proofs.YtponfkfeflnilaaGreatDoor
open Go.RowKit Go.Mix

theorem setCells_row (g : Nat) (e : TypeId) : ∀ (vs : List Value) (o : Nat) (w : World) (C : Array Value), w.heap[g]? = some (.cells C e (0, 0)) → o + vs.length ≤ C.size →
    ∃ C', (w.setCells g o vs).heap[g]? = some (.cells C' e (0, 0)) ∧ C'.toList = C.toList.take o ++ vs ++ C.toList.drop (o + vs.length)
  | [], o, w, C, h, _ => ⟨C, h, by simp⟩
  | v :: vs, o, w, C, h, hl => by
    simp only [List.length_cons] at hl
    obtain ⟨C', h1, h2⟩ := setCells_row g e vs (o + 1) (w.setCell ⟨g, o, none⟩ v) (C.setIfInBounds o v) (heap_setCell_same w g o C e v h) (by rw [Array.size_setIfInBounds]; omega)
    refine ⟨C', h1, ?_⟩
    rw [h2, Array.toList_setIfInBounds]
    have hlt : o < C.toList.length := by rw [Array.length_toList]; omega
    rw [List.take_add_one, List.take_set_of_le (Nat.le_refl o), List.drop_set_of_lt (by omega), List.length_cons, show o + 1 + vs.length = o + (vs.length + 1) by omega]
    have hlt2 : o < C.size := by rw [Array.length_toList] at hlt; exact hlt
    simp [hlt2]
theorem setCells_below {B : Nat} (g : Nat) (hg : B ≤ g) : ∀ (vs : List Value) (o : Nat) (a w : World), Below B a w → Below B a (w.setCells g o vs)
  | [], _, _, _, h => h
  | v :: vs, o, a, _, h => setCells_below g hg vs (o + 1) a _ (h.setCell (p := ⟨g, o, none⟩) hg v)

section
variable {α : Type} [Inhabited α] {enc : α → List Value} {L : Nat} {t e : TypeId}
theorem RecTy.flat_set (T : RecTy α enc L t e) (x : α) : ∀ (l : List α) (i : Nat), i < l.length → flatR enc (l.set i x) = (flatR enc l).take (i * L) ++ enc x ++ (flatR enc l).drop (i * L + L)
  | [], i, h => by simp at h
  | y :: l, 0, _ => by
    rw [List.set_cons_zero]
    have e1 : ∀ z, flatR enc (z :: l) = enc z ++ flatR enc l := fun z => by simp [flatR]
    have h2 := T.len y
    rw [e1, e1, Nat.zero_mul, List.take_zero, List.nil_append, Nat.zero_add, List.drop_append_of_le_length (by omega), List.drop_of_length_le (by omega), List.nil_append]
  | y :: l, i + 1, h => by
    rw [List.set_cons_succ]
    have e1 : ∀ (z : α) (l : List α), flatR enc (z :: l) = enc z ++ flatR enc l := fun z l => by simp [flatR]
    have h2 := T.len y
    rw [e1, e1, RecTy.flat_set T x l i (by simp at h; omega), Nat.succ_mul]
    rw [List.take_append, List.take_of_length_le (l := enc y) (by omega), List.drop_append, List.drop_of_length_le (l := enc y) (by omega)]
    rw [h2, show i * L + L - L = i * L by omega, show i * L + L + L - L = i * L + L by omega, List.nil_append]
    simp only [List.append_assoc]

/-- 's[i] = x' in a row of the call's own. -/
theorem OwnR.store (T : RecTy α enc L t e) {w0 w : World} {g n c : Nat} {l : List α} (h : OwnR enc L e w0 w (.slice (some ⟨g, 0, none⟩) n c) l) (x : α) (i : Nat) (hi : i < l.length) :
    (Instr.storeAt e (.pointer (some ⟨g, i * L, none⟩)) (.agg (recA enc x))).run Tryz.prog w = .ok () (w.setCells g (i * L) (enc x)) ∧ OwnR enc L e w0 (w.setCells g (i * L) (enc x)) (.slice (some ⟨g, 0, none⟩) n c) (l.set i x) := by
  rcases h.own.2 with ⟨hv, _⟩ | ⟨g', cap, cur, hv, hb, hh, hn, hm, hcs, ht⟩
  · cases hv
  injection hv with h1 h2 h3
  injection h1 with h1
  injection h1 with h1
  subst h1 h2 h3
  have hfl := T.flat_len l
  have hmul : i * L + L ≤ l.length * L := by have := Nat.mul_le_mul_right L (show i + 1 ≤ l.length from hi); rw [Nat.succ_mul] at this; exact this
  have hmul2 := Nat.mul_le_mul_right L hn
  have hsz : (recA enc x).size = L := by simp [recA, T.len]
  have hl := T.len x
  obtain ⟨C', hC, hC2⟩ := setCells_row g e (enc x) (i * L) w cur hh (by rw [hl, hcs]; omega)
  refine ⟨?_, ⟨by rw [T.flat_len, List.length_set], .inr ⟨g, c, C', ?_, hb, hC, ?_, hm, ?_, ?_⟩⟩, setCells_below g hb (enc x) _ _ _ h.frame⟩
  · have := run_storeAt_mid (P := Tryz.prog) w g (i * L) e (recA enc x) (fun j hj => by
      rw [hsz] at hj
      refine ⟨?_, ?_⟩
      · rw [cell_of_row _ _ _ _ _ _ hh]
        simp; omega
      · unfold World.frozen?
        rw [hh]
        simp) (by rw [hsz]; exact T.ie) (all_oneCell_toArray (T.one x))
    exact this
  · rw [List.length_set]
  · rw [List.length_set]; exact hn
  · rw [← Array.length_toList, hC2]
    simp
    omega
  · rw [List.length_set, hC2, T.flat_set x l i hi, ← ht]
    rw [List.take_take, Nat.min_eq_left (by omega), hl]
    have e1 : (cur.toList.take (i * L)).length = i * L := by rw [List.length_take, Array.length_toList]; omega
    rw [List.take_append, List.take_of_length_le (by rw [List.length_append, e1]; omega), List.length_append, e1, hl, ← List.drop_take]

/-- Its values' places, and their loads. -/
theorem OwnR.at (T : RecTy α enc L t e) {w0 w : World} {g n c : Nat} {l : List α} (h : OwnR enc L e w0 w (.slice (some ⟨g, 0, none⟩) n c) l) (k : Nat) (hk : k < l.length) :
    n = l.length ∧ (∀ W : World, (Instr.indexAt t (.slice (some ⟨g, 0, none⟩) n c) (.int .i64 (k : Int))).run Tryz.prog W = .ok (.pointer (some ⟨g, k * L, none⟩)) W) ∧
      ∀ y : Later w, (Instr.loadAt e (.pointer (some ⟨g, k * L, none⟩))).run Tryz.prog y.1 = .ok (.agg (recA enc l[k]!)) y.1 := by
  obtain ⟨a, c', hv, hrs, -⟩ := h.rs T
  injection hv with h1 h2 h3
  subst h1 h2 h3
  rcases hrs.cells with rfl | ⟨b, o, he, hc⟩
  · simp at hk
  · injection he with he
    injection he with h1 h2 h3
    subst h1 h2
    have hr := hc k hk
    rw [Nat.zero_add] at hr
    exact ⟨rfl, fun W => by have := T.index g 0 l.length c k hk W; rw [Nat.zero_add] at this; exact this, fun y => T.load _ g _ y.1 (rangeR_below hr y.2)⟩
end
end Go.Proofs.YtponfkfeflnilaaGreatDoor
namespace Go.Proofs.YtponfkfeflnilaaGreatDoor
open Go.RowKit Go.Mix Go.WideMaps Go.Maps

theorem drop1_enters : ∀ args w, (callFunc 62 args).run Tryz.prog w = .ok (.enter 62 args) w := enters_of Tryz.func62 (by kernel_rfl) rfl
def hasN (name : Bytes) (r : RefP) : Bool := decide (r.name = name)
set_option maxRecDepth 100000 in
set_option maxHeartbeats 1000000 in
theorem drop1_any {B : Nat} {name : Bytes} {W : World} (hc : W.cell? ⟨B, 0, none⟩ = some (.string (strOf name))) (r : RefP) :
    Calls Tryz.prog 62 #[.agg (recA encP r), ptr B] W fun e w' => e = .returned (.bool (hasN name r)) ∧ Below W.heap.size W w' := by
  have gA : Below W.heap.size W (W.alloc (.cells (recA encP r) 88)) := (Below.refl _ _).alloc (Nat.le_refl _) _
  have hbox : (W.alloc (.cells (recA encP r) 88)).heap[W.heap.size]? = some (.cells (recA encP r) 88 (0, 0)) := heap_alloc_last _ _ _ rfl
  have hc1 := (gA.cell (lt_of_cell hc)).trans hc
  have LN := load_name (recBoxP hbox) ⟨_, Below.refl _ _⟩
  have E := strOf_eq r.name name
  have hE : ((strOf r.name).toList == (strOf name).toList) = decide (r.name = name) := by rw [strOf_list name]; exact E
  change (Instr.loadAt 9 (.pointer (some ⟨W.heap.size, 0, none⟩))).run Tryz.prog (W.alloc (.cells (recA encP r) 88)) = .ok (.string (strOf r.name)) (W.alloc (.cells (recA encP r) 88)) at LN
  unfold hasN
  have HA := Lib.hid gA
  have HW : Hid (∀ e w', e = Ending.returned (.bool (decide (r.name = name))) ∧ w' = W.alloc (.cells (recA encP r) 88) → e = .returned (.bool (decide (r.name = name))) ∧ Below W.heap.size W w') := Lib.hid (fun e w' hh => ⟨hh.1, by rw [hh.2]; exact gA⟩)
  clear gA hbox hc
  generalize decide (r.name = name) = D at *
  generalize strOf r.name = X at *
  generalize strOf name = Y at *
  clear E
  go_enter Tryz.func62, Tryz.ntmps62
  go_upto_region 1 with (fail)
  obtain ⟨X9, hX9⟩ : ∃ X, X = W.heap.size := ⟨_, rfl⟩
  rw [← hX9] at LN ⊢
  clear hX9
  generalize W.alloc (.cells (recA encP r) 88) = w1 at *
  go_wp2_with (first | (refine wpList_load_at rfl _ _ rfl _ _ rfl LN ?_))
  go_ret
  exact ⟨rfl, HA.out⟩

/-- The first of a name; -1: none. -/
def idxN (name : Bytes) (l : List RefP) : Int := if (l.findIdx (hasN name)) < l.length then ((l.findIdx (hasN name) : Nat) : Int) else -1
theorem idxN_none {name : Bytes} {l : List RefP} (h : ∀ k, k < l.length → hasN name l[k]! = false) : idxN name l = -1 := by
  unfold idxN
  rw [if_neg]
  intro hlt
  have h1 := List.findIdx_getElem (w := hlt)
  have h2 := h _ hlt
  rw [getElem!_pos l _ hlt, h1] at h2
  cases h2
theorem idxN_some {name : Bytes} {l : List RefP} {i : Nat} (hi : i < l.length) (h : ∀ k, k < i → hasN name l[k]! = false) (ht : hasN name l[i]! = true) : idxN name l = (i : Int) := by
  have e : l.findIdx (hasN name) = i := by
    refine (List.findIdx_eq hi).2 ⟨?_, fun j hj => ?_⟩
    · rw [getElem!_pos l i hi] at ht; exact ht
    · have := h j hj; rw [getElem!_pos l j (by omega)] at this; exact this
  unfold idxN
  rw [e, if_pos hi]

set_option maxRecDepth 100000 in
set_option maxHeartbeats 2000000 in
theorem indexFunc_any {B : Nat} {name : Bytes} {w : World} {a : Option Addr} {cap : Nat} {l : List RefP} (h : RsAt encP 21 w a cap l) (hc : w.cell? ⟨B, 0, none⟩ = some (.string (strOf name))) (hl : l.length ≤ 1000000) :
    Calls Tryz.prog 101 #[.slice a l.length cap, .func (.func 62) #[] #[ptr B]] w fun e w' => e = .returned (.int .i64 (idxN name l)) ∧ Below w.heap.size w w' := by
  obtain ⟨n, hn⟩ : ∃ n, n = l.length := ⟨_, rfl⟩
  have HH := Lib.hid (And.intro h (And.intro hc hn))
  have ek := drop1_enters
  rw [← hn] at hl ⊢
  clear h hc hn
  go_enter Tryz.func101, Tryz.ntmps101
  go_wp2_with fail
  go_loopw [8] (fun s8 wr => ∃ i : Nat, s8 = .int .i64 (i : Int) ∧ i ≤ n ∧ (∀ k, k < i → hasN name l[k]! = false) ∧ Below w.heap.size w wr) (fun s8 _ => n - (intOf s8).toNat)
  case atStart => exact ⟨0, rfl, Nat.zero_le _, fun k hk => absurd hk (Nat.not_lt_zero _), Below.refl _ _⟩
  case round =>
    obtain ⟨i, rfl, hi, hno, hbr⟩ := hrel
    have HR := Lib.hid (And.intro hno hbr)
    clear hno hbr
    by_cases hin : i < n
    · have t1 : decide ((i : Int) < (n : Int)) = true := decide_eq_true (by omega)
      have t1' : decide (i < n) = true := decide_eq_true hin
      have hil : i < l.length := by rw [← HH.out.2.2]; exact hin
      obtain ⟨b, q, IX, -, LD⟩ := (HH.out.1.below HR.out.2).at tyP (i : Int) i rfl hil
      rw [← HH.out.2.2] at IX
      have L0 := LD wr (Below.refl _ _)
      have CD := drop1_any ((HR.out.2.cell (lt_of_cell HH.out.2.1)).trans HH.out.2.1) l[i]!
      obtain ⟨D, hD⟩ : ∃ D, D = hasN name l[i]! := ⟨_, rfl⟩
      rw [← hD] at CD
      have HS := Lib.hid (And.intro hil hD)
      clear LD hil hD
      generalize recA encP l[i]! = RV at *
      cases D
      · go_wp2_with (first | (refine wpList_load_at rfl _ _ rfl _ _ rfl L0 ?_))
        refine CD.mono ?_
        clear CD L0
        rintro e w2 ⟨rfl, hb2⟩
        have H2 := Lib.hid (HR.out.2.trans (hb2.mono HR.out.2.size))
        clear hb2
        go_wp2_with fail
        go_roundw
        case rel =>
          refine ⟨i + 1, by go_num, by omega, fun k hk => ?_, H2.out⟩
          by_cases hki : k < i
          · exact HR.out.1 k hki
          · rw [show k = i by omega, ← HS.out.2]
        case measure => simp [intOf]; omega
      · go_wp2_with (first | (refine wpList_load_at rfl _ _ rfl _ _ rfl L0 ?_))
        refine CD.mono ?_
        clear CD L0
        rintro e w2 ⟨rfl, hb2⟩
        have H2 := Lib.hid (HR.out.2.trans (hb2.mono HR.out.2.size))
        clear hb2
        go_wp2_with fail
        go_ret
        rw [idxN_some HS.out.1 HR.out.1 HS.out.2.symm]
        exact ⟨rfl, H2.out⟩
    · obtain rfl : i = n := by omega
      have t1 : decide ((i : Int) < (i : Int)) = false := decide_eq_false (by omega)
      have t1' : decide (i < i) = false := decide_eq_false (by omega)
      go_wp2_with fail
      go_ret
      rw [idxN_none (fun k hk => HR.out.1 k (by rw [HH.out.2.2]; exact hk))]
      exact ⟨rfl, HR.out.2⟩

set_option maxRecDepth 100000 in
set_option maxHeartbeats 2000000 in
theorem containsFunc_any {B : Nat} {name : Bytes} {w : World} {a : Option Addr} {cap : Nat} {l : List RefP} (h : RsAt encP 21 w a cap l) (hc : w.cell? ⟨B, 0, none⟩ = some (.string (strOf name))) (hl : l.length ≤ 1000000) :
    Calls Tryz.prog 64 #[.slice a l.length cap, .func (.func 62) #[] #[ptr B]] w fun e w' => e = .returned (.bool (l.any (hasN name))) ∧ Below w.heap.size w w' := by
  have C := indexFunc_any h hc hl
  have HI : (l.any (hasN name)) = decide (0 ≤ idxN name l) := by
    unfold idxN
    by_cases hx : l.findIdx (hasN name) < l.length
    · rw [if_pos hx, decide_eq_true (by omega)]
      exact List.any_eq_true.2 ⟨_, List.getElem_mem hx, List.findIdx_getElem (w := hx)⟩
    · rw [if_neg hx, decide_eq_false (by omega)]
      rw [List.any_eq_false]
      intro y hy hp
      exact hx (List.findIdx_lt_length_of_exists ⟨y, hy, hp⟩)
  have t1 : decide (idxN name l ≥ 0) = l.any (hasN name) := by rw [HI]
  have t2 : decide (0 ≤ idxN name l) = l.any (hasN name) := by rw [HI]
  generalize l.any (hasN name) = D at *
  generalize idxN name l = IX at *
  clear h hc hl HI
  go_enter Tryz.func64, Tryz.ntmps64
  go_wp2_with fail
  refine C.mono ?_
  clear C
  rintro e w2 ⟨rfl, hb2⟩
  have H2 := Lib.hid hb2
  clear hb2
  go_wp2_with fail
  go_ret
  exact ⟨rfl, H2.out⟩
end Go.Proofs.YtponfkfeflnilaaGreatDoor
namespace Go.Proofs.YtponfkfeflnilaaGreatDoor
open Go.RowKit Go.Mix Go.WideMaps Go.Maps

theorem clear_refs (w : World) (g o n c : Nat) (hn : 0 < n) (hc : ∀ j, j < n * 21 → (w.cell? ⟨g, o + j, none⟩).isSome = true) (hf : ∀ j, j < n * 21 → w.frozen? ⟨g, o + j, none⟩ = false) :
    ∃ vs : List Value, vs.length = n * 21 ∧ ∀ ty, (Builtin.clear_ #[26] ty #[.slice (some ⟨g, o, none⟩) n c]).run Tryz.prog w = .ok (.tuple #[]) (w.setCells g o vs) := by
  have z : ∀ w, (zeroValue 88).run Tryz.prog w = .ok (.agg (recA encP ref0)) w := fun w => by kernel_rfl
  have hcl : (Value.agg (recA encP ref0)).cells = recA encP ref0 := by kernel_rfl
  obtain ⟨vs, hvs⟩ : ∃ vs, vs = (Builtin.zeroCells (recA encP ref0) n).toList := ⟨_, rfl⟩
  have hsz : (recA encP ref0).size = 21 := by simp [recA, encP_len]
  have hlen : vs.length = n * 21 := by
    rw [hvs]
    simp [Builtin.zeroCells, hsz]
  have hone : ∀ v ∈ vs, v.oneCell' = true := fun v hv => by
    rw [hvs] at hv
    unfold Builtin.zeroCells at hv
    rw [Array.toList_map, List.mem_map] at hv
    obtain ⟨i, -, rfl⟩ := hv
    rw [hsz]
    have hlt : i % 21 < (recA encP ref0).size := by rw [hsz]; exact Nat.mod_lt _ (by decide)
    rw [getElem!_pos (recA encP ref0) _ hlt]
    exact encP_one ref0 _ (by simp [recA])
  refine ⟨vs, hlen, fun ty => ?_⟩
  have hst := run_storeCells_cells (P := Tryz.prog) g o vs 0 w (by intro j hj; exact hc j (by omega)) (by intro j hj; exact hf j (by omega)) hone
  simp only [Nat.add_zero] at hst
  obtain ⟨m, rfl⟩ : ∃ m, n = m + 1 := ⟨n - 1, by omega⟩
  simp [Builtin.clear_, run_underlying Tryz.underlying26, z, hcl, ← hvs, hst]

set_option maxRecDepth 100000 in
theorem slice_from {w0 w : World} {g n c : Nat} {l : List RefP} (h : OwnR encP 21 88 w0 w (.slice (some ⟨g, 0, none⟩) n c) l) {i : Nat} (hi : i < l.length) (W : World) :
    (Instr.slice 26 (.slice (some ⟨g, 0, none⟩) n c) (some (.int .i64 (i : Int))) none none).run Tryz.prog W = .ok (.slice (some ⟨g, i * 21, none⟩) (n - i) (c - i)) W := by
  obtain ⟨a, c', hv, hrs, -⟩ := h.rs tyP
  injection hv with h1 h2 h3
  subst h1 h2 h3
  have hle := hrs.le
  have hbig := hrs.big
  have he : Tryz.prog.elem 26 = 88 := by simp [Program.elem, tyP.ht]
  rw [run_slice_l W 26 _ _ _ (by rw [he]; exact tyP.ht) .i64 (i : Int) (by omega) (by omega), he, tyP.se]
  simp [Result.andThen, sliced, show ¬ c = i by omega, Addr.add_mid]
set_option maxRecDepth 100000 in
theorem slice_to {w0 w : World} {g n c : Nat} {l : List RefP} (h : OwnR encP 21 88 w0 w (.slice (some ⟨g, 0, none⟩) n c) l) {i : Nat} (hi : i ≤ l.length) (W : World) :
    (Instr.slice 26 (.slice (some ⟨g, 0, none⟩) n c) none (some (.int .i64 (i : Int))) none).run Tryz.prog W = .ok (.slice (some ⟨g, 0, none⟩) i c) W := by
  obtain ⟨a, c', hv, hrs, -⟩ := h.rs tyP
  injection hv with h1 h2 h3
  subst h1 h2 h3
  exact hrs.to tyP hi _ rfl W
set_option maxRecDepth 100000 in
/-- The rest is cleared. -/
theorem OwnR.clear {w0 w : World} {g n c : Nat} {l : List RefP} (h : OwnR encP 21 88 w0 w (.slice (some ⟨g, 0, none⟩) n c) l) {i : Nat} (hi : i < l.length) :
    ∃ w', (∀ ty, (Builtin.clear_ #[26] ty #[.slice (some ⟨g, i * 21, none⟩) (n - i) (c - i)]).run Tryz.prog w = .ok (.tuple #[]) w') ∧ OwnR encP 21 88 w0 w' (.slice (some ⟨g, 0, none⟩) i c) (l.take i) := by
  rcases h.own.2 with ⟨hv, _⟩ | ⟨g', cap, cur, hv, hb, hh, hn, hm, hcs, ht⟩
  · cases hv
  injection hv with h1 h2 h3
  injection h1 with h1
  injection h1 with h1
  subst h1 h2 h3
  have hfr : ∀ j, w.frozen? ⟨g, j, none⟩ = false := fun j => by unfold World.frozen?; rw [hh]; simp
  have hce : ∀ j, j < c * 21 → (w.cell? ⟨g, j, none⟩).isSome = true := fun j hj => by
    rw [cell_of_row _ _ _ _ _ _ hh]
    simp; omega
  obtain ⟨vs, hvl, hrun⟩ := clear_refs w g (i * 21) (l.length - i) (c - i) (by omega) (fun j hj => hce _ (by omega)) (fun j _ => hfr _)
  obtain ⟨C', hC, hC2⟩ := setCells_row g 88 vs (i * 21) w cur hh (by rw [hvl, hcs]; omega)
  have hfl := tyP.flat_len l
  have htk : flatR encP (l.take i) = (flatR encP l).take (i * 21) := by
    have h1 := tyP.flat_len (l.take i)
    have h2 : flatR encP l = flatR encP (l.take i) ++ flatR encP (l.drop i) := by
      unfold flatR
      rw [← List.flatMap_append, List.take_append_drop]
    have h3 : (flatR encP (l.take i)).length ≤ i * 21 := by rw [h1, List.length_take]; omega
    have h4 : i * 21 ≤ (flatR encP (l.take i)).length := by rw [h1, List.length_take]; omega
    rw [h2, List.take_append_of_le_length h4]
    exact (List.take_of_length_le h3).symm
  have hlt : (l.take i).length = i := by rw [List.length_take]; omega
  refine ⟨_, hrun, ⟨by rw [tyP.flat_len, hlt], .inr ⟨g, c, C', by rw [hlt], hb, hC, by rw [hlt]; omega, hm, ?_, ?_⟩⟩, setCells_below g hb vs _ _ _ h.frame⟩
  · rw [← Array.length_toList, hC2]
    simp
    omega
  · rw [hlt, hC2, htk, ← ht, List.take_take, Nat.min_eq_left (by omega), List.append_assoc, List.take_append_of_le_length (by rw [List.length_take, Array.length_toList]; omega), List.take_take, Nat.min_self]
end Go.Proofs.YtponfkfeflnilaaGreatDoor
namespace Go.Proofs.YtponfkfeflnilaaGreatDoor
open Go.RowKit Go.Mix Go.WideMaps Go.Maps

theorem wpList_store_any {P : Program} {ops : Array Oper} {rest : List Oper} {o : Oper} {a : Act} {w w' : World} {Q : Exit → Act → World → Prop} (hgd : o.guard = none) (hd : o.dst = none) (e : TypeId) (x y : Operand) (hop : o.op = .store e x y) (V v : Value) (hx : a.eval x = V) (hy : a.eval y = v)
    (hrun : (Instr.storeAt e V v).run P w = .ok () w') (h : wpList P ops Q rest a w') : wpList P ops Q (o :: rest) a w :=
  wpList_plain hgd fun K' hK' => by
    unfold Oper.wp execOp
    simp only [hop, hx, hy, Sem.run_bind, Sem.run_pure, Result.andThen_ok, hrun]
    refine hK' _ _ ?_
    rw [hd]
    exact h
theorem idxN_hit {name : Bytes} {l : List RefP} (h : l.any (hasN name) = true) : ∃ k, k < l.length ∧ idxN name l = (k : Int) ∧ hasN name l[k]! = true ∧ (l.take k).filter (fun r => !hasN name r) = l.take k := by
  have hx : l.findIdx (hasN name) < l.length := by
    obtain ⟨y, hy, hp⟩ := List.any_eq_true.1 h
    exact List.findIdx_lt_length_of_exists ⟨y, hy, hp⟩
  refine ⟨_, hx, ?_, ?_, ?_⟩
  · unfold idxN; rw [if_pos hx]
  · rw [getElem!_pos l _ hx]; exact List.findIdx_getElem (w := hx)
  · refine List.filter_eq_self.2 fun y hy => ?_
    obtain ⟨i, hi, rfl⟩ := List.mem_iff_getElem.1 hy
    rw [List.length_take] at hi
    rw [List.getElem_take]
    have := List.not_of_lt_findIdx (p := hasN name) (xs := l) (i := i) (by omega)
    simpa using this

set_option maxRecDepth 100000 in
set_option maxHeartbeats 4000000 in
theorem deleteFunc_any {B g n c : Nat} {name : Bytes} {w0 w : World} {l : List RefP} (h : OwnR encP 21 88 w0 w (.slice (some ⟨g, 0, none⟩) n c) l) (hc : w0.cell? ⟨B, 0, none⟩ = some (.string (strOf name))) (hl : l.length ≤ 1000000) (hx : l.any (hasN name) = true) :
    Calls Tryz.prog 65 #[.slice (some ⟨g, 0, none⟩) n c, .func (.func 62) #[] #[ptr B]] w fun e w' => ∃ m, e = .returned (.slice (some ⟨g, 0, none⟩) m c) ∧ OwnR encP 21 88 w0 w' (.slice (some ⟨g, 0, none⟩) m c) (l.filter fun r => !hasN name r) := by
  obtain ⟨a, c', hv, hrs, -⟩ := h.rs tyP
  injection hv with h1 h2 h3
  subst h1 h2 h3
  obtain ⟨k, hk, hik, hkt, hkf⟩ := idxN_hit hx
  have hcw := (h.frame.cell (lt_of_cell hc)).trans hc
  have CI := indexFunc_any hrs hcw hl
  rw [hik] at CI
  obtain ⟨n, hn⟩ : ∃ n, n = l.length := ⟨_, rfl⟩
  rw [← hn] at CI h hl hk ⊢
  have HH := Lib.hid (And.intro h (And.intro hc (And.intro hn (And.intro hkt hkf))))
  have ek := drop1_enters
  obtain ⟨Z0, hZ0⟩ : ∃ Z, Z = recA encP ref0 := ⟨_, rfl⟩
  have z : ∀ w, (zeroValue 88).run Tryz.prog w = .ok (.agg Z0) w := fun w => by rw [hZ0]; kernel_rfl
  have HZ := Lib.hid hZ0
  clear h hc hn hx hik hkt hkf hrs hcw hZ0
  go_enter Tryz.func65, Tryz.ntmps65
  go_wp2_with fail
  refine CI.mono ?_
  clear CI
  rintro e w1 ⟨rfl, hb1⟩
  have h1 := HH.out.1.later hb1
  have H1 := Lib.hid h1
  have t0 : ((k : Int) == -1) = false := by rw [beq_eq_false_iff_ne]; omega
  clear h1 hb1
  go_wp2_with fail
  go_loopw [5, 6] (fun s5 s6 wr => ∃ (i j : Nat) (cur : List RefP), s5 = .int .i64 (i : Int) ∧ s6 = .int .i64 (j : Int) ∧ i < j ∧ j ≤ n ∧ OwnR encP 21 88 w0 wr (.slice (some ⟨g, 0, none⟩) n c) cur ∧ cur.length = n ∧ cur.take i = (l.take j).filter (fun r => !hasN name r) ∧ cur.drop j = l.drop j) (fun s5 s6 _ => n - (intOf s6).toNat)
  case atStart =>
    refine ⟨k, k + 1, l, rfl, by go_num, by omega, by omega, H1.out, HH.out.2.2.1.symm, ?_, rfl⟩
    have hkl : k < l.length := by rw [← HH.out.2.2.1]; exact hk
    have e1 : l.take (k + 1) = l.take k ++ [l[k]!] := by rw [List.take_succ_eq_append_getElem hkl, getElem!_pos l k hkl]
    rw [e1, List.filter_append, HH.out.2.2.2.2, List.filter_cons_of_neg (by rw [HH.out.2.2.2.1]; decide), List.filter_nil, List.append_nil]
  case round =>
    obtain ⟨i, j, cur, rfl, rfl, hij, hj, hown, hcl, htk, hdr⟩ := hrel
    have HR := Lib.hid (And.intro hown (And.intro hcl (And.intro htk hdr)))
    clear hown hcl htk hdr
    by_cases hjn : j < n
    · have t1 : decide ((j : Int) < (n : Int)) = true := decide_eq_true (by omega)
      have t1' : decide (j < n) = true := decide_eq_true hjn
      obtain ⟨hn2, IX, LD⟩ := HR.out.1.at tyP j (by rw [HR.out.2.1]; exact hjn)
      have L0 := LD ⟨wr, Below.refl _ _⟩
      have hjc : j < cur.length := by rw [HR.out.2.1]; exact hjn
      have hjl : j < l.length := by rw [← HH.out.2.2.1]; exact hjn
      have hcj : cur[j]! = l[j]! := by
        rw [getElem!_pos cur j hjc, getElem!_pos l j hjl]
        have e1 := List.drop_eq_getElem_cons hjc
        have e2 := List.drop_eq_getElem_cons hjl
        have e3 := HR.out.2.2.2
        rw [e1, e2] at e3
        injection e3
      have hdr2 : cur.drop (j + 1) = l.drop (j + 1) := by
        have e1 := List.drop_eq_getElem_cons hjc
        have e2 := List.drop_eq_getElem_cons hjl
        have e3 := HR.out.2.2.2
        rw [e1, e2] at e3
        injection e3
      have hsn : l.take (j + 1) = l.take j ++ [l[j]!] := by rw [List.take_succ_eq_append_getElem hjl, getElem!_pos l j hjl]
      rw [hcj] at L0
      obtain ⟨r, hr⟩ : ∃ r, r = l[j]! := ⟨_, rfl⟩
      rw [← hr] at L0 hsn
      have hzb : (wr.alloc (.cells Z0 88)).heap[wr.heap.size]? = some (.cells Z0 88 (0, 0)) := heap_alloc_last _ _ _ rfl
      have zs : Z0.size = (recA encP r).size := by rw [HZ.out]; simp [recA, encP_len]
      have zi : (Tryz.prog.info? 88).map (·.size) = some (recA encP r).size := by rw [show (recA encP r).size = 21 by simp [recA, encP_len]]; exact tyP.ie
      have z1 : (recA encP r).all (·.oneCell') = true := all_oneCell_toArray (encP_one _)
      have gA : Below wr.heap.size wr ((wr.alloc (.cells Z0 88)).setRow wr.heap.size (recA encP r)) := below_setRow ((Below.refl _ _).alloc (Nat.le_refl _) _) (Nat.le_refl _) _
      have hbox : ((wr.alloc (.cells Z0 88)).setRow wr.heap.size (recA encP r)).heap[wr.heap.size]? = some (.cells (recA encP r) 88 (0, 0)) := setRow_heap _ _ _ _ _ _ hzb
      have HA := Lib.hid (And.intro gA (And.intro hbox (And.intro hsn hdr2)))
      clear LD hr gA hbox hsn hdr2 hcj hjc hjl hn2
      go_upto_region 8 with (first | (refine wpList_load_at rfl _ _ rfl _ _ rfl L0 ?_) | (refine wpList_store_row rfl 88 _ _ rfl wr.heap.size (recA encP r) rfl rfl 88 Z0 hzb zi zs z1 ?_))
      have hbox := HA.out.2.1
      have gA := HA.out.1
      clear L0 IX zs zi z1 hzb
      obtain ⟨X9, hX9⟩ : ∃ X, X = wr.heap.size := ⟨_, rfl⟩
      generalize (wr.alloc (.cells Z0 88)).setRow wr.heap.size (recA encP r) = w10 at *
      rw [← hX9] at hbox ⊢
      have LB := tyP.load r X9 0 w10 (recBoxP hbox)
      have ho10 := HR.out.1.later gA
      have CD := drop1_any (B := B) ((ho10.frame.cell (lt_of_cell HH.out.2.1)).trans HH.out.2.1) r
      obtain ⟨D, hD⟩ : ∃ D, D = hasN name r := ⟨_, rfl⟩
      rw [← hD] at CD
      have H10 := Lib.hid (And.intro ho10 (And.intro hbox (And.intro hD (And.intro HA.out.2.2.1 HA.out.2.2.2))))
      clear ho10 hbox hD HA gA hX9
      obtain ⟨RV, hRV⟩ : ∃ V, V = recA encP r := ⟨_, rfl⟩
      rw [← hRV] at LB CD
      have HV := Lib.hid hRV
      clear hRV
      cases D
      · go_wp2_with (first | (refine wpList_load_at rfl _ _ rfl _ _ rfl LB ?_))
        refine CD.mono ?_
        clear CD LB
        rintro e w11 ⟨rfl, hb11⟩
        have LB := tyP.load r X9 0 w11 (recBoxP (blockR_below H10.out.2.1 hb11))
        rw [← HV.out] at LB
        have ho11 := H10.out.1.later hb11
        obtain ⟨-, IX, -⟩ := ho11.at tyP i (by rw [HR.out.2.1]; omega)
        obtain ⟨hrun, ho12⟩ := ho11.store tyP r i (by rw [HR.out.2.1]; omega)
        change (Instr.storeAt 88 (.pointer (some ⟨g, i * 21, none⟩)) (.agg (recA encP r))).run Tryz.prog w11 = _ at hrun
        rw [← HV.out] at hrun
        have H12 := Lib.hid ho12
        clear ho11 ho12 hb11
        go_wp2_with (first | (refine wpList_load_at rfl _ _ rfl _ _ rfl LB ?_) | (refine wpList_store_any rfl rfl _ _ _ rfl _ _ rfl rfl hrun ?_))
        go_roundw
        case rel =>
          refine ⟨i + 1, j + 1, cur.set i r, by go_num, by go_num, by omega, by omega, H12.out, by rw [List.length_set]; exact HR.out.2.1, ?_, ?_⟩
          · rw [H10.out.2.2.2.1, List.filter_append, ← HR.out.2.2.1, List.filter_cons_of_pos (by rw [← H10.out.2.2.1]; rfl), List.filter_nil]
            have hil : i < (cur.set i r).length := by rw [List.length_set, HR.out.2.1]; omega
            rw [List.take_succ_eq_append_getElem hil, List.take_set_of_le (Nat.le_refl i), List.getElem_set_self]
          · rw [List.drop_set_of_lt (by omega)]
            exact H10.out.2.2.2.2
        case measure => simp [intOf]; omega
      · go_wp2_with (first | (refine wpList_load_at rfl _ _ rfl _ _ rfl LB ?_))
        refine CD.mono ?_
        clear CD LB
        rintro e w11 ⟨rfl, hb11⟩
        have H11 := Lib.hid (H10.out.1.later hb11)
        clear hb11
        go_wp2_with fail
        go_roundw
        case rel =>
          refine ⟨i, j + 1, cur, rfl, by go_num, by omega, by omega, H11.out, HR.out.2.1, ?_, H10.out.2.2.2.2⟩
          rw [H10.out.2.2.2.1, List.filter_append, ← HR.out.2.2.1, List.filter_cons_of_neg (by rw [← H10.out.2.2.1]; decide), List.filter_nil, List.append_nil]
        case measure => simp [intOf]; omega
    · obtain rfl : j = n := by omega
      have t1 : decide ((j : Int) < (j : Int)) = false := decide_eq_false (by omega)
      have t1' : decide (j < j) = false := decide_eq_false (by omega)
      have SF := fun W => slice_from HR.out.1 (i := i) (by rw [HR.out.2.1]; exact hij) W
      obtain ⟨w12, hcl, ho12⟩ := HR.out.1.clear (i := i) (by rw [HR.out.2.1]; exact hij)
      have ST := fun W => slice_to HR.out.1 (i := i) (by rw [HR.out.2.1]; omega) W
      have hfin : l.filter (fun r => !hasN name r) = cur.take i := by
        rw [HR.out.2.2.1, List.take_of_length_le (by rw [HH.out.2.2.1]; exact Nat.le_refl _)]
      rw [← hfin] at ho12
      have H12 := Lib.hid ho12
      clear ho12 hfin
      go_wp2_with (first | (refine wpList_slice_at rfl _ _ _ _ _ rfl _ _ _ _ _ rfl rfl rfl rfl (SF _) ?_) | (refine wpList_slice_at rfl _ _ _ _ _ rfl _ _ _ _ _ rfl rfl rfl rfl (ST _) ?_))
      go_ret
      exact ⟨i, rfl, H12.out⟩
end Go.Proofs.YtponfkfeflnilaaGreatDoor
namespace Go.Proofs.YtponfkfeflnilaaGreatDoor
open Go.RowKit Go.Mix Go.WideMaps Go.Maps

def rmS (S : StP) (path : Bytes) : StP × Int := if (removeS S path).2 = 6 then ((removeS S path).1, 0) else removeS S path
noncomputable def pkL (S : StP) (f : Bytes) : List RefP := (packK S.files f).getD []
noncomputable def dropPk (S : StP) (f name : Bytes) : StP × Int := if (pkL S f).any (hasN name) then layS S f packedT (textP ((pkL S f).filter fun r => !hasN name r)) else (S, 0)
noncomputable def dropS (S : StP) (f name : Bytes) : StP × Int := if rightN name then (match allK S f with
  | none => (S, 4)
  | some L => match getP L name with
    | none => (S, 6)
    | some _ => andS (dropPk S f name) fun S1 => rmS S1 (f ++ name)) else (S, 1)
theorem packK_of_all {S : StP} {f : Bytes} {L : Refs} (h : allK S f = some L) : packK S.files f = some (pkL S f) := by
  unfold pkL
  unfold allK at h
  cases hp : packK S.files f with
  | none => rw [hp] at h; cases h
  | some l => rfl
theorem ordP_filter {l : List RefP} (h : OrdP l) (p : RefP → Bool) : OrdP (l.filter p) :=
  sorted_ord (List.Pairwise.filter _ (ord_sorted h)) fun r hr => (ord_line h r (List.mem_filter.1 hr).1).1

set_option maxRecDepth 100000 in
set_option maxHeartbeats 8000000 in
theorem Drop_any {own : Owns} {w : World} {p Z : Nat} {S : StP} {front : Bytes} (h : StoreAt own w p S) (hr : RefsIn Z S (frontL front)) (hm : MaxAt own w) (hf : front.length ≤ 1000) (name : Bytes) (hn : name.length ≤ 1000000) :
    Calls Tryz.prog 24 #[ptr p, .string (strOf front), .string (strOf name)] w fun e w' => Left own w p (dropS S (frontL front) name) e w' := by
  obtain ⟨Z0, hZ0⟩ : ∃ Z, Z = idA id0 := ⟨_, rfl⟩
  have z : ∀ w, (zeroValue 42).run Tryz.prog w = .ok (.agg Z0) w := fun w => by rw [hZ0]; kernel_rfl
  have ziZ : (Tryz.prog.info? 42).map (·.size) = some Z0.size := by rw [hZ0, idA_size]; kernel_rfl
  have z1Z : Z0.all (·.oneCell') = true := by rw [hZ0]; exact idA_one id0
  have HZ := Lib.hid hZ0
  have zL : ∀ w, (zeroValue 106).run Tryz.prog w = .ok (.agg #[.pointer none, .string ByteArray.empty]) w := fun w => by kernel_rfl
  have gN : Below w.heap.size w (w.alloc (.cells #[.string (strOf name)] 9)) := (Below.refl _ _).alloc (Nat.le_refl _) _
  have bN : (w.alloc (.cells #[.string (strOf name)] 9)).heap[w.heap.size]? = some (.cells #[.string (strOf name)] 9 (0, 0)) := heap_alloc_last _ _ _ rfl
  obtain ⟨fl, hfl⟩ : ∃ f, f = frontL front := ⟨_, rfl⟩
  have hfll : fl.length ≤ 1001 := by rw [hfl]; unfold frontL; split <;> simp <;> omega
  have hsk : dropS S fl name = if rightN name then (match allK S fl with | none => (S, (4 : Int)) | some L => match getP L name with | none => (S, 6) | some _ => andS (dropPk S fl name) fun S1 => rmS S1 (fl ++ name)) else (S, 1) := rfl
  rw [← hfl] at hr ⊢
  obtain ⟨SK, hSK⟩ : ∃ G, G = dropS S fl name := ⟨_, rfl⟩
  rw [← hSK] at hsk ⊢
  have C0 := rightN_any name hn (w.alloc (.cells #[.string (strOf name)] 9)) (hm.is.below gN)
  obtain ⟨R0, hR0⟩ : ∃ R, R = rightN name := ⟨_, rfl⟩
  rw [← hR0] at C0 hsk
  obtain ⟨XN, hXN⟩ : ∃ R, R = w.heap.size := ⟨_, rfl⟩
  have HH := Lib.hid (And.intro h (And.intro hr (And.intro hm (And.intro hf (And.intro hn hfl)))))
  have HG := Lib.hid (And.intro hsk hR0)
  rw [← hXN] at bN
  have H1 := Lib.hid (And.intro gN bN)
  obtain ⟨F, hF⟩ : ∃ F, F = strOf front := ⟨_, rfl⟩
  obtain ⟨NM, hNM⟩ : ∃ F, F = strOf name := ⟨_, rfl⟩
  have HF := Lib.hid (And.intro hF hNM)
  have HXN := Lib.hid hXN
  rw [← hNM] at C0 H1
  have cN := cell_blk H1.out.2 0 _ rfl
  rw [← hF, ← hNM]
  clear h hr hm hf hn hsk gN bN hSK hR0 hF hNM hfl hZ0
  go_enter Tryz.func24, Tryz.ntmps24
  go_upto_region 1 with (fail)
  rw [← hXN] at ⊢
  clear hXN
  generalize w.alloc (.cells #[.string NM] 9) = w1 at *
  go_wp2_with fail
  refine C0.mono ?_
  clear C0
  rintro e w2 ⟨rfl, hb2⟩
  cases R0
  case false =>
    have hg : SK = (S, 1) := by have := HG.out.1; simpa using this
    have HE := Lib.hid (And.intro hg (Grow.trans H1.out.1 hb2))
    clear hg hb2 cN
    go_wp2_with fail
    go_ret
    rw [HE.out.1]
    exact Left.stay HH.out.1 HE.out.2
  have C1 := at_any p front (by have := HH.out.2.2.2.1; omega) w2
  rw [← HF.out.1, ← HH.out.2.2.2.2.2] at C1
  have hnl : name.length ≤ 200 := (right_ten HG.out.2.symm).2
  have H2 := Lib.hid (And.intro (Grow.trans H1.out.1 hb2) (blockR_below H1.out.2 hb2))
  clear hb2 cN
  go_wp2_with fail
  refine C1.mono ?_
  clear C1
  rintro e w3 ⟨rfl, hb3⟩
  have hzb : (w3.alloc (.cells #[.pointer none, .string ByteArray.empty] 106)).heap[w3.heap.size]? = some (.cells #[.pointer none, .string ByteArray.empty] 106 (0, 0)) := heap_alloc_last _ _ _ rfl
  have zi : (Tryz.prog.info? 106).map (·.size) = some (placeA p fl).size := by kernel_rfl
  have zs : (#[.pointer none, .string ByteArray.empty] : Array Value).size = (placeA p fl).size := rfl
  have z1 : (placeA p fl).all (·.oneCell') = true := all_oneCell_toArray (cs := [ptr p, .string (strOf fl)]) (fun u hu => by
    rcases List.mem_cons.1 hu with rfl | hu
    · rfl
    · rw [List.mem_singleton] at hu; subst hu; rfl)
  have gA : Below w3.heap.size w3 ((w3.alloc (.cells #[.pointer none, .string ByteArray.empty] 106)).setRow w3.heap.size (placeA p fl)) := below_setRow ((Below.refl _ _).alloc (Nat.le_refl _) _) (Nat.le_refl _) _
  have hrw := setRow_heap _ _ _ (placeA p fl) _ _ hzb
  have hg3 := Grow.trans H2.out.1 hb3
  have HA := Lib.hid (And.intro hrw (And.intro (Grow.trans hg3 gA) (And.intro hg3.size (blockR_below H2.out.2 (Grow.trans hb3 gA)))))
  clear gA hrw hb3 hg3
  go_upto_region 4 with (refine wpList_store_row rfl 106 _ _ rfl w3.heap.size (placeA p fl) rfl rfl 106 _ hzb zi zs z1 ?_)
  have H3 := HA.out
  obtain ⟨X, hX⟩ : ∃ X, X = w3.heap.size := ⟨_, rfl⟩
  rw [← hX] at H3 ⊢
  clear HA hzb hX zi zs z1
  generalize (w3.alloc (.cells #[.pointer none, .string ByteArray.empty] 106)).setRow X (placeA p fl) = w4 at *
  have L4 := place_load H3.1
  have C2 := all_any (HH.out.1.below H3.2.1) HH.out.2.1 (HH.out.2.2.1.is.below H3.2.1)
  have H4 := Lib.hid H3
  clear H3
  go_wp2_with (first | (refine wpList_load_at rfl _ _ rfl _ _ rfl L4 ?_))
  refine C2.mono ?_
  clear C2 L4
  rintro e w5 hpost
  rcases hpost with ⟨L, hL, M, rfl, hmap, -, hb5⟩ | ⟨hL, rfl, hb5⟩
  case inr =>
    have hg : SK = (S, 4) := by have := HG.out.1; rw [hL] at this; simpa using this
    have HE := Lib.hid (And.intro hg (Grow.trans H4.out.2.1 hb5))
    clear hg hb5 hL
    go_wp2_with fail
    go_ret
    rw [HE.out.1]
    exact Left.stay HH.out.1 HE.out.2
  have hg : SK = match getP L name with | none => (S, (6 : Int)) | some _ => andS (dropPk S fl name) fun S1 => rmS S1 (fl ++ name) := by have := HG.out.1; rw [hL] at this; simpa using this
  have LK := hmap.look_ok name (by omega)
  rw [← HF.out.2] at LK
  obtain ⟨ox, hox⟩ : ∃ ox, ox = getP L name := ⟨_, rfl⟩
  rw [← hox] at LK hg
  obtain ⟨x, hx⟩ : ∃ x, x = ox.getD id0 := ⟨_, rfl⟩
  rw [← hx] at LK
  have hz7 : (w5.alloc (.cells Z0 42)).heap[w5.heap.size]? = some (.cells Z0 42 (0, 0)) := heap_alloc_last _ _ _ rfl
  have hg7 : Below w5.heap.size w5 ((w5.alloc (.cells Z0 42)).setRow w5.heap.size (idA x)) := below_setRow ((Below.refl _ _).alloc (Nat.le_refl _) _) (Nat.le_refl _) _
  have zs : Z0.size = (idA x).size := by rw [HZ.out]; simp [idA, idc_len]
  have zi : (Tryz.prog.info? 42).map (·.size) = some (idA x).size := by rw [show (idA x).size = 20 by simp [idA, idc_len]]; kernel_rfl
  have z1 : (idA x).all (·.oneCell') = true := all_oneCell_toArray (bcells_one _)
  have hb57 := Grow.trans hb5 hg7
  have bN5 := blockR_below H4.out.2.2.2 hb5
  have cN := cell_blk bN5 0 _ rfl
  have H7 := Lib.hid (And.intro hg (And.intro (Grow.trans H4.out.2.1 hb57) (And.intro (blockR_below H4.out.1 hb57) (And.intro (blockR_below H4.out.2.2.2 hb57) (packK_of_all hL)))))
  clear hb5 hg hmap hL hox hx hg7 hb57 bN5
  go_upto_region 8 with (refine wpList_store_row rfl 42 _ _ rfl w5.heap.size (idA x) rfl rfl 42 Z0 hz7 zi zs z1 ?_)
  clear LK hz7 cN zs zi z1
  obtain ⟨X7, hX7⟩ : ∃ X, X = w5.heap.size := ⟨_, rfl⟩
  have H8 := H7.out
  rw [← hX7] at H8 ⊢
  clear hX7 H7
  generalize (w5.alloc (.cells Z0 42)).setRow X7 (idA x) = w6 at *
  cases ox with
  | none =>
    have HE := Lib.hid (And.intro H8.1 H8.2.1)
    clear H8
    go_wp2_with fail
    go_ret
    rw [HE.out.1]
    exact Left.stay HH.out.1 HE.out.2
  | some y =>
    have C3 := packed_any (HH.out.1.below H8.2.1) HH.out.2.1 (HH.out.2.2.1.is.below H8.2.1)
    have L6 := place_load H8.2.2.1
    have H6 := Lib.hid H8
    clear H8
    go_wp2_with (first | (refine wpList_load_at rfl _ _ rfl _ _ rfl L6 ?_))
    refine C3.mono ?_
    clear C3 L6
    rintro e w7 hpost
    obtain ⟨l, hl⟩ : ∃ l, l = pkL S fl := ⟨_, rfl⟩
    have hpost2 : ∃ v, e = .returned (.tuple #[v, .int .i64 0]) ∧ OwnR encP 21 88 w6 w7 v l := by
      have hpk := H6.out.2.2.2.2
      rcases hpost with ⟨l', hl', v, rfl, ho⟩ | ⟨hl', -⟩
      · rw [hpk] at hl'; injection hl' with hl'
        exact ⟨v, rfl, by rw [hl, hl']; exact ho⟩
      · rw [hpk] at hl'; cases hl'
    obtain ⟨v7, rfl, ho7⟩ := hpost2
    obtain ⟨a7, c7, rfl, hrs7, hpl7⟩ := ho7.rs tyP
    have hb7 := ho7.frame
    have hll : l.length ≤ 1000 := by
      have h1 := H6.out.2.2.2.2
      have h2 := parsePk_len h1
      have h3 := HH.out.2.1.pack
      rw [hl]; omega
    have hord : OrdP l := by rw [hl]; exact (parsePk_some H6.out.2.2.2.2).1
    have bN6 := H6.out.2.2.2.1
    have cN6 := cell_blk bN6 0 _ rfl
    have cN7 := cell_blk (blockR_below bN6 hb7) 0 _ rfl
    rw [HF.out.2] at cN6 cN7
    have C4 := containsFunc_any hrs7 cN7 (by omega)
    obtain ⟨D, hD⟩ : ∃ D, D = l.any (hasN name) := ⟨_, rfl⟩
    rw [← hD] at C4
    have hdp : dropPk S fl name = if D then layS S fl packedT (textP (l.filter fun r => !hasN name r)) else (S, 0) := by rw [hD, hl]; rfl
    have hg7 := Grow.trans H6.out.2.1 hb7
    have H7 := Lib.hid (And.intro ho7 (And.intro hg7 (And.intro (blockR_below H6.out.2.2.1 hb7) (And.intro (blockR_below bN6 hb7) (And.intro hD (And.intro hdp (And.intro cN6 (And.intro hord (And.intro hpl7 hll)))))))))
    obtain ⟨n7, hn7⟩ : ∃ n, n = l.length := ⟨_, rfl⟩
    have HN7 := Lib.hid hn7
    rw [← hn7] at C4 ⊢
    clear hrs7 hb7 cN7 cN6 bN6 hdp hg7 hD ho7 hl hpl7 hord hll hn7
    go_wp2_with fail
    refine C4.mono ?_
    clear C4
    rintro e w8 ⟨rfl, hb8⟩
    have hg8 := Grow.trans H7.out.2.1 hb8
    have bX8 := blockR_below H7.out.2.2.1 hb8
    have bN8 := blockR_below H7.out.2.2.2.1 hb8
    cases D
    case false =>
      have hg9 : SK = rmS S (fl ++ name) := by rw [H6.out.1, H7.out.2.2.2.2.2.1]; exact andS_ok S _
      have hst := HH.out.1.below hg8
      have hT := Turn.below (T := Any) hg8 HH.out.1.lt
      have hok := HH.out.2.1.ok
      obtain ⟨S1, hS1⟩ : ∃ S1, S1 = S := ⟨_, rfl⟩
      obtain ⟨own1, hown1⟩ : ∃ o, o = own := ⟨_, rfl⟩
      rw [← hS1] at hg9 hok
      rw [← hS1, ← hown1] at hst
      have hT : Turn Any own own1 w w8 := by rw [hown1]; exact hT
      have hZc : Z ≤ 100000000 := by have := HH.out.2.1.big; omega
      clear hg8 hb8 hS1 hown1
      have c0 : w8.cell? ⟨X, 0, none⟩ = some (ptr p) := by rw [cell_of_row _ _ _ _ _ _ bX8]; rfl
      have c1 : w8.cell? ⟨X, 1, none⟩ = some (.string (strOf fl)) := by rw [cell_of_row _ _ _ _ _ _ bX8]; rfl
      have cN := cell_blk bN8 0 _ rfl
      rw [HF.out.2] at cN
      have A1 := fun W => str_add fl name (by omega) (by omega) W
      have CR := remove_at hst hok hZc (fl ++ name) (by rw [List.length_append]; omega)
      obtain ⟨S3, hS3⟩ : ∃ S3, S3 = (removeS S1 (fl ++ name)).1 := ⟨_, rfl⟩
      obtain ⟨n3, hn3⟩ : ∃ n3, n3 = (removeS S1 (fl ++ name)).2 := ⟨_, rfl⟩
      have hrm : removeS S1 (fl ++ name) = (S3, n3) := by rw [hS3, hn3]
      have hg10 : SK = if n3 = 6 then (S3, 0) else (S3, n3) := by rw [hg9]; unfold rmS; rw [hrm]
      rw [hrm] at CR
      have HX := Lib.hid (And.intro hg10 hT)
      clear hg9 hg10 hst hT hok hZc hrm hS3 hn3 bX8 bN8
      generalize strOf (fl ++ name) = PN at *
      generalize strOf fl = FL at *
      obtain ⟨NS, hNS⟩ : ∃ N, N = strOf name := ⟨_, rfl⟩
      rw [← hNS] at A1 cN
      clear hNS
      go_wp2_with fail
      refine CR.mono ?_
      clear CR A1 c0 c1 cN
      rintro e w20 ⟨rfl, own3, hst3, ht3⟩
      have HY := Lib.hid (And.intro hst3 (HX.out.2.trans ht3))
      clear hst3 ht3
      by_cases hn6 : n3 = 6
      · subst hn6
        have HE := Lib.hid (show SK = (S3, 0) from HX.out.1.trans (if_pos rfl))
        go_wp2_with fail
        go_ret
        rw [HE.out]
        exact ⟨rfl, own3, HY.out.1, HY.out.2⟩
      · have t3 : (n3 == 6) = false := by rw [beq_eq_false_iff_ne]; exact hn6
        have HE := Lib.hid (show SK = (S3, n3) by rw [HX.out.1, if_neg hn6])
        clear hn6
        go_wp2_with fail
        go_ret
        rw [HE.out]
        exact ⟨rfl, own3, HY.out.1, HY.out.2⟩
    case true =>
      obtain ⟨g, rfl⟩ : ∃ g, a7 = some ⟨g, 0, none⟩ := by
        rcases H7.out.1.own.2 with ⟨h1, h2⟩ | ⟨g, cap, cur, h1, _⟩
        · have : l = [] := List.eq_nil_of_length_eq_zero h2
          have hD := H7.out.2.2.2.2.1
          rw [this] at hD; simp at hD
        · injection h1 with h1; exact ⟨g, h1⟩
      have ho8 := H7.out.1.later hb8
      rw [← HN7.out] at ho8
      have C5 := deleteFunc_any ho8 H7.out.2.2.2.2.2.2.1 (by have := H7.out.2.2.2.2.2.2.2.2.2; omega) H7.out.2.2.2.2.1.symm
      have H8 := Lib.hid (And.intro hg8 (And.intro bX8 bN8))
      clear hg8 bX8 bN8 hb8 ho8
      go_wp2_with fail
      refine C5.mono ?_
      clear C5
      rintro e w9 ⟨m9, rfl, ho9⟩
      obtain ⟨l9, hl9⟩ : ∃ l9, l9 = l.filter fun r => !hasN name r := ⟨_, rfl⟩
      rw [← hl9] at ho9
      obtain ⟨a9, c9, hv9, hrs9, -⟩ := ho9.rs tyP
      have hb9 := ho9.frame
      have hg9 := Grow.trans H6.out.2.1 hb9
      injection hv9 with e1 e2 e3
      subst e1 e2 e3
      have hl9n : l9.length ≤ 1000 := by rw [hl9]; exact Nat.le_trans (List.length_filter_le _ _) H7.out.2.2.2.2.2.2.2.2.2
      have hord9 : OrdP l9 := by rw [hl9]; exact ordP_filter H7.out.2.2.2.2.2.2.2.1 _
      have hnm9 : ∀ r ∈ l9, r.name.length ≤ 200 := fun r hm => (ord_line hord9 r hm).2.2
      have C6 := printPk_any hrs9 (by omega) (fun r hr => by have := hnm9 r hr; omega) (HH.out.2.2.1.is.below hg9)
      have bX9 := blockR_below H6.out.2.2.1 hb9
      have bN9 := blockR_below H6.out.2.2.2.1 hb9
      obtain ⟨m9, hm9⟩ : ∃ n, n = l9.length := ⟨_, rfl⟩
      rw [← hm9] at C6 ⊢
      have H9 := Lib.hid (And.intro hg9 (And.intro bX9 (And.intro bN9 (And.intro hord9 (And.intro hl9 (And.intro hnm9 hl9n))))))
      clear ho9 hrs9 hb9 hg9 hl9n hord9 hnm9 bX9 bN9 hl9 hm9
      go_wp2_with fail
      refine C6.mono ?_
      clear C6
      rintro e w10 ⟨hp1, -, hb10⟩
      obtain ⟨b10, c10, rfl, hsl10, hfar10⟩ := hp1 H9.out.2.2.2.1
      obtain ⟨B, hB⟩ : ∃ B, B = textP l9 := ⟨_, rfl⟩
      rw [← hB] at hsl10 ⊢
      have hg10 := Grow.trans H9.out.1 hb10
      have hBl : B.length ≤ 242000 := by
        have h1 := textP_len 200 l9 H9.out.2.2.2.2.2.1
        have h2 := H9.out.2.2.2.2.2.2
        rw [hB]; omega
      have hno : B ≠ [] → ∀ x, b10 = some x → own x.block = none := fun _ x hx => HH.out.1.none_new (Nat.le_trans H9.out.1.size (hfar10 x hx))
      have C7 := lay_any (HH.out.1.below hg10) HH.out.2.1.ok HH.out.2.1.big (f := fl) (name := packedT) hfll (by decide) hsl10 (by omega) hno
      rw [show strOf packedT = ⟨#[112, 97, 99, 107, 101, 100, 45, 114, 101, 102, 115]⟩ from rfl] at C7
      have bX10 := blockR_below H9.out.2.1 hb10
      have bN10 := blockR_below H9.out.2.2.1 hb10
      have L10 := place_load bX10
      have hdp : dropPk S fl name = layS S fl packedT B := by rw [hB, H9.out.2.2.2.2.1]; exact H7.out.2.2.2.2.2.1.trans (if_pos trivial)
      have H10 := Lib.hid (And.intro hg10 (And.intro bX10 (And.intro bN10 (And.intro hdp hBl))))
      clear hp1 hsl10 hfar10 hg10 hBl hno hb10 hdp bX10 bN10 hB
      obtain ⟨NB, hNB⟩ : ∃ n, n = B.length := ⟨_, rfl⟩
      rw [← hNB] at C7 ⊢
      clear hNB
      go_wp2_with (first | (refine wpList_load_at rfl _ _ rfl _ _ rfl L10 ?_))
      refine C7.mono ?_
      clear C7 L10
      rintro e w11 ⟨rfl, own1, hst, ht11⟩
      obtain ⟨S1, hS1⟩ : ∃ S1, S1 = (layS S fl packedT B).1 := ⟨_, rfl⟩
      obtain ⟨n1, hn1⟩ : ∃ n1, n1 = (layS S fl packedT B).2 := ⟨_, rfl⟩
      have hlay : layS S fl packedT B = (S1, n1) := by rw [hS1, hn1]
      have hT : Turn Any own own1 w w11 := (Turn.below (T := Any) H10.out.1 HH.out.1.lt).trans ht11
      have hg3 : SK = andS (S1, n1) fun S1 => rmS S1 (fl ++ name) := by rw [H6.out.1, H10.out.2.2.2.1, hlay]
      have hok := HH.out.2.1.ok.lay fl packedT B
      rw [hlay] at hst hok
      rw [← hn1]
      have hXn : own X = none := HH.out.1.none_new H4.out.2.2.1
      have hNn : own XN = none := HH.out.1.none_new (by rw [HXN.out]; exact Nat.le_refl _)
      obtain ⟨kx, -⟩ := turn_block ht11 hXn (lt_of_block H10.out.2.1)
      obtain ⟨kn, -⟩ := turn_block ht11 hNn (lt_of_block H10.out.2.2.1)
      have bX8 := kx.trans H10.out.2.1
      have bN8 := kn.trans H10.out.2.2.1
      clear ht11 hS1 hn1 hlay hXn hNn kx kn
      by_cases hn1 : n1 = 0
      case neg =>
        have t1 : (n1 == 0) = false := by rw [beq_eq_false_iff_ne]; exact hn1
        have hg4 : SK = (S1, n1) := by rw [hg3]; exact andS_no S1 hn1 _
        have HE := Lib.hid (And.intro hg4 (And.intro hst hT))
        clear hg4 hn1 hg3 hst hT hok bX8 bN8
        go_wp2_with fail
        go_ret
        rw [HE.out.1]
        exact ⟨rfl, own1, HE.out.2.1, HE.out.2.2⟩
      subst hn1
      have hg9 : SK = rmS S1 (fl ++ name) := by rw [hg3]; exact andS_ok S1 _
      have hZc : Z + B.length + 2 ≤ 100000000 := by have := HH.out.2.1.big; have := H10.out.2.2.2.2; omega
      clear hg3
      have c0 : w11.cell? ⟨X, 0, none⟩ = some (ptr p) := by rw [cell_of_row _ _ _ _ _ _ bX8]; rfl
      have c1 : w11.cell? ⟨X, 1, none⟩ = some (.string (strOf fl)) := by rw [cell_of_row _ _ _ _ _ _ bX8]; rfl
      have cN := cell_blk bN8 0 _ rfl
      rw [HF.out.2] at cN
      have A1 := fun W => str_add fl name (by omega) (by omega) W
      have CR := remove_at hst hok hZc (fl ++ name) (by rw [List.length_append]; omega)
      obtain ⟨S3, hS3⟩ : ∃ S3, S3 = (removeS S1 (fl ++ name)).1 := ⟨_, rfl⟩
      obtain ⟨n3, hn3⟩ : ∃ n3, n3 = (removeS S1 (fl ++ name)).2 := ⟨_, rfl⟩
      have hrm : removeS S1 (fl ++ name) = (S3, n3) := by rw [hS3, hn3]
      have hg10 : SK = if n3 = 6 then (S3, 0) else (S3, n3) := by rw [hg9]; unfold rmS; rw [hrm]
      rw [hrm] at CR
      have HX := Lib.hid (And.intro hg10 hT)
      clear hg9 hg10 hst hT hok hZc hrm hS3 hn3 bX8 bN8
      generalize strOf (fl ++ name) = PN at *
      generalize strOf fl = FL at *
      obtain ⟨NS, hNS⟩ : ∃ N, N = strOf name := ⟨_, rfl⟩
      rw [← hNS] at A1 cN
      clear hNS
      go_wp2_with fail
      refine CR.mono ?_
      clear CR A1 c0 c1 cN
      rintro e w20 ⟨rfl, own3, hst3, ht3⟩
      have HY := Lib.hid (And.intro hst3 (HX.out.2.trans ht3))
      clear hst3 ht3
      by_cases hn6 : n3 = 6
      · subst hn6
        have HE := Lib.hid (show SK = (S3, 0) from HX.out.1.trans (if_pos rfl))
        go_wp2_with fail
        go_ret
        rw [HE.out]
        exact ⟨rfl, own3, HY.out.1, HY.out.2⟩
      · have t3 : (n3 == 6) = false := by rw [beq_eq_false_iff_ne]; exact hn6
        have HE := Lib.hid (show SK = (S3, n3) by rw [HX.out.1, if_neg hn6])
        clear hn6
        go_wp2_with fail
        go_ret
        rw [HE.out]
        exact ⟨rfl, own3, HY.out.1, HY.out.2⟩
end Go.Proofs.YtponfkfeflnilaaGreatDoor
