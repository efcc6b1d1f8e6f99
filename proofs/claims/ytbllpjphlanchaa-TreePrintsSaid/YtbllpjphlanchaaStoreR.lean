/-
  A struct stored into a row of the call's own: 's[i] = x'.
-/
import Derived.Test.YtbllpjphlanchaaRecs
import Derived.Test.YtbllpjphlanchaaSortPlain
import Derived.Test.YtbllpjphlanchaaMixG
namespace Go.Proofs.Ytbllpjphlanchaa
open Go.RowKit Go.Mix

theorem setCells_row (g : Nat) (e : TypeId) : ∀ (vs : List Value) (o : Nat) (w : World) (C : Array Value), w.heap[g]? = some (.cells C e (0, 0)) → o + vs.length ≤ C.size →
    ∃ C', (w.setCells g o vs).heap[g]? = some (.cells C' e (0, 0)) ∧ C'.toList = C.toList.take o ++ vs ++ C.toList.drop (o + vs.length)
  | [], o, w, C, h, _ => ⟨C, h, by simp⟩
  | v :: vs, o, w, C, h, hl => by
    simp only [List.length_cons] at hl
    obtain ⟨C', h1, h2⟩ := setCells_row g e vs (o + 1) (w.setCell ⟨g, o, none⟩ v) (C.setIfInBounds o v) (heap_setCell_same w g o C e v h) (by rw [Array.size_setIfInBounds]; omega)
    refine ⟨C', h1, ?_⟩
    rw [h2, Array.toList_setIfInBounds]
    have hlt : o < C.toList.length := by rw [Array.length_toList]; omega
    rw [List.take_add_one, List.take_set_of_le (Nat.le_refl o), List.drop_set_of_lt (by omega), List.length_cons, show o + 1 + vs.length = o + (vs.length + 1) by omega]
    have hlt2 : o < C.size := by rw [Array.length_toList] at hlt; exact hlt
    simp [hlt2]
theorem setCells_below {B : Nat} (g : Nat) (hg : B ≤ g) : ∀ (vs : List Value) (o : Nat) (a w : World), Below B a w → Below B a (w.setCells g o vs)
  | [], _, _, _, h => h
  | v :: vs, o, a, _, h => setCells_below g hg vs (o + 1) a _ (h.setCell (p := ⟨g, o, none⟩) hg v)

section
variable {α : Type} [Inhabited α] {enc : α → List Value} {L : Nat} {t e : TypeId}
theorem RecTy.flat_set (T : RecTy α enc L t e) (x : α) : ∀ (l : List α) (i : Nat), i < l.length → flatR enc (l.set i x) = (flatR enc l).take (i * L) ++ enc x ++ (flatR enc l).drop (i * L + L)
  | [], i, h => by simp at h
  | y :: l, 0, _ => by
    rw [List.set_cons_zero]
    have e1 : ∀ z, flatR enc (z :: l) = enc z ++ flatR enc l := fun z => by simp [flatR]
    have h2 := T.len y
    rw [e1, e1, Nat.zero_mul, List.take_zero, List.nil_append, Nat.zero_add, List.drop_append_of_le_length (by omega), List.drop_of_length_le (by omega), List.nil_append]
  | y :: l, i + 1, h => by
    rw [List.set_cons_succ]
    have e1 : ∀ (z : α) (l : List α), flatR enc (z :: l) = enc z ++ flatR enc l := fun z l => by simp [flatR]
    have h2 := T.len y
    rw [e1, e1, RecTy.flat_set T x l i (by simp at h; omega), Nat.succ_mul]
    rw [List.take_append, List.take_of_length_le (l := enc y) (by omega), List.drop_append, List.drop_of_length_le (l := enc y) (by omega)]
    rw [h2, show i * L + L - L = i * L by omega, show i * L + L + L - L = i * L + L by omega, List.nil_append]
    simp only [List.append_assoc]

/-- 's[i] = x' in a row of the call's own. -/
theorem OwnR.store (T : RecTy α enc L t e) {w0 w : World} {g n c : Nat} {l : List α} (h : OwnR enc L e w0 w (.slice (some ⟨g, 0, none⟩) n c) l) (x : α) (i : Nat) (hi : i < l.length) :
    (Instr.storeAt e (.pointer (some ⟨g, i * L, none⟩)) (.agg (recA enc x))).run Try.prog w = .ok () (w.setCells g (i * L) (enc x)) ∧ OwnR enc L e w0 (w.setCells g (i * L) (enc x)) (.slice (some ⟨g, 0, none⟩) n c) (l.set i x) := by
  rcases h.own.2 with ⟨hv, _⟩ | ⟨g', cap, cur, hv, hb, hh, hn, hm, hcs, ht⟩
  · cases hv
  injection hv with h1 h2 h3
  injection h1 with h1
  injection h1 with h1
  subst h1 h2 h3
  have hfl := T.flat_len l
  have hmul : i * L + L ≤ l.length * L := by have := Nat.mul_le_mul_right L (show i + 1 ≤ l.length from hi); rw [Nat.succ_mul] at this; exact this
  have hmul2 := Nat.mul_le_mul_right L hn
  have hsz : (recA enc x).size = L := by simp [recA, T.len]
  have hl := T.len x
  obtain ⟨C', hC, hC2⟩ := setCells_row g e (enc x) (i * L) w cur hh (by rw [hl, hcs]; omega)
  refine ⟨?_, ⟨by rw [T.flat_len, List.length_set], .inr ⟨g, c, C', ?_, hb, hC, ?_, hm, ?_, ?_⟩⟩, setCells_below g hb (enc x) _ _ _ h.frame⟩
  · have := run_storeAt_mid (P := Try.prog) w g (i * L) e (recA enc x) (fun j hj => by
      rw [hsz] at hj
      refine ⟨?_, ?_⟩
      · rw [cell_of_row _ _ _ _ _ _ hh]
        simp; omega
      · unfold World.frozen?
        rw [hh]
        simp) (by rw [hsz]; exact T.ie) (all_oneCell_toArray (T.one x))
    exact this
  · rw [List.length_set]
  · rw [List.length_set]; exact hn
  · rw [← Array.length_toList, hC2]
    simp
    omega
  · rw [List.length_set, hC2, T.flat_set x l i hi, ← ht]
    rw [List.take_take, Nat.min_eq_left (by omega), hl]
    have e1 : (cur.toList.take (i * L)).length = i * L := by rw [List.length_take, Array.length_toList]; omega
    rw [List.take_append, List.take_of_length_le (by rw [List.length_append, e1]; omega), List.length_append, e1, hl, ← List.drop_take]

/-- Its values' places, and their loads. -/
theorem OwnR.at (T : RecTy α enc L t e) {w0 w : World} {g n c : Nat} {l : List α} (h : OwnR enc L e w0 w (.slice (some ⟨g, 0, none⟩) n c) l) (k : Nat) (hk : k < l.length) :
    n = l.length ∧ (∀ W : World, (Instr.indexAt t (.slice (some ⟨g, 0, none⟩) n c) (.int .i64 (k : Int))).run Try.prog W = .ok (.pointer (some ⟨g, k * L, none⟩)) W) ∧
      ∀ y : Later w, (Instr.loadAt e (.pointer (some ⟨g, k * L, none⟩))).run Try.prog y.1 = .ok (.agg (recA enc l[k]!)) y.1 := by
  obtain ⟨a, c', hv, hrs, -⟩ := h.rs T
  injection hv with h1 h2 h3
  subst h1 h2 h3
  rcases hrs.cells with rfl | ⟨b, o, he, hc⟩
  · simp at hk
  · injection he with he
    injection he with h1 h2 h3
    subst h1 h2
    have hr := hc k hk
    rw [Nat.zero_add] at hr
    exact ⟨rfl, fun W => by have := T.index g 0 l.length c k hk W; rw [Nat.zero_add] at this; exact this, fun y => T.load _ g _ y.1 (rangeR_below hr y.2)⟩
/-- The same, in a region that draws its order. -/
theorem mg_storeR (T : RecTy α enc L t e) {ops : Array Oper} {Q : Act → World → Prop} {i : Nat} {r : List (Nat × Nat)} {o : Oper} {a : Act} {w : World} (ho : ops[i]? = some o) (hw : Region.wanted o (yielded ops a.tmps) = true)
    (hgd : o.guard = none) (hd : o.dst = none) (x y : Operand) (hop : o.op = .store e x y) {w0 : World} {g n c : Nat} {l : List α} (h : OwnR enc L e w0 w (.slice (some ⟨g, 0, none⟩) n c) l) (p : α) (k : Nat) (hk : k < l.length)
    (hx : a.eval x = .pointer (some ⟨g, k * L, none⟩)) (hy : a.eval y = .agg (recA enc p)) (hK : ∀ w', OwnR enc L e w0 w' (.slice (some ⟨g, 0, none⟩) n c) (l.set k p) → MG Try.prog ops Q r a w') :
    MG Try.prog ops Q ((i, 2) :: r) a w :=
  mg_sync ho hw fun w' hw' K hK2 => wpList_plain hgd fun K' hK' => by
    have s := OwnR.store T (h.later hw') p k hk
    unfold Oper.wp execOp
    simp only [hop, hx, hy, Sem.run_bind, Sem.run_pure, Result.andThen_ok, s.1]
    refine hK' _ _ ?_
    rw [hd]
    exact hK2 _ _ (hK _ s.2)
theorem mg_pure {P : Program} {ops : Array Oper} {Q : Act → World → Prop} {i : Nat} {r : List (Nat × Nat)} {o : Oper} {a : Act} {w : World} (ho : ops[i]? = some o)
    (h : ∀ K : Act → Prop, (∀ a, MG P ops Q r a w → K a) → pureStep P ops o K a) : MG P ops Q ((i, 3) :: r) a w :=
  ⟨mix_pure ho fun K hK => h K fun a h => hK a h.out⟩
end
end Go.Proofs.Ytbllpjphlanchaa
