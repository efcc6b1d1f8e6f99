/-
  Structs that are built of their fields; slices of one value.
-/
import Derived.Test.YtnlkanhakmkejaaDoorBox
namespace Go.Proofs.YtnlkanhakmkejaaDoor
open Go.RowKit Go.Mix

theorem foldl_place : ∀ (X : List Value) (off k : Nat) (C : Array Value), off + k + X.length ≤ C.size →
    ((X.zipIdx k).foldl (fun cs (c : Value × Nat) => cs.setIfInBounds (off + c.2) c.1) C).toList = C.toList.take (off + k) ++ X ++ C.toList.drop (off + k + X.length)
  | [], off, k, C, _ => by simp
  | x :: X, off, k, C, h => by
    simp only [List.length_cons] at h
    have hlt : off + k < C.toList.length := by rw [Array.length_toList]; omega
    rw [List.zipIdx_cons, List.foldl_cons, foldl_place X off (k + 1) _ (by rw [Array.size_setIfInBounds]; omega)]
    rw [Array.toList_setIfInBounds, List.length_cons]
    have e1 : (C.toList.set (off + k) x).take (off + (k + 1)) = C.toList.take (off + k) ++ [x] := by
      rw [show off + (k + 1) = off + k + 1 by omega, List.take_add_one, List.take_set_of_le (by omega)]
      simp [List.getElem?_set]
      simpa using hlt
    have e2 : (C.toList.set (off + k) x).drop (off + (k + 1) + X.length) = C.toList.drop (off + k + (X.length + 1)) := by
      rw [List.drop_set_of_lt (by omega), show off + (k + 1) + X.length = off + k + (X.length + 1) by omega]
    rw [e1, e2]
    simp
theorem fill_two {place : Nat → Option (Nat × Nat)} {C X Y : Array Value} {n m : Nat} (h0 : place 0 = some (0, n)) (h1 : place 1 = some (n, m)) (hC : C.size = n + m) (hX : X.size = n) (hY : Y.size = m) :
    Instr.fill place C [(0, .agg X), (1, .agg Y)] = some (X ++ Y) := by
  have f0 : ((X.zipIdx.foldl (fun cs (c : Value × Nat) => cs.setIfInBounds (0 + c.2) c.1) C)).toList = X.toList ++ C.toList.drop n := by
    have := foldl_place X.toList 0 0 C (by simp; omega)
    rw [← Array.foldl_toList, Array.toList_zipIdx, this]; simp [hX]
  have s0 : (X.zipIdx.foldl (fun cs (c : Value × Nat) => cs.setIfInBounds (0 + c.2) c.1) C).size = n + m := by
    rw [← Array.length_toList, f0]; simp [hX, hC]
  have f1 : ((Y.zipIdx.foldl (fun cs (c : Value × Nat) => cs.setIfInBounds (n + c.2) c.1) (X.zipIdx.foldl (fun cs (c : Value × Nat) => cs.setIfInBounds (0 + c.2) c.1) C))).toList = X.toList ++ Y.toList := by
    have := foldl_place Y.toList n 0 (X.zipIdx.foldl (fun cs (c : Value × Nat) => cs.setIfInBounds (0 + c.2) c.1) C) (by rw [s0]; simp; omega)
    rw [← Array.foldl_toList (xs := Y.zipIdx), Array.toList_zipIdx, this, f0]
    have hl : X.toList.length = n := by simpa using hX
    have hd : C.toList.length = n + m := by simpa using hC
    rw [Nat.add_zero, List.take_append_of_le_length (by omega), List.take_of_length_le (by omega), List.drop_of_length_le (by simp; omega), List.append_nil]
  have eX : (Value.agg X).cells = X := rfl
  have eY : (Value.agg Y).cells = Y := rfl
  simp only [Instr.fill, h0, h1, eX, eY, hX, hY, hC, s0, ne_eq, not_true_eq_false, decide_false, Bool.false_or, decide_eq_true_eq]
  rw [if_neg (by omega), if_neg (by omega)]
  congr 1
  exact Array.ext' (by rw [Array.toList_append]; exact f1)
theorem fill_cons {place : Nat → Option (Nat × Nat)} {C : List Value} {k o n : Nat} {v : Value} {rest : List (Nat × Value)} (h0 : place k = some (o, n)) (hv : v.cells.size = n) (hC : o + n ≤ C.length) :
    Instr.fill place C.toArray ((k, v) :: rest) = Instr.fill place (C.take o ++ v.cells.toList ++ C.drop (o + n)).toArray rest := by
  have f0 : ((v.cells.zipIdx.foldl (fun cs (c : Value × Nat) => cs.setIfInBounds (o + c.2) c.1) C.toArray)) = (C.take o ++ v.cells.toList ++ C.drop (o + n)).toArray := by
    have := foldl_place v.cells.toList o 0 C.toArray (by simp; omega)
    refine Array.ext' ?_
    rw [← Array.foldl_toList, Array.toList_zipIdx, this]
    simp [hv]
  simp only [Instr.fill, h0, hv, ne_eq, not_true_eq_false, decide_false, Bool.false_or, decide_eq_true_eq]
  rw [if_neg (by simp; omega)]
  rw [f0]
theorem parts_map {a : Act} {ps : Array (Nat × Operand)} {PS : List (Nat × Value)} (hx : (ps.toList.map fun p => (p.1, a.eval p.2)) = PS) : (ps.map fun (i, x) => (i, a.eval x)) = PS.toArray :=
  Array.ext' (by rw [Array.toList_map]; exact hx)
theorem wpList_build_at {P : Program} {ops : Array Oper} {rest : List Oper} {o : Oper} {a : Act} {w : World} {Q : Exit → Act → World → Prop} (hgd : o.guard = none)
    (ty : TypeId) (ps : Array (Nat × Operand)) (hop : o.op = .build ty ps) (PS : List (Nat × Value)) (v : Value) (hx : (ps.toList.map fun p => (p.1, a.eval p.2)) = PS) (hl : (Instr.build ty PS.toArray).run P w = .ok v w)
    (h : wpList P ops Q rest (a.put o.dst v) w) : wpList P ops Q (o :: rest) a w :=
  wpList_plain hgd fun _ hK => by
    unfold Oper.wp execOp
    simp only [hop, parts_map hx, Sem.run_bind, Sem.run_pure, Result.andThen_ok, hl]
    exact hK _ _ h
theorem wpList_buildSlice_at {P : Program} {ops : Array Oper} {rest : List Oper} {o : Oper} {a : Act} {w w' : World} {Q : Exit → Act → World → Prop} (hgd : o.guard = none)
    (ty : TypeId) (n : Nat) (ps : Array (Nat × Operand)) (hop : o.op = .buildSlice ty n ps) (PS : List (Nat × Value)) (v : Value) (hx : (ps.toList.map fun p => (p.1, a.eval p.2)) = PS) (hl : (Instr.buildSlice ty n PS.toArray).run P w = .ok v w')
    (h : wpList P ops Q rest (a.put o.dst v) w') : wpList P ops Q (o :: rest) a w :=
  wpList_plain hgd fun _ hK => by
    unfold Oper.wp execOp
    simp only [hop, parts_map hx, Sem.run_bind, Sem.run_pure, Result.andThen_ok, hl]
    exact hK _ _ h
theorem fill_nil {place : Nat → Option (Nat × Nat)} {C : Array Value} : Instr.fill place C [] = some C := rfl
theorem built_struct {P : Program} {t : TypeId} {it : TypeInfo} {fields : Array Field} {z : Value} {places : List (Nat × Nat)} {parts : List (Nat × Value)} {cells : Array Value} (hi : P.info? t = some it) (hu : P.underlying t = some (.struct fields))
    (hz : it.zero = some z) (hp : fields.toList.mapM (fun f => (P.info? f.type).map fun i => (f.offset, i.size)) = some places) (h : Instr.fill (places.toArray[·]?) z.cells parts = some cells) : P.built t parts = some cells := by
  unfold Program.built
  rw [hi, hu]
  simp only [hz, hp]
  exact h
/-- A type's cells: its zero value, and where its fields lie. -/
theorem built_at {P : Program} {t : TypeId} {fields : Array Field} {Z : List Value} {places : List (Nat × Nat)} {parts : List (Nat × Value)} {cells : List Value} (hi : (P.info? t).map (·.zero) = some (some (.agg Z.toArray))) (hu : P.underlying t = some (.struct fields))
    (hp : fields.toList.mapM (fun f => (P.info? f.type).map fun i => (f.offset, i.size)) = some places) (h : Instr.fill (places.toArray[·]?) Z.toArray parts = some cells.toArray) (w : World) : (Instr.build t parts.toArray).run P w = .ok (.agg cells.toArray) w := by
  refine run_build w t _ _ ?_
  cases hit : P.info? t with
  | none => rw [hit] at hi; cases hi
  | some it =>
    rw [hit] at hi
    have hz : it.zero = some (.agg Z.toArray) := by injection hi
    exact built_struct hit hu hz hp h

section
variable {α : Type} [Inhabited α] {enc : α → List Value} {L : Nat} {t e : TypeId}

def partsR (enc : α → List Value) (ps : List α) (k : Nat) : List (Nat × Value) := (ps.zipIdx k).map fun x => (x.2, .agg (recA enc x.1))
theorem RecTy.fill (T : RecTy α enc L t e) : ∀ (ps : List α) (k : Nat) (C : List Value), C.length = (k + ps.length) * L → Instr.fill (fun i => some (i * L, L)) C.toArray (partsR enc ps k) = some (C.take (k * L) ++ flatR enc ps).toArray
  | [], k, C, h => by
    rw [List.length_nil, Nat.add_zero] at h
    unfold partsR
    rw [List.zipIdx_nil, List.map_nil, fill_nil, List.take_of_length_le (by omega)]
    simp [flatR]
  | p :: ps, k, C, h => by
    have hz : (recA enc p).size = L := by simp [recA, T.len]
    have e1 : (k + (p :: ps).length) * L = k * L + L + ps.length * L := by rw [List.length_cons, Nat.add_mul, Nat.succ_mul]; omega
    have e2 : (k + 1 + ps.length) * L = k * L + L + ps.length * L := by rw [Nat.add_mul, Nat.succ_mul]
    have h1 := RecTy.fill T ps (k + 1) (C.take (k * L) ++ (Value.agg (recA enc p)).cells.toList ++ C.drop (k * L + L)) (by
      simp only [Value.cells, List.length_append, List.length_take, List.length_drop, Array.length_toList, hz]
      omega)
    unfold partsR at h1 ⊢
    rw [List.zipIdx_cons, List.map_cons]
    show Instr.fill _ _ ((k, Value.agg (recA enc p)) :: _) = _
    rw [fill_cons (v := Value.agg (recA enc p)) (o := k * L) (n := L) rfl hz (by omega), h1]
    congr 1
    congr 1
    have e3 : (k + 1) * L = k * L + L := Nat.succ_mul k L
    have e4 : (C.take (k * L) ++ (Value.agg (recA enc p)).cells.toList).length = (k + 1) * L := by
      simp only [Value.cells, List.length_append, List.length_take, Array.length_toList, hz]
      omega
    rw [List.take_append_of_le_length (by omega), List.take_of_length_le (by omega), List.append_assoc]
    congr 1
/-- 'T{p, q, ..}' of a slice type. -/
theorem RecTy.sliceL (T : RecTy α enc L t e) (ps : List α) (h0 : 0 < ps.length) (h1 : ps.length ≤ 100) (w : World) :
    (Instr.buildSlice t ps.length (partsR enc ps 0).toArray).run Tryd.prog w = .ok (.slice (some ⟨w.heap.size, 0, none⟩) ps.length ps.length) (w.alloc (.cells (flatR enc ps).toArray e)) := by
  obtain ⟨z, by_, hi0, hzs, hby⟩ := T.hi
  obtain ⟨i, hi, hz0, hz1, hz2⟩ := info_parts hi0
  have hpos := T.pos
  have hsm := T.small
  have hm := Nat.mul_le_mul h1 hsm
  have hp : 0 < ps.length * L := Nat.mul_pos h0 hpos
  refine run_buildSlice w t e _ _ _ i _ T.ht hi hz0 (by rw [hz1]; omega) (by rw [hz1]; omega) ?_
  rw [hz1]
  have hs : ((Array.range (ps.length * L)).map (z[· % z.size]!)).toList.length = (0 + ps.length) * L := by simp
  have := T.fill ps 0 _ hs
  simp only [Nat.zero_mul, List.take_zero, List.nil_append] at this
  exact this
theorem RecTy.slice1 (T : RecTy α enc L t e) (p : α) (w : World) :
    (Instr.buildSlice t 1 #[(0, .agg (recA enc p))]).run Tryd.prog w = .ok (.slice (some ⟨w.heap.size, 0, none⟩) 1 1) (w.alloc (.cells (recA enc p) e)) := by
  have := T.sliceL [p] (by simp) (by simp) w
  rw [flatR_one] at this
  exact this
/-- Values that lie in a new block. -/
theorem RecTy.rsNew (T : RecTy α enc L t e) (w : World) (ps : List α) (h0 : ps.length ≤ 9223372036854775807) : RsAt enc L (w.alloc (.cells (flatR enc ps).toArray e)) (some ⟨w.heap.size, 0, none⟩) ps.length ps := by
  refine ⟨Nat.le_refl _, h0, (fun h => nomatch h), .inr ⟨_, 0, rfl, (T.range_flat ps 0).1 fun j v hj => ?_⟩⟩
  rw [cell_of_row _ _ _ _ _ _ (heap_alloc_last w _ _ rfl), Nat.zero_add]
  simpa using hj
end
end Go.Proofs.YtnlkanhakmkejaaDoor
