/-
  Refs: their cells; '==' of refs; refs that are built.
  Packed refs: plain.
  refs.ordered, line, PrintPacked; the document's Ordered and Print: the walks. (Printed by gen/gen_packed.py.)
-/
import Derived.Test.YtponfkfeflnilaaGreatDoorMaRec
import Derived.Test.YtponfkfeflnilaaGreatDoorMaNam
import Derived.Test.YtponfkfeflnilaaGreatDoorMaSha
import Derived.Test.YtponfkfeflnilaaGreatDoorMaBas
import Derived.Lib.ConvBytes
import Derived.Test.YtponfkfeflnilaaGreatDoorMaNamR
namespace Go.Proofs.YtponfkfeflnilaaGreatDoor
open Go.RowKit Go.Mix Go.WideMaps

structure RefP where
  name : Bytes
  id : Id20
deriving DecidableEq
def ref0 : RefP := ⟨[], id0⟩
instance : Inhabited RefP := ⟨ref0⟩
def encP (x : RefP) : List Value := [.string (strOf x.name)] ++ idc x.id
theorem encP_len (x : RefP) : (encP x).length = 21 := by unfold encP; rw [List.length_append, idc_len]; rfl
theorem encP_one (x : RefP) : ∀ u ∈ encP x, u.oneCell' = true := fun u hu => by
  rcases List.mem_append.1 hu with h | h
  · simp at h; subst h; rfl
  · exact bcells_one _ u h
set_option maxRecDepth 100000 in
theorem tyP : RecTy RefP encP 21 26 88 :=
  ⟨by decide, by decide, encP_len, encP_one, Tryz.underlying26, ⟨_, Tryz.underlying88⟩, fun w => by kernel_rfl, by kernel_rfl, ⟨(encP ref0).toArray, 40, by kernel_rfl, by rw [List.size_toArray, encP_len], by decide⟩⟩
set_option maxRecDepth 100000 in
theorem tyD : RecTy RefP encP 21 25 62 :=
  ⟨by decide, by decide, encP_len, encP_one, Tryz.underlying25, ⟨_, Tryz.underlying62⟩, fun w => by kernel_rfl, by kernel_rfl, ⟨(encP ref0).toArray, 40, by kernel_rfl, by rw [List.size_toArray, encP_len], by decide⟩⟩
/-- A ref's fields where it lies. -/
theorem rp_fields {w : World} {b q : Nat} {x : RefP} (h : w.rangeAt b q (encP x)) :
    w.cell? ⟨b, q, none⟩ = some (.string (strOf x.name)) ∧ w.rangeAt b (q + 1) (idc x.id) := by
  obtain ⟨h1, h2⟩ := rangeR_append.1 h
  exact ⟨by simpa using h1 0 _ rfl, h2⟩
theorem take_succP {l : List RefP} {i : Nat} (h : i < l.length) : l.take (i + 1) = l.take i ++ [l[i]!] := by
  rw [List.take_succ_eq_append_getElem h, getElem!_pos l i h]

/-- What is asked of a ref that is compared: a short name. -/
def WfP (p : RefP) : Prop := p.name.length ≤ 1000000
structure RefTy (e f : TypeId) : Prop where
  he : ∃ f0 f1 : Field, Tryz.prog.underlying e = some (.struct #[f0, f1]) ∧ f0.type = 9 ∧ f1.type = f ∧ f0.offset = 0 ∧ f1.offset = 1 ∧ (f0.name != "_") = true ∧ (f1.name != "_") = true
  hf : ArrKey Tryz.prog f 5 20
  ce : Tryz.prog.cellsOf e = 21
  ke : Tryz.prog.keyTypeAt 3 e = true
  ge : Tryz.prog.eqGuardType Tryz.prog.depth e = false
set_option maxRecDepth 100000 in
theorem etP : RefTy 88 42 := ⟨⟨_, _, Tryz.underlying88, rfl, rfl, rfl, rfl, rfl, rfl⟩, arrG, by kernel_rfl, by kernel_rfl, by kernel_rfl⟩
set_option maxRecDepth 100000 in
theorem etD : RefTy 62 41 := ⟨⟨_, _, Tryz.underlying62, rfl, rfl, rfl, rfl, rfl, rfl⟩, arrR, by kernel_rfl, by kernel_rfl, by kernel_rfl⟩

section
variable {e f : TypeId} (T : RefTy e f)
include T
def litsP (p : RefP) : List Lit := .string p.name :: litsOf p.id.1
set_option maxRecDepth 100000 in
theorem RefTy.lits (p : RefP) (hw : WfP p) : Tryz.prog.keyLits 3 e (encP p) = some (litsP p) := by
  obtain ⟨f0, f1, hu, t0, t1, o0, o1, n0, n1⟩ := T.he
  unfold Program.keyLits
  rw [hu]
  have hl := encP_len p
  have hce := T.ce
  have c1 : Tryz.prog.cellsOf 9 = 1 := by kernel_rfl
  have hcf : Tryz.prog.cellsOf f = 20 := T.hf.size
  have h0 : ((encP p).drop 0).take 1 = [.string (strOf p.name)] := rfl
  have h1 : ((encP p).drop 1).take 20 = bcells p.id.1 := by
    show (idc p.id).take 20 = _
    rw [List.take_of_length_le (by rw [idc_len]; exact Nat.le_refl _)]; rfl
  have g0 : Tryz.prog.keyLits 2 9 [.string (strOf p.name)] = some [.string p.name] := by
    unfold Program.keyLits
    rw [Tryz.underlying9]
    have hsz : (strOf p.name).size ≤ maxLen := by have : p.name.length ≤ 1000000 := hw; rw [strOf_size]; unfold maxLen; omega
    simp only [hsz, if_true]
    rfl
  have g2 := arr_lits T.hf Tryz.underlying5 p.id.1 p.id.2
  simp only [hl, hce, List.mapM_cons, List.mapM_nil, t0, t1, o0, o1, hcf, c1, h0, h1, g0, g2]
  simp [n0, n1, litsP]
omit T in
theorem litsP_inj {p q : RefP} (h : litsP p = litsP q) : p = q := by
  unfold litsP at h
  simp only [List.cons.injEq, Lit.string.injEq] at h
  obtain ⟨h1, h2⟩ := h
  obtain ⟨m, n⟩ := p
  obtain ⟨m2, n2⟩ := q
  have e1 : m = m2 := h1
  have e2 : n = n2 := Subtype.ext (lits_inj _ _ h2)
  rw [e1, e2]
set_option maxRecDepth 100000 in
theorem RefTy.eq_run (p q : RefP) (hp : WfP p) (hq : WfP q) (w : World) : (Op.equalIn 10000 e (.agg (recA encP p)) (.agg (recA encP q))).run Tryz.prog w = .ok (decide (p = q)) w := by
  obtain ⟨f0, f1, hu, -⟩ := T.he
  have hf : ∀ z : RefP, Value.formed Tryz.prog e (.agg (recA encP z)) = true := fun z => by
    unfold Value.formed
    rw [hu]
    simp [T.ce, recA, encP_len]
  obtain ⟨r, hr, hiff⟩ := equalIn_lits T.ke (by omega) (hf p) (hf q) (D := 3) (lx := litsP p) (ly := litsP q) (by simpa [recA] using T.lits p hp) (by simpa [recA] using T.lits q hq) w
  have er : r = decide (p = q) := by
    rw [Bool.eq_iff_iff, hiff, decide_eq_true_eq]
    exact ⟨litsP_inj, fun h => by rw [h]⟩
  rw [hr, er]
end

/-! ### Built -/
set_option maxRecDepth 100000 in
theorem placesP : ∃ fs, Tryz.prog.underlying 88 = some (.struct fs) ∧ fs.toList.mapM (fun f => (Tryz.prog.info? f.type).map fun i => (f.offset, i.size)) = some [(0, 1), (1, 20)] := ⟨_, Tryz.underlying88, by kernel_rfl⟩
set_option maxRecDepth 100000 in
theorem placesD : ∃ fs, Tryz.prog.underlying 62 = some (.struct fs) ∧ fs.toList.mapM (fun f => (Tryz.prog.info? f.type).map fun i => (f.offset, i.size)) = some [(0, 1), (1, 20)] := ⟨_, Tryz.underlying62, by kernel_rfl⟩
theorem idc_cells (x : Id20) : (Value.agg (idA x)).cells.toList = idc x := by simp [Value.cells, idA]
theorem fillP (p : Bytes) (x : Id20) : Instr.fill (([(0, 1), (1, 20)] : List (Nat × Nat)).toArray[·]?) (encP ref0).toArray [(0, .string (strOf p)), (1, .agg (idA x))] = some (recA encP ⟨p, x⟩) := by
  have l20 : ∀ y : Id20, (idc y).length = 20 := idc_len
  rw [fill_cons (o := 0) (n := 1) rfl rfl (by rw [encP_len]; omega), fill_cons (v := .agg (idA x)) (o := 1) (n := 20) rfl (idA_size x) (by simp [encP, Value.cells, l20]), fill_nil]
  simp only [idc_cells]
  simp [encP, Value.cells, recA, ref0, l20]
theorem buildP (p : Bytes) (x : Id20) (w : World) : (Instr.build 88 #[(0, .string (strOf p)), (1, .agg (idA x))]).run Tryz.prog w = .ok (.agg (recA encP ⟨p, x⟩)) w := by
  obtain ⟨fs, h1, h2⟩ := placesP
  exact built_at (Z := encP ref0) (by kernel_rfl) h1 h2 (fillP p x) w
theorem buildD (p : Bytes) (x : Id20) (w : World) : (Instr.build 62 #[(0, .string (strOf p)), (1, .agg (idA x))]).run Tryz.prog w = .ok (.agg (recA encP ⟨p, x⟩)) w := by
  obtain ⟨fs, h1, h2⟩ := placesD
  exact built_at (Z := encP ref0) (by kernel_rfl) h1 h2 (fillP p x) w
/-- Loads of a ref's fields. -/
theorem load_name {w : World} {b q : Nat} {x : RefP} (h : w.rangeAt b q (encP x)) (y : Later w) : (Instr.loadAt 9 (.pointer (some ⟨b, q, none⟩))).run Tryz.prog y.1 = .ok (.string (strOf x.name)) y.1 := by
  have c := load_later (rp_fields h).1 y
  clear h
  go_simp
theorem load_idP {w : World} {b q : Nat} {x : RefP} (h : w.rangeAt b q (encP x)) (y : Later w) : (Instr.loadAt 42 (.pointer (some ⟨b, q + 1, none⟩))).run Tryz.prog y.1 = .ok (.agg (idA x.id)) y.1 :=
  load_id arrG (by kernel_rfl) _ _ _ _ (rangeR_below (rp_fields h).2 y.2)
theorem load_idD {w : World} {b q : Nat} {x : RefP} (h : w.rangeAt b q (encP x)) (y : Later w) : (Instr.loadAt 41 (.pointer (some ⟨b, q + 1, none⟩))).run Tryz.prog y.1 = .ok (.agg (idA x.id)) y.1 :=
  load_id arrR (by kernel_rfl) _ _ _ _ (rangeR_below (rp_fields h).2 y.2)

theorem mg_buildSlice {P : Program} {ops : Array Oper} {Q : Act → World → Prop} {i : Nat} {r : List (Nat × Nat)} {o : Oper} {a : Act} {w : World} (ho : ops[i]? = some o) (hw : Region.wanted o (yielded ops a.tmps) = true) (hgd : o.guard = none)
    (ty : TypeId) (k : Nat) (ps : Array (Nat × Operand)) (hop : o.op = .buildSlice ty k ps) (PS : List (Nat × Value)) (C : Array Value) (et : TypeId) (n c : Nat) (hx : (ps.toList.map fun p => (p.1, a.eval p.2)) = PS)
    (hl : ∀ y : World, (Instr.buildSlice ty k PS.toArray).run P y = .ok (.slice (some ⟨y.heap.size, 0, none⟩) n c) (y.alloc (.cells C et)))
    (h : ∀ w', Grow w w' → MG P ops Q r (a.put o.dst (.slice (some ⟨w'.heap.size, 0, none⟩) n c)) (w'.alloc (.cells C et))) : MG P ops Q ((i, 1) :: r) a w :=
  mg_loud ho hw fun w' hw' K hK => by
    have e : (ps.map fun (i, x) => (i, a.eval x)) = PS.toArray := Array.ext' (by rw [Array.toList_map]; exact hx)
    refine wpList_plain hgd fun K' hK' => ?_
    unfold Oper.wp execOp
    simp only [hop, e, Sem.run_bind, Sem.run_pure, Result.andThen_ok, hl]
    exact hK' _ _ (hK _ _ ((Below.refl _ _).alloc (Nat.le_refl _) _) (h w' hw'))
end Go.Proofs.YtponfkfeflnilaaGreatDoor
namespace Go.Proofs.YtponfkfeflnilaaGreatDoor
open Go.RowKit Go.Mix Go.WideMaps

def cutOk (l : Bytes) (c : UInt8) : Bool := decide (0 ≤ Lib.indexByte l c)
def cutA (l : Bytes) (c : UInt8) : Bytes := if cutOk l c then l.take (Lib.indexByte l c).toNat else l
def cutB (l : Bytes) (c : UInt8) : Bytes := if cutOk l c then l.drop ((Lib.indexByte l c).toNat + 1) else []
theorem cutV_eq (l : Bytes) (c : UInt8) : cutV l c = .tuple #[.string (strOf (cutA l c)), .string (strOf (cutB l c)), .bool (cutOk l c)] := by
  unfold cutV cutA cutB cutOk
  by_cases h : Lib.indexByte l c < 0
  · rw [if_pos h, decide_eq_false (by omega)]; rfl
  · rw [if_neg h, decide_eq_true (by omega)]; rfl
theorem cutA_len (l : Bytes) (c : UInt8) : (cutA l c).length ≤ l.length := by unfold cutA; split <;> simp [List.length_take, Nat.min_le_right]
theorem cutB_len (l : Bytes) (c : UInt8) : (cutB l c).length ≤ l.length ∧ (cutOk l c = true → (cutB l c).length < l.length) := by
  unfold cutB
  constructor
  · split <;> simp
  · intro h
    rw [if_pos h]
    unfold cutOk at h
    have h0 := of_decide_eq_true h
    obtain ⟨h1, -⟩ := Lib.indexByte_some (l := l) (c := c) (o := (Lib.indexByte l c).toNat) (by omega)
    obtain ⟨h2, -⟩ := List.getElem?_eq_some_iff.1 h1
    rw [List.length_drop]; omega
/-- k is where a list has its first c, or its end. -/
structure FirstAt (l : Bytes) (c : UInt8) (k : Nat) : Prop where
  le : k ≤ l.length
  no : ∀ i, i < k → l[i]? ≠ some c
  at_ : k = l.length ∨ l[k]? = some c
theorem first_cut {l : Bytes} {c : UInt8} {k : Nat} (h : FirstAt l c k) : cutA l c = l.take k ∧ cutOk l c = decide (k < l.length) ∧ (k < l.length → cutB l c = l.drop (k + 1)) := by
  have hge := Lib.indexByte_ge l c
  by_cases hn : Lib.indexByte l c = -1
  · have h1 := Lib.indexByte_none hn
    have hk : k = l.length := by
      rcases h.at_ with e | e
      · exact e
      · exact absurd e (h1 k)
    have ho : cutOk l c = false := by unfold cutOk; rw [decide_eq_false]; omega
    refine ⟨?_, ?_, fun e => by omega⟩
    · unfold cutA; rw [ho, hk, List.take_length]; rfl
    · rw [ho, hk]; simp
  · obtain ⟨o, ho⟩ : ∃ o : Nat, Lib.indexByte l c = o := ⟨(Lib.indexByte l c).toNat, by omega⟩
    obtain ⟨h1, h2⟩ := Lib.indexByte_some ho
    have hol := (List.getElem?_eq_some_iff.1 h1).1
    have hk : k = o := by
      rcases Nat.lt_trichotomy k o with e | e | e
      · rcases h.at_ with e2 | e2
        · omega
        · exact absurd e2 (h2 k e)
      · exact e
      · exact absurd h1 (h.no o e)
    have hoo : cutOk l c = true := by unfold cutOk; rw [decide_eq_true]; omega
    refine ⟨?_, ?_, fun _ => ?_⟩
    · unfold cutA; rw [hoo, if_pos rfl, ho, hk]; simp
    · rw [hoo, hk]; simp [hol]
    · unfold cutB; rw [hoo, if_pos rfl, ho, hk]; simp
theorem cut_app {a rest : Bytes} {c : UInt8} (h : c ∉ a) : cutA (a ++ c :: rest) c = a ∧ cutOk (a ++ c :: rest) c = true ∧ cutB (a ++ c :: rest) c = rest := by
  have hf : FirstAt (a ++ c :: rest) c a.length := by
    refine ⟨by simp, fun i hi e => ?_, .inr ?_⟩
    · rw [List.getElem?_append_left hi] at e
      exact h (List.mem_of_getElem? e)
    · rw [List.getElem?_append_right (Nat.le_refl _)]; simp
  obtain ⟨h1, h2, h3⟩ := first_cut hf
  have hl : a.length < (a ++ c :: rest).length := by simp
  refine ⟨by rw [h1]; simp, by rw [h2]; exact decide_eq_true hl, ?_⟩
  rw [h3 hl, List.drop_append]
  simp
theorem cut_no {a : Bytes} {c : UInt8} (h : c ∉ a) : cutA a c = a ∧ cutOk a c = false := by
  have hf : FirstAt a c a.length := ⟨Nat.le_refl _, fun i _ e => h (List.mem_of_getElem? e), .inl rfl⟩
  obtain ⟨h1, h2, -⟩ := first_cut hf
  exact ⟨by rw [h1]; simp, by rw [h2]; simp⟩
theorem cut_join {l : Bytes} {c : UInt8} (h : cutOk l c = true) : l = cutA l c ++ c :: cutB l c := by
  unfold cutA cutB
  rw [if_pos h, if_pos h]
  unfold cutOk at h
  have h0 := of_decide_eq_true h
  obtain ⟨h1, -⟩ := Lib.indexByte_some (l := l) (c := c) (o := (Lib.indexByte l c).toNat) (by omega)
  obtain ⟨h2, h3⟩ := List.getElem?_eq_some_iff.1 h1
  have := List.drop_eq_getElem_cons h2
  rw [h3] at this
  rw [← this, List.take_append_drop]
theorem shaE_cases (s : Bytes) : (∃ x, unhex s = some x ∧ shaX s = x ∧ shaE s = 0 ∧ s.length = 40) ∨ (unhex s = none ∧ shaE s = 4) := by
  cases h : unhex s with
  | none => exact .inr ⟨rfl, by unfold shaE; rw [h]; rfl⟩
  | some x =>
    refine .inl ⟨x, rfl, by unfold shaX; rw [h]; rfl, by unfold shaE; rw [h]; rfl, ?_⟩
    rcases unhex_cases s with ⟨y, hy, _⟩ | ⟨_, hn⟩
    · rw [hy, hexL_len, y.2]
    · rw [h] at hn; cases hn
theorem unhex_hex {s : Bytes} {x : Id20} (h : unhex s = some x) : s = hexL x.1 := by
  rcases unhex_cases s with ⟨y, hy, hy2⟩ | ⟨_, hn⟩
  · rw [hy2] at h
    injection h with e
    rw [← e]; exact hy
  · rw [hn] at h; cases h
theorem hexd_no (n : Nat) (h : n < 16) : hexd n ≠ 10 ∧ hexd n ≠ 32 := by
  have : ∀ n, n < 16 → hexd n ≠ 10 ∧ hexd n ≠ 32 := by decide
  exact this n h
theorem hexL_no (l : Bytes) : (10 : UInt8) ∉ hexL l ∧ (32 : UInt8) ∉ hexL l := by
  have key : ∀ c : UInt8, (∀ n, n < 16 → hexd n ≠ c) → c ∉ hexL l := by
    intro c hc h
    unfold hexL at h
    obtain ⟨b, -, hb⟩ := List.mem_flatMap.1 h
    have h1 := hc (b.toNat / 16) (by have := b.toNat_lt; omega)
    have h2 := hc (b.toNat % 16) (by omega)
    simp at hb
    rcases hb with e | e
    · exact h1 e.symm
    · exact h2 e.symm
  exact ⟨key 10 fun n hn => (hexd_no n hn).1, key 32 fun n hn => (hexd_no n hn).2⟩

/-! ### Lines -/
def lineP (r : RefP) : Bytes := hexL r.id.1 ++ 32 :: r.name ++ [10]
def textP (l : List RefP) : Bytes := l.flatMap lineP
theorem lineP_len (r : RefP) : (lineP r).length = 42 + r.name.length := by unfold lineP; simp [hexL_len, r.id.2]; omega
theorem textP_cons (r : RefP) (l : List RefP) : textP (r :: l) = lineP r ++ textP l := by unfold textP; rw [List.flatMap_cons]
theorem textP_snoc (l : List RefP) (r : RefP) : textP (l ++ [r]) = textP l ++ lineP r := by unfold textP; rw [List.flatMap_append]; simp
/-- The next ref of a text, and what is left. -/
noncomputable def stepK (s : Bytes) : Option (RefP × Bytes) :=
  if cutOk s 10 && cutOk (cutA s 10) 32 then match unhex (cutA (cutA s 10) 32) with
    | some x => some (⟨cutB (cutA s 10) 32, x⟩, cutB s 10)
    | none => none
  else none
noncomputable def readK : Nat → Bytes → Option (List RefP)
  | _, [] => some []
  | 0, _ :: _ => none
  | n + 1, c :: s => match stepK (c :: s) with
    | none => none
    | some (f, r) => (readK n r).map (f :: ·)
theorem stepK_len {s r : Bytes} {f : RefP} (h : stepK s = some (f, r)) : r.length < s.length ∧ f.name.length ≤ s.length := by
  unfold stepK at h
  split at h
  · next hc =>
    rw [Bool.and_eq_true] at hc
    split at h
    · simp only [Option.some.injEq, Prod.mk.injEq] at h
      obtain ⟨rfl, rfl⟩ := h
      have h1 := cutA_len s 10
      have h3 := (cutB_len (cutA s 10) 32).1
      exact ⟨(cutB_len s 10).2 hc.1, by show (cutB (cutA s 10) 32).length ≤ _; omega⟩
    · cases h
  · cases h
theorem readK_fuel : ∀ (n m : Nat) (s : Bytes), s.length ≤ n → s.length ≤ m → readK n s = readK m s := by
  intro n
  induction n with
  | zero => intro m s h1 h2; cases s with
    | nil => unfold readK; rfl
    | cons => simp at h1
  | succ n ih =>
    intro m s h1 h2
    cases s with
    | nil => unfold readK; rfl
    | cons c s =>
      cases m with
      | zero => simp at h2
      | succ m =>
        simp only [readK]
        cases h : stepK (c :: s) with
        | none => rfl
        | some x =>
          obtain ⟨f, r⟩ := x
          have := (stepK_len h).1
          simp only [List.length_cons] at this h1 h2
          simp only
          rw [ih m r (by omega) (by omega)]
theorem readK_none {s : Bytes} (h0 : s ≠ []) (h : stepK s = none) : readK s.length s = none := by
  cases s with
  | nil => exact absurd rfl h0
  | cons c s => simp only [List.length_cons, readK, h]
theorem stepK_nil {r : Bytes} {f : RefP} : stepK [] ≠ some (f, r) := fun h => by have := (stepK_len h).1; simp at this
theorem readK_some {s r : Bytes} {f : RefP} (h : stepK s = some (f, r)) : readK s.length s = (readK r.length r).map (f :: ·) := by
  cases s with
  | nil => exact absurd h stepK_nil
  | cons c s =>
    have h1 := (stepK_len h).1
    simp only [List.length_cons, readK, h]
    rw [readK_fuel s.length r.length r (by simpa using Nat.lt_succ_iff.1 h1) (Nat.le_refl _)]
theorem step_lineK {f : RefP} (h : (10 : UInt8) ∉ f.name) (rest : Bytes) : stepK (lineP f ++ rest) = some (f, rest) := by
  have e : lineP f ++ rest = (hexL f.id.1 ++ 32 :: f.name) ++ 10 :: rest := by simp [lineP, List.append_assoc]
  have hn : (10 : UInt8) ∉ hexL f.id.1 ++ 32 :: f.name := by
    intro hm
    rcases List.mem_append.1 hm with hm | hm
    · exact (hexL_no _).1 hm
    · rcases List.mem_cons.1 hm with hm | hm
      · exact absurd hm (by decide)
      · exact h hm
  obtain ⟨a1, a2, a3⟩ := cut_app (rest := rest) hn
  obtain ⟨b1, b2, b3⟩ := cut_app (rest := f.name) (hexL_no f.id.1).2
  rw [e]
  unfold stepK
  rw [a1, a2, a3, b1, b2, b3, unhex_some rfl]
  rfl
theorem line_stepK {s r : Bytes} {f : RefP} (h : stepK s = some (f, r)) : s = lineP f ++ r := by
  unfold stepK at h
  split at h
  · next hc =>
    rw [Bool.and_eq_true] at hc
    have j1 := cut_join hc.1
    have j2 := cut_join hc.2
    split at h
    · next x hu =>
      simp only [Option.some.injEq, Prod.mk.injEq] at h
      obtain ⟨rfl, rfl⟩ := h
      rw [unhex_hex hu] at j2
      show s = hexL x.1 ++ 32 :: cutB (cutA s 10) 32 ++ [10] ++ cutB s 10
      calc s = cutA s 10 ++ 10 :: cutB s 10 := j1
        _ = (hexL x.1 ++ 32 :: cutB (cutA s 10) 32) ++ 10 :: cutB s 10 := by rw [← j2]
        _ = _ := by simp [List.append_assoc]
    · cases h
  · cases h
/-- The same, by where the newline stands. -/
theorem stepK_at {s : Bytes} {k : Nat} (h : FirstAt s 10 k) (hk : k < s.length) : stepK s = if 41 ≤ k ∧ s[40]? = some 32 then (match unhex (s.take 40) with | some x => some (⟨(s.take k).drop 41, x⟩, s.drop (k + 1)) | none => none) else none := by
  obtain ⟨h1, h2, h3⟩ := first_cut h
  have hkl : (s.take k).length = k := by rw [List.length_take]; omega
  unfold stepK
  rw [h1, h2, decide_eq_true hk, h3 hk, Bool.true_and]
  by_cases hg : 41 ≤ k ∧ s[40]? = some 32
  · rw [if_pos hg]
    have h40 : (s.take k)[40]? = some 32 := by rw [List.getElem?_take, if_pos (by omega)]; exact hg.2
    have e40 : (s.take k).take 40 = s.take 40 := by rw [List.take_take, Nat.min_eq_left (by omega)]
    by_cases h32 : (32 : UInt8) ∈ s.take 40
    · -- an earlier blank: no digits
      have hno : unhex (s.take 40) = none := by
        cases hu : unhex (s.take 40) with
        | none => rfl
        | some x => rw [unhex_hex hu] at h32; exact absurd h32 (hexL_no _).2
      rw [hno]
      have hA : unhex (cutA (s.take k) 32) = none := by
        cases hu : unhex (cutA (s.take k) 32) with
        | none => rfl
        | some x =>
          have hl : (cutA (s.take k) 32).length = 40 := by rw [unhex_hex hu, hexL_len, x.2]
          have hok : cutOk (s.take k) 32 = true := by
            unfold cutOk
            rw [decide_eq_true_eq]
            have hge := Lib.indexByte_ge (s.take k) 32
            by_cases hi : Lib.indexByte (s.take k) 32 = -1
            · exact absurd h40 (Lib.indexByte_none hi 40)
            · omega
          have hj := cut_join hok
          have : (s.take k).take 40 = cutA (s.take k) 32 := by
            conv => lhs; rw [hj]
            rw [← hl, List.take_left]
          rw [e40] at this
          rw [← this] at hu
          rw [hno] at hu; cases hu
      rw [hA]
      split <;> rfl
    · have hF : FirstAt (s.take k) 32 40 := ⟨by omega, fun i hi e => by
        rw [← e40] at h32
        exact h32 (List.mem_of_getElem? (by rw [List.getElem?_take, if_pos hi]; exact e)), .inr h40⟩
      obtain ⟨g1, g2, g3⟩ := first_cut hF
      rw [g1, g2, decide_eq_true (by omega), g3 (by omega), e40]
      rfl
  · rw [if_neg hg]
    split
    · next hok =>
      have hj := cut_join hok
      split
      · next x hu =>
        have hl : (cutA (s.take k) 32).length = 40 := by rw [unhex_hex hu, hexL_len, x.2]
        exfalso
        apply hg
        have hlen := congrArg List.length hj
        rw [List.length_append, List.length_cons, hl, hkl] at hlen
        refine ⟨by omega, ?_⟩
        have h40 : (s.take k)[40]? = some 32 := by
          rw [hj, List.getElem?_append_right (by omega), hl]; rfl
        rw [List.getElem?_take, if_pos (by omega)] at h40
        exact h40
      · rfl
    · rfl
theorem stepK_end {s : Bytes} (h : (10 : UInt8) ∉ s) : stepK s = none := by
  unfold stepK
  rw [(cut_no h).2]; rfl
theorem read_textK : ∀ l : List RefP, (∀ f ∈ l, (10 : UInt8) ∉ f.name) → readK (textP l).length (textP l) = some l
  | [], _ => by simp [textP, readK]
  | f :: l, h => by
    have hs := step_lineK (h f (by simp)) (textP l)
    rw [← textP_cons] at hs
    rw [readK_some hs, read_textK l fun g hg => h g (by simp [hg])]; rfl
theorem text_readK : ∀ (n : Nat) (s : Bytes) (l : List RefP), readK n s = some l → textP l = s
  | _, [], l, h => by simp [readK] at h; subst h; rfl
  | 0, _ :: _, l, h => by simp [readK] at h
  | n + 1, c :: s, l, h => by
    unfold readK at h
    split at h
    · cases h
    · next f r hs =>
      obtain ⟨l', hl, rfl⟩ := Option.map_eq_some_iff.1 h
      have := text_readK n r l' hl
      show textP (f :: l') = _
      rw [textP_cons, this, ← line_stepK hs]

/-! ### In order -/
def stepN (l : List RefP) (i : Nat) : Bool := rightN l[i]!.name && (!decide (0 < i) || Op.bytesLess l[i - 1]!.name l[i]!.name)
def OrdP (l : List RefP) : Prop := ∀ i, i < l.length → stepN l i = true
theorem right_ten {s : Bytes} (h : rightN s = true) : (10 : UInt8) ∉ s ∧ s.length ≤ 200 := by
  unfold rightN at h
  simp only [Bool.and_eq_true, Bool.not_eq_true', decide_eq_true_eq, List.any_eq_false] at h
  obtain ⟨⟨⟨⟨⟨⟨h1, h2⟩, -⟩, -⟩, -⟩, h5⟩, -⟩ := h
  refine ⟨fun hm => ?_, h2⟩
  obtain ⟨t, rfl⟩ := List.isPrefixOf_iff_prefix.1 h1
  rcases List.mem_append.1 hm with hm | hm
  · exact absurd hm (by decide)
  · exact h5 10 (by simpa [refsT] using hm) (by decide)
theorem ord_line {l : List RefP} (h : OrdP l) : ∀ f ∈ l, rightN f.name = true ∧ (10 : UInt8) ∉ f.name ∧ f.name.length ≤ 200 := by
  intro f hf
  obtain ⟨i, hi, rfl⟩ := List.mem_iff_getElem.1 hf
  have h1 := h i hi
  unfold stepN at h1
  rw [getElem!_pos l i hi] at h1
  simp only [Bool.and_eq_true] at h1
  exact ⟨h1.1, right_ten h1.1⟩
/-- What ParsePacked reads. -/
noncomputable def parsePk (b : Bytes) : Option (List RefP) := open Classical in match readK b.length b with
  | some l => if OrdP l then some l else none
  | none => none
theorem parsePk_text {l : List RefP} (h : OrdP l) : parsePk (textP l) = some l := by
  unfold parsePk
  rw [read_textK l fun f hf => (ord_line h f hf).2.1]
  simp only
  rw [if_pos h]
theorem parsePk_some {b : Bytes} {l : List RefP} (h : parsePk b = some l) : OrdP l ∧ textP l = b := by
  unfold parsePk at h
  cases hr : readK b.length b with
  | none => rw [hr] at h; cases h
  | some l' =>
    rw [hr] at h
    simp only at h
    split at h
    · next ho =>
      injection h with h
      subst h
      exact ⟨ho, text_readK _ _ _ hr⟩
    · cases h
theorem parsePk_nil : parsePk [] = some [] := parsePk_text (l := []) fun _ hi => absurd hi (Nat.not_lt_zero _)
end Go.Proofs.YtponfkfeflnilaaGreatDoor
namespace Go.Proofs.YtponfkfeflnilaaGreatDoor
open Go.RowKit Go.Mix Go.WideMaps

theorem recBoxP {w : World} {X : Nat} {p : RefP} {t : TypeId} {fr : Nat × Nat} (h : w.heap[X]? = some (.cells (recA encP p) t fr)) : w.rangeAt X 0 (encP p) := fun j v hv => by
  rw [cell_of_row _ _ _ _ _ _ h, Nat.zero_add]
  simpa [recA] using hv
theorem ordP_take {l : List RefP} (h : ∀ j, j < l.length → stepN l j = true) : OrdP l := h
theorem textP_len (K : Nat) : ∀ l : List RefP, (∀ p ∈ l, p.name.length ≤ K) → (textP l).length ≤ (K + 42) * l.length
  | [], _ => by simp [textP]
  | p :: l, h => by
    have h1 := textP_len K l (fun q hq => h q (by simp [hq]))
    have h2 := h p (by simp)
    rw [textP_cons, List.length_append, lineP_len, List.length_cons, Nat.mul_succ]
    omega
theorem textP_succ {l : List RefP} {i : Nat} (h : i < l.length) : textP (l.take (i + 1)) = textP (l.take i) ++ lineP l[i]! := by
  rw [take_succP h, textP_snoc]

set_option maxRecDepth 100000 in
set_option maxHeartbeats 8000000 in
theorem ordered_any {w : World} {l : List RefP} {a : Option Addr} {cap : Nat} (hg : RsAt encP 21 w a cap l) (hlen : l.length ≤ 1000000) (hnm : ∀ p ∈ l, p.name.length ≤ 1000000) (hm : MaxIs w) :
    Calls Tryz.prog 47 #[.slice a l.length cap] w fun e w' => ∃ r : Bool, e = .returned (.bool r) ∧ (r = true ↔ OrdP l) ∧ Below w.heap.size w w' := by
  obtain ⟨n, hn⟩ : ∃ n, n = l.length := ⟨_, rfl⟩
  have HN := Lib.hid (And.intro hn hnm)
  have HG := Lib.hid hg
  have HM := Lib.hid hm
  obtain ⟨Z, hZ⟩ : ∃ Z, Z = recA encP ref0 := ⟨_, rfl⟩
  have z : ∀ w, (zeroValue 88).run Tryz.prog w = .ok (.agg Z) w := fun w => by rw [hZ]; kernel_rfl
  have HZ := Lib.hid hZ
  clear hZ hm
  rw [← hn] at hlen ⊢
  clear hn hg hnm
  have hF0 := Below.refl w.heap.size w
  go_enter Tryz.func47, Tryz.ntmps47
  go_wp2_with fail
  go_loopw [7] (fun s7 wr => ∃ i : Nat, s7 = .int .i64 (i : Int) ∧ i ≤ n ∧ (∀ j, j < i → stepN l j = true) ∧ Below w.heap.size w wr) (fun s7 _ => n - (intOf s7).toNat)
  case atStart => exact ⟨0, rfl, Nat.zero_le _, fun _ h => absurd h (Nat.not_lt_zero _), hF0⟩
  case round =>
    clear hF0
    obtain ⟨i, rfl, hi, hpre, hb⟩ := hrel
    have HP := Lib.hid hpre
    have HB := Lib.hid hb
    clear hpre hb
    by_cases hin : i < n
    · have t1 : decide ((i : Int) < (n : Int)) = true := decide_eq_true (by omega)
      have t1' : decide (i < n) = true := decide_eq_true (by omega)
      have hil : i < l.length := by rw [← HN.out.1]; exact hin
      obtain ⟨b, q, IX, R, L⟩ := (HG.out.below HB.out).at tyP (i : Int) i rfl hil
      rw [← HN.out.1] at IX
      have L' := L _ (Below.refl _ _)
      have hpn : l[i]!.name.length ≤ 1000000 := HN.out.2 _ (by rw [getElem!_pos l i hil]; exact List.getElem_mem hil)
      have hso : stepN l i = (rightN l[i]!.name && (!decide (0 < i) || Op.bytesLess l[i - 1]!.name l[i]!.name)) := rfl
      obtain ⟨p, hp⟩ : ∃ p, p = l[i]! := ⟨_, rfl⟩
      rw [← hp] at L' R hpn hso
      have HPP := Lib.hid (And.intro hp.symm (And.intro hpn hil))
      have hzb : (wr.alloc (.cells Z 88)).heap[wr.heap.size]? = some (.cells Z 88 (0, 0)) := heap_alloc_last _ _ _ rfl
      have zs : Z.size = (recA encP p).size := by rw [HZ.out]; simp [recA, encP_len]
      have zi : (Tryz.prog.info? 88).map (·.size) = some (recA encP p).size := by rw [show (recA encP p).size = 21 by simp [recA, encP_len]]; exact tyP.ie
      have z1 : (recA encP p).all (·.oneCell') = true := all_oneCell_toArray (encP_one _)
      have gA : Below wr.heap.size wr ((wr.alloc (.cells Z 88)).setRow wr.heap.size (recA encP p)) := below_setRow ((Below.refl _ _).alloc (Nat.le_refl _) _) (Nat.le_refl _) _
      have hbox : ((wr.alloc (.cells Z 88)).setRow wr.heap.size (recA encP p)).heap[wr.heap.size]? = some (.cells (recA encP p) 88 (0, 0)) := setRow_heap _ _ _ _ _ _ hzb
      have HA := Lib.hid (And.intro gA hbox)
      have HSO := Lib.hid hso
      clear L R hp hil gA hbox hpn hso
      go_upto_region 4 with (first | (refine wpList_load_at rfl _ _ rfl _ _ rfl L' ?_) | (refine wpList_store_row rfl 88 _ _ rfl wr.heap.size (recA encP p) rfl rfl 88 Z hzb zi zs z1 ?_))
      have gA := HA.out.1
      have hbox := HA.out.2
      obtain ⟨X, hX⟩ : ∃ X, X = wr.heap.size := ⟨_, rfl⟩
      clear HA L' IX zs zi z1 hzb
      generalize (wr.alloc (.cells Z 88)).setRow wr.heap.size (recA encP p) = w5 at *
      rw [← hX] at hbox ⊢
      clear hX
      have hb5 := HB.out.trans (gA.mono HB.out.size)
      have LA := load_name (recBoxP hbox)
      have CN := fun y : Later w5 => rightN_any p.name HPP.out.2.1 y.1 ((HM.out.below hb5).below y.2)
      have HB5 := Lib.hid hb5
      have hso := HSO.out
      clear gA hbox hb5 HSO
      have HNS : Hid (strOf p.name = strOf p.name) := Lib.hid rfl
      obtain ⟨NS, hNS⟩ : ∃ NS, NS = strOf p.name := ⟨_, rfl⟩
      rw [← hNS] at LA CN
      clear HNS
      have HNS := Lib.hid hNS
      obtain ⟨d1, hd1⟩ : ∃ d, d = rightN p.name := ⟨_, rfl⟩
      rw [← hd1] at CN hso
      clear hNS hd1
      have HSO3 := Lib.hid hso
      clear hso
      cases d1
      case false =>
        refine wp_region_mg [(0, 0), (1, 0), (2, 0), (3, 0), (4, 0), (5, 0), (6, 0), (7, 0), (8, 0), (9, 0), (10, 0), (11, 0), (12, 0), (13, 0), (14, 0), (15, 0), (16, 0), (17, 0), (18, 0)] (by kernel_rfl) (by kernel_rfl) ?_
        iterate 19 (first | (refine mg_load rfl rfl _ _ rfl _ _ rfl LA ?_) | (refine mg_calm rfl (fun K hK => ?_); go_simp; apply Exists.intro; refine ⟨fun z => CN z, hK _ ?_⟩; clear hK K CN) | (refine mg_calm rfl (fun K hK => ?_); go_simp; (refine hK _ ?_; clear hK K)))
        refine mg_nil fun w7 hw7 => ?_
        have HB7 := Lib.hid (Grow.trans HB5.out hw7)
        clear hw7 LA
        go_wp2_with fail
        go_ret
        exact ⟨_, rfl, ⟨fun h => (by cases h), fun h => absurd (h i HPP.out.2.2) (by rw [HSO3.out]; simp)⟩, HB7.out⟩
      by_cases hi0 : i = 0
      case pos =>
        have hgt : decide (0 < i) = false := decide_eq_false (by omega)
        have hgt' : decide ((0 : Int) < (i : Int)) = false := decide_eq_false (by omega)
        have HST : Hid (stepN l i = true) := Lib.hid (by rw [HSO3.out, hgt]; rfl)
        clear hi0
        refine wp_region_mg [(0, 0), (1, 0), (2, 0), (3, 0), (4, 0), (5, 0), (6, 0), (7, 0), (8, 0), (9, 0), (10, 0), (11, 0), (12, 0), (13, 0), (14, 0), (15, 0), (16, 0), (17, 0), (18, 0)] (by kernel_rfl) (by kernel_rfl) ?_
        iterate 19 (first | (refine mg_load rfl rfl _ _ rfl _ _ rfl LA ?_) | (refine mg_calm rfl (fun K hK => ?_); go_simp; apply Exists.intro; refine ⟨fun z => CN z, hK _ ?_⟩; clear hK K CN) | (refine mg_calm rfl (fun K hK => ?_); go_simp; (refine hK _ ?_; clear hK K)))
        refine mg_nil fun w7 hw7 => ?_
        have HB7 := Lib.hid (Grow.trans HB5.out hw7)
        clear hw7 LA hgt hgt'
        go_wp2_with fail
        go_roundw
        case rel =>
          refine ⟨i + 1, by go_num, by omega, fun j hj => ?_, HB7.out⟩
          rcases Nat.lt_or_ge j i with h | h
          · exact HP.out j h
          · obtain rfl : j = i := by omega
            exact HST.out
        case measure => simp [intOf]; omega
      have hi1 : 0 < i := by omega
      obtain ⟨b2, q2, IX2, R2, -⟩ := (HG.out.below HB5.out).at tyP ((i : Int) - 1) (i - 1) (by omega) (by rw [← HN.out.1]; omega)
      rw [← HN.out.1] at IX2
      have LP := load_name R2
      have hwp : IntKind.i64.wrap ((i : Int) - 1) = (i : Int) - 1 := by rw [IntKind.wrap_i64]; omega
      have hgt : decide (0 < i) = true := decide_eq_true (by omega)
      have hgt' : decide ((0 : Int) < (i : Int)) = true := decide_eq_true (by omega)
      have EG : Op.bytesLess (strOf l[i - 1]!.name).toList NS.toList = Op.bytesLess l[i - 1]!.name p.name := by rw [HNS.out, strOf_list, strOf_list]
      have hso := HSO3.out
      clear HSO3 R2 hi0
      generalize Op.bytesLess l[i - 1]!.name p.name = cv at *
      generalize strOf l[i - 1]!.name = PS at *
      have HSO3 := Lib.hid hso
      clear hso
      cases cv
      case false =>
        refine wp_region_mg [(0, 0), (1, 0), (2, 0), (3, 0), (4, 0), (5, 0), (6, 0), (7, 0), (8, 0), (9, 0), (10, 0), (11, 0), (12, 0), (13, 0), (14, 0), (15, 0), (16, 0), (17, 0), (18, 0)] (by kernel_rfl) (by kernel_rfl) ?_
        iterate 19 (first | (refine mg_load rfl rfl _ _ rfl _ _ rfl LA ?_) | (refine mg_load rfl rfl _ _ rfl _ _ rfl LP ?_) | (refine mg_calm rfl (fun K hK => ?_); go_simp; apply Exists.intro; refine ⟨fun z => CN z, hK _ ?_⟩; clear hK K CN) | (refine mg_calm rfl (fun K hK => ?_); go_simp; (refine hK _ ?_; clear hK K)))
        refine mg_nil fun w7 hw7 => ?_
        have HB7 := Lib.hid (Grow.trans HB5.out hw7)
        clear hw7 LA LP IX2 hwp hgt' EG
        go_wp2_with fail
        go_ret
        exact ⟨_, rfl, ⟨fun h => (by cases h), fun h => absurd (h i HPP.out.2.2) (by rw [HSO3.out, hgt]; simp)⟩, HB7.out⟩
      · have HST : Hid (stepN l i = true) := Lib.hid (by rw [HSO3.out]; simp)
        refine wp_region_mg [(0, 0), (1, 0), (2, 0), (3, 0), (4, 0), (5, 0), (6, 0), (7, 0), (8, 0), (9, 0), (10, 0), (11, 0), (12, 0), (13, 0), (14, 0), (15, 0), (16, 0), (17, 0), (18, 0)] (by kernel_rfl) (by kernel_rfl) ?_
        iterate 19 (first | (refine mg_load rfl rfl _ _ rfl _ _ rfl LA ?_) | (refine mg_load rfl rfl _ _ rfl _ _ rfl LP ?_) | (refine mg_calm rfl (fun K hK => ?_); go_simp; apply Exists.intro; refine ⟨fun z => CN z, hK _ ?_⟩; clear hK K CN) | (refine mg_calm rfl (fun K hK => ?_); go_simp; (refine hK _ ?_; clear hK K)))
        refine mg_nil fun w7 hw7 => ?_
        have HB7 := Lib.hid (Grow.trans HB5.out hw7)
        clear hw7 LA LP IX2 hwp hgt hgt' EG
        go_wp2_with fail
        go_roundw
        case rel =>
          refine ⟨i + 1, by go_num, by omega, fun j hj => ?_, HB7.out⟩
          rcases Nat.lt_or_ge j i with h | h
          · exact HP.out j h
          · obtain rfl : j = i := by omega
            exact HST.out
        case measure => simp [intOf]; omega
    · obtain rfl : i = n := by omega
      have t1 : decide ((i : Int) < (i : Int)) = false := decide_eq_false (by omega)
      have t1' : decide (i < i) = false := decide_eq_false (by omega)
      go_wp2_with fail
      go_ret
      exact ⟨_, rfl, ⟨fun _ => fun j hj => HP.out j (by rw [HN.out.1]; exact hj), fun _ => rfl⟩, HB.out⟩

set_option maxRecDepth 100000 in
set_option maxHeartbeats 8000000 in
theorem refOrdered_any {w : World} {l : List RefP} {a : Option Addr} {cap : Nat} (hg : RsAt encP 21 w a cap l) (hlen : l.length ≤ 1000000) (hnm : ∀ p ∈ l, p.name.length ≤ 1000000) :
    Calls Tryz.prog 18 #[.slice a l.length cap] w fun e w' => ∃ r : Bool, e = .returned (.bool r) ∧ (r = true ↔ OrdP l) ∧ Below w.heap.size w w' := by
  obtain ⟨n, hn⟩ : ∃ n, n = l.length := ⟨_, rfl⟩
  have HN := Lib.hid (And.intro hn hnm)
  have HG := Lib.hid hg
  rw [← hn] at hlen ⊢
  clear hn hg hnm
  have hF0 := Below.refl w.heap.size w
  go_enter Tryz.func18, Tryz.ntmps18
  go_wp2_with fail
  go_loopw [3] (fun s7 wr => ∃ i : Nat, s7 = .int .i64 (i : Int) ∧ i ≤ n ∧ (∀ j, j < i → stepN l j = true) ∧ Below w.heap.size w wr) (fun s7 _ => n - (intOf s7).toNat)
  case atStart => exact ⟨0, rfl, Nat.zero_le _, fun _ h => absurd h (Nat.not_lt_zero _), hF0⟩
  case round =>
    clear hF0
    obtain ⟨i, rfl, hi, hpre, hb⟩ := hrel
    have HP := Lib.hid hpre
    have HB := Lib.hid hb
    clear hpre hb
    by_cases hin : i < n
    · have t1 : decide ((i : Int) < (n : Int)) = true := decide_eq_true (by omega)
      have t1' : decide (i < n) = true := decide_eq_true (by omega)
      have hil : i < l.length := by rw [← HN.out.1]; exact hin
      obtain ⟨b, q, IX, R, L⟩ := (HG.out.below HB.out).at tyD (i : Int) i rfl hil
      rw [← HN.out.1] at IX
      have L' := L _ (Below.refl _ _)
      have hpn : l[i]!.name.length ≤ 1000000 := HN.out.2 _ (by rw [getElem!_pos l i hil]; exact List.getElem_mem hil)
      have hso : stepN l i = (rightN l[i]!.name && (!decide (0 < i) || Op.bytesLess l[i - 1]!.name l[i]!.name)) := rfl
      obtain ⟨p, hp⟩ : ∃ p, p = l[i]! := ⟨_, rfl⟩
      rw [← hp] at L' R hpn hso
      have HPP := Lib.hid (And.intro hp.symm (And.intro hpn hil))
      have LA := load_name R
      have CN := fun y : Later wr => refRightN_any p.name HPP.out.2.1 y.1
      obtain ⟨w5, hw5⟩ : ∃ x, x = wr := ⟨_, rfl⟩
      have HB5 := HB
      clear L L' R hp hil hpn hw5 w5
      go_upto_region 4 with (fail)
      have HNS : Hid (strOf p.name = strOf p.name) := Lib.hid rfl
      obtain ⟨NS, hNS⟩ : ∃ NS, NS = strOf p.name := ⟨_, rfl⟩
      rw [← hNS] at LA CN
      clear HNS
      have HNS := Lib.hid hNS
      obtain ⟨d1, hd1⟩ : ∃ d, d = rightN p.name := ⟨_, rfl⟩
      rw [← hd1] at CN hso
      clear hNS hd1
      have HSO3 := Lib.hid hso
      clear hso
      cases d1
      case false =>
        refine wp_region_mg [(0, 0), (1, 0), (2, 0), (3, 0), (4, 0), (5, 0), (6, 0), (7, 0), (8, 0), (9, 0), (10, 0), (11, 0), (12, 0), (13, 0), (14, 0), (15, 0), (16, 0), (17, 0), (18, 0), (19, 0), (20, 0), (21, 0), (22, 0), (23, 0), (24, 0)] (by kernel_rfl) (by kernel_rfl) ?_
        iterate 25 (first | (refine mg_load rfl rfl _ _ rfl _ _ rfl LA ?_) | (refine mg_calm rfl (fun K hK => ?_); go_simp; apply Exists.intro; refine ⟨fun z => calls_calm ((CN z).mono fun e w hh => ⟨hh.1, hh.2.symm⟩), hK _ ?_⟩; clear hK K CN) | (refine mg_calm rfl (fun K hK => ?_); go_simp; (refine hK _ ?_; clear hK K)))
        refine mg_nil fun w7 hw7 => ?_
        have HB7 := Lib.hid (Grow.trans HB5.out hw7)
        clear hw7 LA
        go_wp2_with fail
        go_ret
        exact ⟨_, rfl, ⟨fun h => (by cases h), fun h => absurd (h i HPP.out.2.2) (by rw [HSO3.out]; simp)⟩, HB7.out⟩
      by_cases hi0 : i = 0
      case pos =>
        have hgt : decide (0 < i) = false := decide_eq_false (by omega)
        have hgt' : decide ((0 : Int) < (i : Int)) = false := decide_eq_false (by omega)
        have HST : Hid (stepN l i = true) := Lib.hid (by rw [HSO3.out, hgt]; rfl)
        clear hi0
        refine wp_region_mg [(0, 0), (1, 0), (2, 0), (3, 0), (4, 0), (5, 0), (6, 0), (7, 0), (8, 0), (9, 0), (10, 0), (11, 0), (12, 0), (13, 0), (14, 0), (15, 0), (16, 0), (17, 0), (18, 0), (19, 0), (20, 0), (21, 0), (22, 0), (23, 0), (24, 0)] (by kernel_rfl) (by kernel_rfl) ?_
        iterate 25 (first | (refine mg_load rfl rfl _ _ rfl _ _ rfl LA ?_) | (refine mg_calm rfl (fun K hK => ?_); go_simp; apply Exists.intro; refine ⟨fun z => calls_calm ((CN z).mono fun e w hh => ⟨hh.1, hh.2.symm⟩), hK _ ?_⟩; clear hK K CN) | (refine mg_calm rfl (fun K hK => ?_); go_simp; (refine hK _ ?_; clear hK K)))
        refine mg_nil fun w7 hw7 => ?_
        have HB7 := Lib.hid (Grow.trans HB5.out hw7)
        clear hw7 LA hgt hgt'
        go_wp2_with fail
        go_roundw
        case rel =>
          refine ⟨i + 1, by go_num, by omega, fun j hj => ?_, HB7.out⟩
          rcases Nat.lt_or_ge j i with h | h
          · exact HP.out j h
          · obtain rfl : j = i := by omega
            exact HST.out
        case measure => simp [intOf]; omega
      have hi1 : 0 < i := by omega
      obtain ⟨b2, q2, IX2, R2, -⟩ := (HG.out.below HB5.out).at tyD ((i : Int) - 1) (i - 1) (by omega) (by rw [← HN.out.1]; omega)
      rw [← HN.out.1] at IX2
      have LP := load_name R2
      have hwp : IntKind.i64.wrap ((i : Int) - 1) = (i : Int) - 1 := by rw [IntKind.wrap_i64]; omega
      have hgt : decide (0 < i) = true := decide_eq_true (by omega)
      have hgt' : decide ((0 : Int) < (i : Int)) = true := decide_eq_true (by omega)
      have EG : Op.bytesLess (strOf l[i - 1]!.name).toList NS.toList = Op.bytesLess l[i - 1]!.name p.name := by rw [HNS.out, strOf_list, strOf_list]
      have hso := HSO3.out
      clear HSO3 R2 hi0
      generalize Op.bytesLess l[i - 1]!.name p.name = cv at *
      generalize strOf l[i - 1]!.name = PS at *
      have HSO3 := Lib.hid hso
      clear hso
      cases cv
      case false =>
        refine wp_region_mg [(0, 0), (1, 0), (2, 0), (3, 0), (4, 0), (5, 0), (6, 0), (7, 0), (8, 0), (9, 0), (10, 0), (11, 0), (12, 0), (13, 0), (14, 0), (15, 0), (16, 0), (17, 0), (18, 0), (19, 0), (20, 0), (21, 0), (22, 0), (23, 0), (24, 0)] (by kernel_rfl) (by kernel_rfl) ?_
        iterate 25 (first | (refine mg_load rfl rfl _ _ rfl _ _ rfl LA ?_) | (refine mg_load rfl rfl _ _ rfl _ _ rfl LP ?_) | (refine mg_calm rfl (fun K hK => ?_); go_simp; apply Exists.intro; refine ⟨fun z => calls_calm ((CN z).mono fun e w hh => ⟨hh.1, hh.2.symm⟩), hK _ ?_⟩; clear hK K CN) | (refine mg_calm rfl (fun K hK => ?_); go_simp; (refine hK _ ?_; clear hK K)))
        refine mg_nil fun w7 hw7 => ?_
        have HB7 := Lib.hid (Grow.trans HB5.out hw7)
        clear hw7 LA LP IX2 hwp hgt' EG
        go_wp2_with fail
        go_ret
        exact ⟨_, rfl, ⟨fun h => (by cases h), fun h => absurd (h i HPP.out.2.2) (by rw [HSO3.out, hgt]; simp)⟩, HB7.out⟩
      · have HST : Hid (stepN l i = true) := Lib.hid (by rw [HSO3.out]; simp)
        refine wp_region_mg [(0, 0), (1, 0), (2, 0), (3, 0), (4, 0), (5, 0), (6, 0), (7, 0), (8, 0), (9, 0), (10, 0), (11, 0), (12, 0), (13, 0), (14, 0), (15, 0), (16, 0), (17, 0), (18, 0), (19, 0), (20, 0), (21, 0), (22, 0), (23, 0), (24, 0)] (by kernel_rfl) (by kernel_rfl) ?_
        iterate 25 (first | (refine mg_load rfl rfl _ _ rfl _ _ rfl LA ?_) | (refine mg_load rfl rfl _ _ rfl _ _ rfl LP ?_) | (refine mg_calm rfl (fun K hK => ?_); go_simp; apply Exists.intro; refine ⟨fun z => calls_calm ((CN z).mono fun e w hh => ⟨hh.1, hh.2.symm⟩), hK _ ?_⟩; clear hK K CN) | (refine mg_calm rfl (fun K hK => ?_); go_simp; (refine hK _ ?_; clear hK K)))
        refine mg_nil fun w7 hw7 => ?_
        have HB7 := Lib.hid (Grow.trans HB5.out hw7)
        clear hw7 LA LP IX2 hwp hgt hgt' EG
        go_wp2_with fail
        go_roundw
        case rel =>
          refine ⟨i + 1, by go_num, by omega, fun j hj => ?_, HB7.out⟩
          rcases Nat.lt_or_ge j i with h | h
          · exact HP.out j h
          · obtain rfl : j = i := by omega
            exact HST.out
        case measure => simp [intOf]; omega
    · obtain rfl : i = n := by omega
      have t1 : decide ((i : Int) < (i : Int)) = false := decide_eq_false (by omega)
      have t1' : decide (i < i) = false := decide_eq_false (by omega)
      go_wp2_with fail
      go_ret
      exact ⟨_, rfl, ⟨fun _ => fun j hj => HP.out j (by rw [HN.out.1]; exact hj), fun _ => rfl⟩, HB.out⟩
end Go.Proofs.YtponfkfeflnilaaGreatDoor
