/-
  strings.Cut at a separator of one byte: the walk.
  Marks as text: the plain law.
  marks.Parse: the walk.
-/
import Derived.Test.YtnlkanhakmkejaaDoorSha24
import Derived.Test.YtnlkanhakmkejaaDoorStrOps
import Derived.Test.YtnlkanhakmkejaaDoorPrt24
import Derived.Lib.IndexLaws
import Derived.OwnWalk
import Derived.Test.YtnlkanhakmkejaaDoorStr
namespace Go.Proofs.YtnlkanhakmkejaaDoor
open Go.RowKit Go.Mix Go.WideMaps Go.Proofs

/-- What Cut hands back. -/
def cutV (l : List UInt8) (c : UInt8) : Value := if Lib.indexByte l c < 0 then .tuple #[.string (strOf l), .string (strOf []), .bool false] else .tuple #[.string (strOf (l.take (Lib.indexByte l c).toNat)), .string (strOf (l.drop ((Lib.indexByte l c).toNat + 1))), .bool true]

set_option maxRecDepth 100000 in
set_option maxHeartbeats 2000000 in
theorem cut1_any (l : List UInt8) (c : UInt8) (hl : l.length ≤ 1000000000) (w : World) : Calls Tryd.prog 64 #[.string (strOf l), .string ⟨#[c]⟩] w fun e w' => e = .returned (cutV l c) ∧ Below w.heap.size w w' := by
  have C := Tryd.stringslite_Index_one (strOf l) c w
  change Calls _ _ _ _ (fun e w' => e = .returned (.int .i64 (Lib.indexByte l c)) ∧ w' = w) at C
  have hge := Lib.indexByte_ge l c
  have hsome := fun o => Lib.indexByte_some (l := l) (c := c) (o := o)
  obtain ⟨r, hr⟩ : ∃ r, r = Lib.indexByte l c := ⟨_, rfl⟩
  rw [← hr] at C hge
  have HS := Lib.hid hsome
  have HR := Lib.hid hr
  clear hr hsome
  go_enter Tryd.func64, Tryd.ntmps64
  go_wp2_with fail
  refine C.mono ?_
  rintro e w2 ⟨rfl, rfl⟩
  clear C
  by_cases hn : r < 0
  · have hv : cutV l c = .tuple #[.string (strOf l), .string (strOf []), .bool false] := by unfold cutV; rw [← HR.out, if_pos hn]
    have HV := Lib.hid hv
    have t1 : decide (r ≥ 0) = false := decide_eq_false (by omega)
    have t1' : decide (0 ≤ r) = false := decide_eq_false (by omega)
    clear hv
    go_wp2_with fail
    go_ret3
    exact ⟨by rw [HV.out]; rfl, Below.refl _ _⟩
  · obtain ⟨i, rfl⟩ := Int.eq_ofNat_of_zero_le (show 0 ≤ r by omega)
    have hv : cutV l c = .tuple #[.string (strOf (l.take i)), .string (strOf (l.drop (i + 1))), .bool true] := by unfold cutV; rw [← HR.out, if_neg hn]; rfl
    have HV := Lib.hid hv
    have hil : i < l.length := by
      have := (HS.out i HR.out.symm).1
      exact (List.getElem?_eq_some_iff.1 this).1
    have t1 : decide ((i : Int) ≥ 0) = true := decide_eq_true (by omega)
    have t1' : decide (0 ≤ (i : Int)) = true := decide_eq_true (by omega)
    have S1 := fun W => str_to Tryd.underlying9 l (i := i) (by omega) W
    have S2 := fun W => str_from Tryd.underlying9 l (i := i + 1) (by omega) W
    have W1 : IntKind.i64.wrap ((i : Int) + 1) = ((i + 1 : Nat) : Int) := by rw [IntWalk.i64_in _ (by omega)]; omega
    have hsz : (⟨#[c]⟩ : ByteArray).size = 1 := rfl
    clear hv hn hge
    generalize strOf (l.take i) = A1 at *
    generalize strOf (l.drop (i + 1)) = A2 at *
    generalize (⟨#[c]⟩ : ByteArray) = sep at *
    go_upto_region 3 with (fail)
    refine wp_region_mg [(0, 0), (1, 0), (2, 0), (3, 0), (4, 0), (5, 0), (6, 0), (7, 0), (8, 0), (9, 0), (10, 0), (11, 0)] (by kernel_rfl) (by kernel_rfl) ?_
    iterate 12 (first | (refine mg_slice rfl rfl _ _ _ _ _ rfl _ _ _ _ _ rfl rfl rfl rfl S1 ?_) | (refine mg_slice rfl rfl _ _ _ _ _ rfl _ _ _ _ _ rfl rfl rfl rfl S2 ?_) | (refine mg_calm rfl (fun K hK => ?_); go_simp; (refine hK _ ?_; clear hK K)))
    refine mg_nil fun w7 hw7 => ?_
    have HW7 : Hid (Below w2.heap.size w2 w7) := Lib.hid hw7
    clear hw7
    go_wp2_with fail
    go_ret3
    exact ⟨by rw [HV.out]; rfl, HW7.out⟩

set_option maxRecDepth 100000 in
set_option maxHeartbeats 2000000 in
theorem cut_anyK (l : List UInt8) (c : UInt8) (hl : l.length ≤ 1000000000) (w : World) : Calls Tryd.prog 45 #[.string (strOf l), .string ⟨#[c]⟩] w fun e w' => e = .returned (cutV l c) ∧ Below w.heap.size w w' := by
  have C := cut1_any l c hl w
  obtain ⟨p, q, b, hv⟩ : ∃ p q b, cutV l c = .tuple #[.string p, .string q, .bool b] := by
    unfold cutV; split
    · exact ⟨_, _, _, rfl⟩
    · exact ⟨_, _, _, rfl⟩
  rw [hv] at C
  have HV := Lib.hid hv
  clear hv
  go_enter Tryd.func45, Tryd.ntmps45
  go_wp2_with fail
  refine C.mono ?_
  rintro e w2 ⟨rfl, hb⟩
  have HB := Lib.hid hb
  clear C hb
  go_wp2_with fail
  go_ret3
  exact ⟨by rw [HV.out]; rfl, HB.out⟩
end Go.Proofs.YtnlkanhakmkejaaDoor
namespace Go.Proofs.YtnlkanhakmkejaaDoor
open Go.RowKit Go.Mix Go.WideMaps Go.Proofs

theorem lineL_inj {p q : Pr} (h : lineL p = lineL q) : p = q := by
  have l1 := hexL_len p.1.1
  have l2 := hexL_len q.1.1
  rw [p.1.2] at l1
  rw [q.1.2] at l2
  unfold lineL at h
  simp only [List.append_assoc] at h
  obtain ⟨h1, h2⟩ := List.append_inj h (by omega)
  obtain ⟨_, h3⟩ := List.append_inj h2 rfl
  have m1 := hexL_len p.2.1
  have m2 := hexL_len q.2.1
  rw [p.2.2] at m1
  rw [q.2.2] at m2
  obtain ⟨h4, _⟩ := List.append_inj h3 (by omega)
  exact Prod.ext (Subtype.ext (hexL_inj _ _ h1)) (Subtype.ext (hexL_inj _ _ h4))
theorem textL_cons (p : Pr) (l : List Pr) : textL (p :: l) = lineL p ++ textL l := by simp [textL]
theorem textL_app (a b : List Pr) : textL (a ++ b) = textL a ++ textL b := by simp [textL]
theorem textL_rest : ∀ {a l : List Pr} {s : List UInt8}, textL l = textL a ++ s → s = textL (l.drop a.length)
  | [], l, s, h => by simpa [textL] using h.symm
  | p :: a, [], s, h => by
    have := congrArg List.length h
    rw [textL_cons, List.length_append, List.length_append, lineL_len] at this
    simp [textL] at this
    omega
  | p :: a, q :: l, s, h => by
    rw [textL_cons, textL_cons, List.append_assoc] at h
    obtain ⟨h1, h2⟩ := List.append_inj h (by rw [lineL_len, lineL_len])
    have := textL_rest h2
    simpa using this
theorem textL_inj {a b : List Pr} (h : textL a = textL b) : a = b := by
  have h2 := textL_rest (s := []) (a := b) (l := a) (by simpa using h)
  have hl := congrArg List.length h
  rw [textL_len, textL_len] at hl
  clear h2
  induction a generalizing b with
  | nil => cases b with
    | nil => rfl
    | cons q b => simp at hl
  | cons p a ih => cases b with
    | nil => simp at hl
    | cons q b =>
      rw [textL_cons, textL_cons] at h
      obtain ⟨h1, h3⟩ := List.append_inj h (by rw [lineL_len, lineL_len])
      rw [lineL_inj h1, ih h3 (by simp at hl; omega)]

/-- What a text's marks are, and the error's number. -/
noncomputable def parseO (s : List UInt8) : List Pr × Int := open Classical in if h : ∃ l, s = textL l then (if Rt h.choose then (h.choose, 0) else ([], 9)) else ([], 4)
theorem parseO_text {s : List UInt8} {l : List Pr} (h : s = textL l) : (Rt l → parseO s = (l, 0)) ∧ (¬ Rt l → parseO s = ([], 9)) := by
  have hx : ∃ l, s = textL l := ⟨l, h⟩
  have e : hx.choose = l := textL_inj (hx.choose_spec.symm.trans h)
  unfold parseO
  rw [dif_pos hx, e]
  exact ⟨fun h => if_pos h, fun h => if_neg h⟩
theorem parseO_none {s : List UInt8} (h : ∀ l, s ≠ textL l) : parseO s = ([], 4) := by
  unfold parseO
  rw [dif_neg fun ⟨l, hl⟩ => h l hl]
/-- A rest that begins with no line. -/
theorem parseO_bad {s s' : List UInt8} {acc : List Pr} (h : s = textL acc ++ s') (h0 : s' ≠ []) (hno : ∀ p r, s' ≠ lineL p ++ r) : parseO s = ([], 4) := by
  refine parseO_none fun l hl => ?_
  have := textL_rest (hl.symm.trans h)
  cases hd : l.drop acc.length with
  | nil => rw [hd] at this; exact h0 this
  | cons p r => rw [hd, textL_cons] at this; exact hno _ _ this

theorem idx_app {c : UInt8} : ∀ {a : List UInt8} {b : List UInt8}, c ∉ a → Lib.indexByte (a ++ c :: b) c = (a.length : Int)
  | [], b, _ => by simp [Lib.indexByte]
  | x :: a, b, h => by
    have hx : (x == c) = false := by rw [beq_eq_false_iff_ne]; exact fun e => h (by simp [e])
    have ih := idx_app (c := c) (a := a) (b := b) (fun e => h (List.mem_cons_of_mem _ e))
    simp only [List.cons_append, Lib.indexByte, hx, ih]
    have : (((a.length : Int)) == -1) = false := by rw [beq_eq_false_iff_ne]; omega
    rw [this]
    simp
theorem idx_none {c : UInt8} : ∀ {l : List UInt8}, c ∉ l → Lib.indexByte l c = -1
  | [], _ => rfl
  | x :: l, h => by
    have hx : (x == c) = false := by rw [beq_eq_false_iff_ne]; exact fun e => h (by simp [e])
    simp [Lib.indexByte, hx, idx_none (c := c) (l := l) (fun e => h (List.mem_cons_of_mem _ e))]
/-- The three parts that Cut hands back. -/
def cutB (l : List UInt8) (c : UInt8) : List UInt8 × List UInt8 × Bool := if Lib.indexByte l c < 0 then (l, [], false) else (l.take (Lib.indexByte l c).toNat, l.drop ((Lib.indexByte l c).toNat + 1), true)
theorem cutV_eq (l : List UInt8) (c : UInt8) : cutV l c = .tuple #[.string (strOf (cutB l c).1), .string (strOf (cutB l c).2.1), .bool (cutB l c).2.2] := by
  unfold cutV cutB; split <;> rfl
theorem cutB_app {c : UInt8} {a b : List UInt8} (h : c ∉ a) : cutB (a ++ c :: b) c = (a, b, true) := by
  unfold cutB
  rw [idx_app h, if_neg (by omega), Int.toNat_natCast]
  simp
theorem cutB_true {l : List UInt8} {c : UInt8} (h : (cutB l c).2.2 = true) : l = (cutB l c).1 ++ c :: (cutB l c).2.1 := by
  unfold cutB at *
  split
  · rename_i hn; rw [if_pos hn] at h; cases h
  · rename_i hn
    have hge := Lib.indexByte_ge l c
    obtain ⟨i, hi⟩ := Int.eq_ofNat_of_zero_le (show 0 ≤ Lib.indexByte l c by omega)
    have hs := (Lib.indexByte_some hi).1
    obtain ⟨hil, hc⟩ := List.getElem?_eq_some_iff.1 hs
    rw [hi, Int.toNat_natCast]
    conv => lhs; rw [← List.take_append_drop i l, List.drop_eq_getElem_cons hil, hc]
theorem cutB_len (l : List UInt8) (c : UInt8) : (cutB l c).1.length ≤ l.length ∧ (cutB l c).2.1.length ≤ l.length := by
  unfold cutB; split
  · simp
  · simp; omega

theorem not_hex {c : UInt8} (h : ∀ d : Fin 16, hexd d.val ≠ c) (l : List UInt8) : c ∉ hexL l := fun hm => by
  obtain ⟨d, hd, e⟩ := mem_hexL hm
  exact h ⟨d, hd⟩ e.symm
theorem no10 : ∀ d : Fin 16, hexd d.val ≠ 10 := by decide
theorem no32 : ∀ d : Fin 16, hexd d.val ≠ 32 := by decide

/-- The program's look at the first line: right exactly where the text begins with one. -/
theorem prog_line (s : List UInt8) :
    (∃ p r, s = lineL p ++ r ∧ (cutB s 10).2.2 = true ∧ (cutB (cutB s 10).1 32).2.2 = true ∧ unhex (cutB (cutB s 10).1 32).1 = some p.1 ∧ unhex (cutB (cutB s 10).1 32).2.1 = some p.2 ∧ (cutB s 10).2.1 = r) ∨
      ((∀ p r, s ≠ lineL p ++ r) ∧ ((cutB s 10).2.2 = false ∨ (cutB (cutB s 10).1 32).2.2 = false ∨ unhex (cutB (cutB s 10).1 32).1 = none ∨ unhex (cutB (cutB s 10).1 32).2.1 = none)) := by
  by_cases hx : ∃ p r, s = lineL p ++ r
  · obtain ⟨p, r, rfl⟩ := hx
    have e : lineL p ++ r = (hexL p.1.1 ++ 32 :: hexL p.2.1) ++ 10 :: r := by simp [lineL]
    have c1 : cutB (lineL p ++ r) 10 = (hexL p.1.1 ++ 32 :: hexL p.2.1, r, true) := by
      rw [e]
      refine cutB_app fun h => ?_
      rcases List.mem_append.1 h with h | h
      · exact not_hex no10 _ h
      · rcases List.mem_cons.1 h with h | h
        · cases h
        · exact not_hex no10 _ h
    have c2 : cutB (hexL p.1.1 ++ 32 :: hexL p.2.1) 32 = (hexL p.1.1, hexL p.2.1, true) := cutB_app (not_hex no32 _)
    refine .inl ⟨p, r, rfl, ?_, ?_, ?_, ?_, ?_⟩ <;> rw [c1]
    · show (cutB (hexL p.1.1 ++ 32 :: hexL p.2.1) 32).2.2 = true
      rw [c2]
    · show unhex (cutB (hexL p.1.1 ++ 32 :: hexL p.2.1) 32).1 = some p.1
      rw [c2]; exact unhex_some rfl
    · show unhex (cutB (hexL p.1.1 ++ 32 :: hexL p.2.1) 32).2.1 = some p.2
      rw [c2]; exact unhex_some rfl
  · refine .inr ⟨fun p r h => hx ⟨p, r, h⟩, ?_⟩
    cases h1 : (cutB s 10).2.2 with
    | false => exact .inl rfl
    | true =>
      cases h2 : (cutB (cutB s 10).1 32).2.2 with
      | false => exact .inr (.inl rfl)
      | true =>
        rcases unhex_cases (cutB (cutB s 10).1 32).1 with ⟨x, hx1, _⟩ | ⟨_, hn⟩
        · rcases unhex_cases (cutB (cutB s 10).1 32).2.1 with ⟨y, hy1, _⟩ | ⟨_, hn⟩
          · refine absurd ⟨(x, y), (cutB s 10).2.1, ?_⟩ hx
            have e1 := cutB_true h1
            have e2 := cutB_true h2
            rw [hx1, hy1] at e2
            have e4 : s = (hexL x.1 ++ 32 :: hexL y.1) ++ 10 :: (cutB s 10).2.1 := by rw [← e2]; exact e1
            refine e4.trans ?_
            generalize (cutB s 10).2.1 = t
            simp [lineL]
          · exact .inr (.inr (.inr hn))
        · exact .inr (.inr (.inl hn))

/-- The document's look at the first line. -/
theorem ref_line (s : List UInt8) :
    (∃ p r, s = lineL p ++ r ∧ 82 ≤ s.length ∧ s[40]? = some 32 ∧ s[81]? = some 10 ∧ unhex (s.take 40) = some p.1 ∧ unhex ((s.drop 41).take 40) = some p.2 ∧ s.drop 82 = r) ∨
      ((∀ p r, s ≠ lineL p ++ r) ∧ (s.length < 82 ∨ s[40]? ≠ some 32 ∨ s[81]? ≠ some 10 ∨ unhex (s.take 40) = none ∨ unhex ((s.drop 41).take 40) = none)) := by
  by_cases hx : ∃ p r, s = lineL p ++ r
  · obtain ⟨p, r, rfl⟩ := hx
    have l1 := hexL_len p.1.1
    have l2 := hexL_len p.2.1
    rw [p.1.2] at l1
    rw [p.2.2] at l2
    refine .inl ⟨p, r, rfl, by rw [List.length_append, lineL_len]; omega, ?_, ?_, ?_, ?_, ?_⟩
    · unfold lineL
      simp only [List.append_assoc]
      rw [List.getElem?_append_right (by omega), l1]; rfl
    · unfold lineL
      simp only [List.append_assoc]
      rw [List.getElem?_append_right (by omega), l1, List.getElem?_append_right (by simp), List.getElem?_append_right (by rw [l2]; decide), l2]; rfl
    · refine unhex_some ?_
      unfold lineL
      simp only [List.append_assoc]
      rw [List.take_append_of_le_length (by omega), List.take_of_length_le (by omega)]
    · refine unhex_some ?_
      have e : lineL p ++ r = (hexL p.1.1 ++ [32]) ++ (hexL p.2.1 ++ ([10] ++ r)) := by simp [lineL]
      rw [e, show (41 : Nat) = (hexL p.1.1 ++ [32]).length by rw [List.length_append, l1]; rfl, List.drop_left, List.take_append_of_le_length (by omega), List.take_of_length_le (by omega)]
    · rw [← lineL_len p, List.drop_left]
  · refine .inr ⟨fun p r h => hx ⟨p, r, h⟩, ?_⟩
    by_cases c0 : s.length < 82
    · exact .inl c0
    by_cases c1 : s[40]? = some 32
    · by_cases c2 : s[81]? = some 10
      · rcases unhex_cases (s.take 40) with ⟨x, hx1, _⟩ | ⟨_, hn⟩
        · rcases unhex_cases ((s.drop 41).take 40) with ⟨y, hy1, _⟩ | ⟨_, hn⟩
          · refine absurd ⟨(x, y), s.drop 82, ?_⟩ hx
            obtain ⟨h40, e40⟩ := List.getElem?_eq_some_iff.1 c1
            obtain ⟨h81, e81⟩ := List.getElem?_eq_some_iff.1 c2
            unfold lineL
            rw [← hx1, ← hy1]
            have d40 := List.drop_eq_getElem_cons h40
            have d81 := List.drop_eq_getElem_cons h81
            rw [e40] at d40
            rw [e81] at d81
            have t2 := List.take_append_drop 40 (s.drop 41)
            rw [List.drop_drop, d81] at t2
            conv => lhs; rw [← List.take_append_drop 40 s, d40, ← t2]
            simp
          · exact .inr (.inr (.inr (.inr hn)))
        · exact .inr (.inr (.inr (.inl hn)))
      · exact .inr (.inr (.inl c2))
    · exact .inr (.inl c1)
end Go.Proofs.YtnlkanhakmkejaaDoor
namespace Go.Proofs.YtnlkanhakmkejaaDoor
open Go.RowKit Go.Mix Go.WideMaps Go.Proofs

def strLen : Value → Nat
  | .string s => s.size
  | _ => 0

theorem ids_box {w : World} {B : Nat} {x : Id20} {t : TypeId} {fr : Nat × Nat} (h : w.heap[B]? = some (.cells (idA x) t fr)) : (Instr.loadAt 46 (.pointer (some ⟨B, 0, none⟩))).run Tryd.prog w = .ok (.agg (idA x)) w := by
  simp only [Instr.loadAt, Instr.sureAddr, Sem.run_bind, Sem.run_pure, Result.andThen_ok]
  exact run_loadVar_row _ _ t _ _ fr _ h Tryd.underlying46 rfl (by rw [show (idA x).size = 20 by simp [idA, idc_len]]; exact tyG.fi)

theorem sha_some {s : List UInt8} {x : Id20} (h : unhex s = some x) : shaX s = x ∧ shaE s = 0 := by unfold shaX shaE; rw [h]; exact ⟨rfl, rfl⟩
theorem sha_none {s : List UInt8} (h : unhex s = none) : shaE s = 4 := by unfold shaE; rw [h]; rfl
set_option maxRecDepth 100000 in
set_option maxHeartbeats 4000000 in
theorem parse_any {w : World} {s : List UInt8} {a : Option Addr} {cap : Nat} (hg : Sl w a cap s) (hlen : s.length ≤ 1000000) :
    Calls Tryd.prog 26 #[.slice a s.length cap] w fun e w' => ∃ v, e = .returned (.tuple #[v, .int .i64 (parseO s).2]) ∧ OwnP 50 w w' v (parseO s).1 := by
  obtain ⟨n, hn⟩ : ∃ n, n = s.length := ⟨_, rfl⟩
  have HN := Lib.hid hn
  have ST := hg.str
  change (convert 51 9 (.slice a s.length cap)).run Tryd.prog w = .ok (.string (strOf s)) w at ST
  obtain ⟨Z, hZ⟩ : ∃ Z, Z = idA id0 := ⟨_, rfl⟩
  have z : ∀ w, (zeroValue 46).run Tryd.prog w = .ok (.agg Z) w := fun w => by rw [hZ]; kernel_rfl
  have HZ := Lib.hid hZ
  rw [← hn] at ST ⊢
  have hF0 : Below w.heap.size w w := Below.refl _ _
  have HLEN := Lib.hid hlen
  clear hn hg hZ hlen
  go_enter Tryd.func26, Tryd.ntmps26
  go_wp2_with fail
  go_loopw [4, 5] (fun s4 s5 wr => ∃ (acc : List Pr) (s' : List UInt8), s5 = .string (strOf s') ∧ s = textL acc ++ s' ∧ OwnP 50 w wr s4 acc) (fun _ s5 _ => strLen s5)
  case atStart => exact ⟨[], s, rfl, by simp [textL], OwnP.nil hF0⟩
  case round =>
    clear hF0 ST
    obtain ⟨acc, s', rfl, hs, hrow⟩ := hrel
    have hal : 82 * acc.length + s'.length ≤ 1000000 := by
      have h1 := HLEN.out
      rw [hs, List.length_append, textL_len] at h1; exact h1
    have HS := Lib.hid hs
    have HAL := Lib.hid hal
    clear hs hal
    by_cases h0 : s' = []
    · subst h0
      have E0 : (strOf ([] : List UInt8)).toList.isEmpty = true := by rw [strOf_list]; rfl
      have hss : s = textL acc := by have := HS.out; simpa using this
      obtain ⟨p1, p2⟩ := parseO_text hss
      obtain ⟨ac, cc, rfl, hpa⟩ := hrow.ps
      have C12 := right_anyK hpa (by have := HAL.out; omega)
      have HP := Lib.hid (And.intro p1 p2)
      have HROW := Lib.hid hrow
      clear hss p1 p2 hrow hpa
      generalize (strOf ([] : List UInt8)) = T0 at *
      obtain ⟨k, hk⟩ : ∃ k, k = acc.length := ⟨_, rfl⟩
      have HK := Lib.hid hk
      rw [← hk] at C12 ⊢
      clear hk
      go_wp2_with fail
      refine C12.mono ?_
      rintro e w3 ⟨r, rfl, hr, hb3⟩
      have HR := Lib.hid (And.intro hr hb3)
      clear C12 hr hb3
      cases r
      · have hno : ¬ Rt acc := fun h => by have := HR.out.1.2 h; cases this
        have hpo := HP.out.2 hno
        have HPO := Lib.hid hpo
        clear hpo hno
        go_wp2_with fail
        go_ret2
        exact ⟨_, by rw [HPO.out]; rfl, by rw [HPO.out]; exact OwnP.nil (HROW.out.frame.trans (HR.out.2.mono HROW.out.frame.size))⟩
      · have hpo := HP.out.1 (HR.out.1.1 rfl)
        have HPO := Lib.hid hpo
        clear hpo
        go_wp2_with fail
        go_ret2
        exact ⟨_, by rw [HPO.out]; rfl, by rw [HPO.out, HK.out]; exact HROW.out.later HR.out.2⟩
    · have E0 : (strOf s').toList.isEmpty = false := by
        rw [strOf_list]; cases s' with
        | nil => exact absurd rfl h0
        | cons => rfl
      have C4 := cut_anyK s' 10 (by have := HAL.out; omega) wr
      have HPL := Lib.hid (prog_line s')
      have hln := (cutB_len s' 10).1
      rw [cutV_eq] at C4
      have HLS := Lib.hid (show (strOf s').size = s'.length from strOf_size s')
      obtain ⟨one, h1⟩ : ∃ x, x = (cutB s' 10).1 := ⟨_, rfl⟩
      obtain ⟨rest, h2⟩ : ∃ x, x = (cutB s' 10).2.1 := ⟨_, rfl⟩
      obtain ⟨ok, h3⟩ : ∃ x, x = (cutB s' 10).2.2 := ⟨_, rfl⟩
      rw [← h1] at hln
      rw [← h1, ← h2, ← h3] at C4
      have HC1 := Lib.hid (And.intro h1 (And.intro h2 h3))
      have HONE := Lib.hid hln
      have HROW := Lib.hid hrow
      clear h1 h2 h3 hln hrow
      obtain ⟨S', hS'⟩ : ∃ S, S = strOf s' := ⟨_, rfl⟩
      have HS' := Lib.hid hS'
      rw [← hS'] at C4 E0 ⊢
      clear hS'
      go_wp2_with fail
      refine C4.mono ?_
      rintro e w4 ⟨rfl, hb4⟩
      have C5 := cut_anyK one 32 (by have := HAL.out; have := HONE.out; omega) w4
      rw [cutV_eq] at C5
      obtain ⟨g, h1⟩ : ∃ x, x = (cutB one 32).1 := ⟨_, rfl⟩
      obtain ⟨h, h2⟩ : ∃ x, x = (cutB one 32).2.1 := ⟨_, rfl⟩
      obtain ⟨is, h3⟩ : ∃ x, x = (cutB one 32).2.2 := ⟨_, rfl⟩
      rw [← h1, ← h2, ← h3] at C5
      have HC2 := Lib.hid (And.intro h1 (And.intro h2 h3))
      have HB4 : Hid (Below wr.heap.size wr w4) := Lib.hid hb4
      clear h1 h2 h3 C4 hb4
      obtain ⟨ONE, hO⟩ : ∃ S, S = strOf one := ⟨_, rfl⟩
      obtain ⟨RST, hR⟩ : ∃ S, S = strOf rest := ⟨_, rfl⟩
      have HRST := Lib.hid hR
      rw [← hO] at C5 ⊢
      rw [← hR]
      clear hO hR
      go_wp2_with fail
      refine C5.mono ?_
      rintro e w5 ⟨rfl, hb5⟩
      have C6 := shaParse_any (strOf g) w5
      change Calls _ _ _ _ (fun e w' => e = .returned (.tuple #[.agg (idA (shaX g)), .int .i64 (shaE g)]) ∧ Below w5.heap.size w5 w') at C6
      obtain ⟨xg, hxg⟩ : ∃ x, x = shaX g := ⟨_, rfl⟩
      obtain ⟨eg, heg⟩ : ∃ x, x = shaE g := ⟨_, rfl⟩
      rw [← hxg, ← heg] at C6
      have HG1 := Lib.hid (And.intro hxg heg)
      have HB5 := Lib.hid (HB4.out.trans (hb5.mono HB4.out.size))
      clear C5 hb5 hxg heg
      obtain ⟨GS, hGS⟩ : ∃ S, S = strOf g := ⟨_, rfl⟩
      obtain ⟨HSt, hHS⟩ : ∃ S, S = strOf h := ⟨_, rfl⟩
      have HHS := Lib.hid hHS
      rw [← hGS] at C6 ⊢
      rw [← hHS]
      clear hGS hHS
      go_wp2_with fail
      refine C6.mono ?_
      rintro e w6 ⟨rfl, hb6⟩
      have HB6 := Lib.hid (HB5.out.trans (hb6.mono HB5.out.size))
      clear C6 hb6
      have hz7 : (w6.alloc (.cells Z 46)).heap[w6.heap.size]? = some (.cells Z 46 (0, 0)) := heap_alloc_last _ _ _ rfl
      have hg7 : Below w6.heap.size w6 ((w6.alloc (.cells Z 46)).setRow w6.heap.size (idA xg)) := below_setRow ((Below.refl _ _).alloc (Nat.le_refl _) _) (Nat.le_refl _) _
      have hk7 : ((w6.alloc (.cells Z 46)).setRow w6.heap.size (idA xg)).heap[w6.heap.size]? = some (.cells (idA xg) 46 (0, 0)) := setRow_heap _ _ _ _ _ _ hz7
      have zs : Z.size = (idA xg).size := by rw [HZ.out]; simp [idA, idc_len]
      have zi : (Tryd.prog.info? 46).map (·.size) = some (idA xg).size := by rw [show (idA xg).size = 20 by simp [idA, idc_len]]; exact tyG.fi
      have z1 : (idA xg).all (·.oneCell') = true := all_oneCell_toArray (bcells_one _)
      have HG7 := Lib.hid (And.intro hg7 hk7)
      clear hg7 hk7
      go_upto_region 7 with (refine wpList_store_row rfl 46 _ _ rfl w6.heap.size (idA xg) rfl rfl 46 Z hz7 zi zs z1 ?_)
      have hg7 := HG7.out.1
      have hk7 := HG7.out.2
      clear HG7 zs zi z1 hz7
      generalize (w6.alloc (.cells Z 46)).setRow w6.heap.size (idA xg) = w7 at *
      have C7 := shaParse_any (strOf h) w7
      change Calls _ _ _ _ (fun e w' => e = .returned (.tuple #[.agg (idA (shaX h)), .int .i64 (shaE h)]) ∧ Below w7.heap.size w7 w') at C7
      obtain ⟨xh, hxh⟩ : ∃ x, x = shaX h := ⟨_, rfl⟩
      obtain ⟨eh, heh⟩ : ∃ x, x = shaE h := ⟨_, rfl⟩
      rw [← hxh, ← heh] at C7
      rw [← HHS.out] at C7
      have HG2 := Lib.hid (And.intro hxh heh)
      have HB7 := Lib.hid (And.intro (HB6.out.trans (hg7.mono HB6.out.size)) hk7)
      clear hxh heh hg7 hk7
      go_wp2_with fail
      refine C7.mono ?_
      rintro e w8 ⟨rfl, hb8⟩
      have HB8 := Lib.hid (And.intro (HB7.out.1.trans (hb8.mono HB7.out.1.size)) (block_below HB7.out.2 hb8))
      clear C7 hb8
      have hz8 : (w8.alloc (.cells Z 46)).heap[w8.heap.size]? = some (.cells Z 46 (0, 0)) := heap_alloc_last _ _ _ rfl
      have hg8 : Below w8.heap.size w8 ((w8.alloc (.cells Z 46)).setRow w8.heap.size (idA xh)) := below_setRow ((Below.refl _ _).alloc (Nat.le_refl _) _) (Nat.le_refl _) _
      have hk8 : ((w8.alloc (.cells Z 46)).setRow w8.heap.size (idA xh)).heap[w8.heap.size]? = some (.cells (idA xh) 46 (0, 0)) := setRow_heap _ _ _ _ _ _ hz8
      have zs : Z.size = (idA xh).size := by rw [HZ.out]; simp [idA, idc_len]
      have zi : (Tryd.prog.info? 46).map (·.size) = some (idA xh).size := by rw [show (idA xh).size = 20 by simp [idA, idc_len]]; exact tyG.fi
      have z1 : (idA xh).all (·.oneCell') = true := all_oneCell_toArray (bcells_one _)
      have HG8 := Lib.hid (And.intro hg8 hk8)
      clear hg8 hk8
      go_upto_region 8 with (refine wpList_store_row rfl 46 _ _ rfl w8.heap.size (idA xh) rfl rfl 46 Z hz8 zi zs z1 ?_)
      have hg8 := HG8.out.1
      have hk8 := HG8.out.2
      clear HG8 zs zi z1 hz8
      generalize (w8.alloc (.cells Z 46)).setRow w8.heap.size (idA xh) = w9 at *
      have HB9 := Lib.hid (And.intro (HB8.out.1.trans (hg8.mono HB8.out.1.size)) (And.intro (block_below HB8.out.2 hg8) hk8))
      have HR := Lib.hid (HROW.out.later HB9.out.1)
      clear hg8 hk8
      obtain ⟨X12, hX12⟩ : ∃ X, X = w6.heap.size := ⟨_, rfl⟩
      obtain ⟨X14, hX14⟩ : ∃ X, X = w8.heap.size := ⟨_, rfl⟩
      have HXX := Lib.hid (And.intro hX12 hX14)
      rw [← hX12, ← hX14]
      clear hX12 hX14
      rcases HPL.out with ⟨p, r, hsp, k1, k2, k3, k4, k5⟩ | ⟨hno, hbad⟩
      · rw [← HC1.out.2.2] at k1
        rw [← HC1.out.1, ← HC2.out.2.2] at k2
        rw [← HC1.out.1, ← HC2.out.1] at k3
        rw [← HC1.out.1, ← HC2.out.2.1] at k4
        rw [← HC1.out.2.1] at k5
        obtain ⟨m1, m2⟩ := sha_some k3
        obtain ⟨m3, m4⟩ := sha_some k4
        rw [← HG1.out.1] at m1
        rw [← HG1.out.2] at m2
        rw [← HG2.out.1] at m3
        rw [← HG2.out.2] at m4
        subst m1 m2 m3 m4 k1 k2 k5
        have HSP := Lib.hid hsp
        have L12 := ids_box HB9.out.2.1
        have L14 := ids_box HB9.out.2.2
        rw [← HXX.out.1] at L12
        rw [← HXX.out.2] at L14
        have B := fun W : World => tyG.build p.1 p.2 W
        have B1 := tyG.one p w9
        have hrow9 := HR.out.later ((Below.refl _ _).alloc (Nat.le_refl _) (.cells (encAK p) 50))
        have hp9 := PsAt.one w9 50 p
        clear k3 k4 hsp
        go_wp2_with (first | (refine wpList_load_at rfl _ _ rfl _ _ rfl L12 ?_) | (refine wpList_load_at rfl _ _ rfl _ _ rfl L14 ?_) | (refine wpList_build_at rfl _ _ rfl [(0, .agg (idA p.1)), (1, .agg (idA p.2))] _ rfl (B _) ?_) | (refine wpList_buildSlice_at rfl _ _ _ rfl [(0, .agg (encAK p))] _ rfl B1 ?_) | (refine wpList_append_p tyG rfl (.tmp 56) (.tmp 60) rfl _ acc rfl hrow9 (some ⟨w9.heap.size, 0, none⟩) 1 1 [p] rfl rfl hp9 (by have := HAL.out; simp; omega) ?_; intro v11 w11 hrow11 hgr11 hgn11; clear hgr11 hgn11 hrow9 hp9 B B1 L12 L14))
        go_roundw
        case rel => exact ⟨acc ++ [p], rest, HRST.out ▸ rfl, by rw [HS.out, HSP.out, textL_app]; simp [textL], hrow11⟩
        case measure =>
          have h1 := congrArg List.length HSP.out
          rw [List.length_append, lineL_len] at h1
          show strLen (.string _) < strLen (.string _)
          simp only [strLen, HRST.out, HS'.out, strOf_size]
          omega
      · cases ok
        · go_wp2_with fail
          go_ret2
          have hpo := parseO_bad HS.out h0 (hno)
          exact ⟨_, by rw [hpo]; rfl, by rw [hpo]; exact OwnP.nil HR.out.frame⟩
        · cases is
          · go_wp2_with fail
            go_ret2
            have hpo := parseO_bad HS.out h0 (hno)
            exact ⟨_, by rw [hpo]; rfl, by rw [hpo]; exact OwnP.nil HR.out.frame⟩
          · rw [← HC1.out.2.2, ← HC1.out.1, ← HC2.out.1, ← HC2.out.2.1, ← HC2.out.2.2] at hbad
            have hbad2 : unhex g = none ∨ unhex h = none := by
              rcases hbad with h | h | h | h
              · cases h
              · cases h
              · exact .inl h
              · exact .inr h
            have HBAD := Lib.hid hbad2
            clear hbad hbad2
            by_cases he : eg = 0
            · subst he
              have he2 : eh = 4 := by
                rcases HBAD.out with h | h
                · have := sha_none h; rw [← HG1.out.2] at this; cases this
                · rw [HG2.out.2]; exact sha_none h
              subst he2
              go_wp2_with fail
              go_ret2
              have hpo := parseO_bad HS.out h0 (hno)
              exact ⟨_, by rw [hpo]; rfl, by rw [hpo]; exact OwnP.nil HR.out.frame⟩
            · have he2 : eg = 4 := by
                rcases unhex_cases g with ⟨x, -, hx⟩ | ⟨-, hx⟩
                · exact absurd (by rw [HG1.out.2]; exact (sha_some hx).2) he
                · rw [HG1.out.2]; exact sha_none hx
              subst he2
              clear he
              go_wp2_with fail
              go_ret2
              have hpo := parseO_bad HS.out h0 (hno)
              exact ⟨_, by rw [hpo]; rfl, by rw [hpo]; exact OwnP.nil HR.out.frame⟩
end Go.Proofs.YtnlkanhakmkejaaDoor
