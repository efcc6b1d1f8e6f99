/-
  The walk of made of package inflate.
-/
import Derived.Test.YtaapnjhkflpiiaaInf4
import Derived.Deep.CutRange
import Derived.Laws.Rows
import Derived.Laws.Tables
import Derived.Laws.CopyOwn
namespace Go.Proofs.Ytaapnjhkflpiiaa
open Go.RowKit Go.Mix

theorem elemInt : Elem1 3 37 (.int .i64 0) 8 := ⟨Try.underlying37, by kernel_rfl, rfl, fun w => by kernel_rfl⟩
theorem icells_one (l : List Nat) : ∀ u ∈ icells l, u.oneCell' = true := by
  intro u hu
  simp [icells] at hu
  obtain ⟨y, _, rfl⟩ := hu
  rfl

/-- The counts while the code is made: lengths up to n are done, of length n + 1 the first i signs are looked at. -/
def csAt (ls : List Nat) (n i l : Nat) : Nat := if l = 0 then 0 else if l ≤ n then cnt ls l else if l = n + 1 then (idxTo ls (n + 1) i).length else 0

theorem csAt_same (ls : List Nat) (n i l : Nat) (h : ls.getD i 0 ≠ n + 1) : csAt ls n (i + 1) l = csAt ls n i l := by
  unfold csAt; rw [idxTo, if_neg h]
theorem csAt_here (ls : List Nat) (n i : Nat) : csAt ls n i (n + 1) = (idxTo ls (n + 1) i).length := by
  unfold csAt; rw [if_neg (by omega), if_neg (by omega), if_pos rfl]
theorem csAt_more (ls : List Nat) (n i : Nat) (h : ls.getD i 0 = n + 1) (l : Nat) : csAt ls n (i + 1) l = if l = n + 1 then csAt ls n i (n + 1) + 1 else csAt ls n i l := by
  by_cases hl : l = n + 1
  · subst hl; rw [if_pos rfl, csAt_here, csAt_here, idxTo, if_pos h]; simp
  · rw [if_neg hl]; unfold csAt; simp only [if_neg hl]
theorem csAt_next (ls : List Nat) (n l : Nat) : csAt ls (n + 1) 0 l = csAt ls n ls.length l := by
  unfold csAt
  by_cases h0 : l = 0
  · simp [h0]
  · rw [if_neg h0, if_neg h0]
    by_cases h1 : l ≤ n
    · rw [if_pos (by omega), if_pos h1]
    · by_cases h2 : l = n + 1
      · rw [if_pos (by omega), if_neg h1, if_pos h2, h2]; rfl
      · rw [if_neg (by omega), if_neg h1, if_neg h2]; split <;> rfl
theorem csAt_end (ls : List Nat) (l : Nat) (h : l < 16) : csAt ls 15 0 l = cn ls l := by
  unfold csAt cn
  split
  · rfl
  · rw [if_pos (by omega)]
theorem csAt_start (ls : List Nat) (l : Nat) : csAt ls 0 0 l = 0 := by
  unfold csAt
  split
  · rfl
  · rw [if_neg (by omega)]; split <;> rfl

theorem idxTo_len (ls : List Nat) (n : Nat) : ∀ i, (idxTo ls n i).length ≤ i := by
  intro i
  induction i with
  | zero => simp [idxTo]
  | succ i ih => rw [idxTo]; split <;> (try rw [List.length_append, List.length_singleton]) <;> omega
/-- Each sign has one length. -/
def cntsTo (ls : List Nat) (i : Nat) : Nat → Nat
  | 0 => 0
  | n + 1 => cntsTo ls i n + (idxTo ls (n + 1) i).length
theorem cntsTo_succ (ls : List Nat) (i : Nat) : ∀ n, cntsTo ls (i + 1) n = cntsTo ls i n + (if 1 ≤ ls.getD i 0 ∧ ls.getD i 0 ≤ n then 1 else 0) := by
  intro n
  induction n with
  | zero => simp only [cntsTo]; rw [if_neg (by omega)]
  | succ n ih =>
    rw [cntsTo, cntsTo, ih, idxTo]
    by_cases h : ls.getD i 0 = n + 1
    · rw [if_pos h, if_neg (by omega), if_pos (by omega)]; simp; omega
    · rw [if_neg h]
      by_cases h2 : 1 ≤ ls.getD i 0 ∧ ls.getD i 0 ≤ n
      · rw [if_pos h2, if_pos (by omega)]; omega
      · rw [if_neg h2, if_neg (by omega)]; omega
theorem cntsTo_le (ls : List Nat) (n : Nat) : ∀ i, cntsTo ls i n ≤ i := by
  intro i
  induction i with
  | zero =>
    have : cntsTo ls 0 n = 0 := by
      induction n with
      | zero => rfl
      | succ n ih => rw [cntsTo, ih]; rfl
    omega
  | succ i ih => rw [cntsTo_succ]; split <;> omega
theorem sgnTo_cnts (ls : List Nat) : ∀ n, (sgnTo ls n).length = cntsTo ls ls.length n := by
  intro n
  induction n with
  | zero => rfl
  | succ n ih => rw [sgnTo, cntsTo, List.length_append, ih]; rfl
theorem sgnTo_le (ls : List Nat) (n : Nat) : (sgnTo ls n).length ≤ ls.length := by rw [sgnTo_cnts]; exact cntsTo_le ls n _

/-- The code while it is made. -/
def MadeAt (S : Nat → Prop) (w0 w : World) (B : Nat) (ls : List Nat) (n i : Nat) : Prop :=
  ∃ C v, w.heap[B]? = some (.cells C 61 (0, 0)) ∧ C.size = 17 ∧ (∀ l, l < 16 → C[l]? = some (.int .i64 (csAt ls n i l : Nat))) ∧ C[16]? = some v ∧
    Row S 3 w0 w v (icells (sgnTo ls n ++ idxTo ls (n + 1) i)) ∧ ¬ S B

theorem MadeAt.skip {S : Nat → Prop} {w0 w : World} {B : Nat} {ls : List Nat} {n i : Nat} (h : MadeAt S w0 w B ls n i) (hi : ls.getD i 0 ≠ n + 1) : MadeAt S w0 w B ls n (i + 1) := by
  obtain ⟨C, v, h1, h2, h3, h4, h5, h6⟩ := h
  exact ⟨C, v, h1, h2, fun l hl => by rw [csAt_same ls n i l hi]; exact h3 l hl, h4, by rw [idxTo, if_neg hi]; exact h5, h6⟩
theorem MadeAt.next {S : Nat → Prop} {w0 w : World} {B : Nat} {ls : List Nat} {n : Nat} (h : MadeAt S w0 w B ls n ls.length) : MadeAt S w0 w B ls (n + 1) 0 := by
  obtain ⟨C, v, h1, h2, h3, h4, h5, h6⟩ := h
  refine ⟨C, v, h1, h2, fun l hl => by rw [csAt_next]; exact h3 l hl, h4, ?_, h6⟩
  have e : sgnTo ls (n + 1) ++ idxTo ls (n + 1 + 1) 0 = sgnTo ls n ++ idxTo ls (n + 1) ls.length := by rw [sgnTo]; simp [idxTo, idx]
  rw [e]; exact h5

theorem heap_set {w : World} {B : Nat} {C : Array Value} {t : TypeId} {fr : Nat × Nat} (h : w.heap[B]? = some (.cells C t fr)) (k : Nat) (v : Value) : (w.setCell ⟨B, k, none⟩ v).heap[B]? = some (.cells (C.setIfInBounds k v) t fr) := by
  have hlt := lt_of_block h
  have h' : w.heap[B] = .cells C t fr := by simpa [Array.getElem?_eq_getElem hlt] using h
  show (w.heap.modify B _)[B]? = _
  rw [Array.getElem?_eq_getElem (by simpa using hlt), Array.getElem_modify_self, h']; rfl

/-- A new code. -/
abbrev zeroC : Array Value := #[.int .i64 0, .int .i64 0, .int .i64 0, .int .i64 0, .int .i64 0, .int .i64 0, .int .i64 0, .int .i64 0, .int .i64 0, .int .i64 0, .int .i64 0, .int .i64 0, .int .i64 0, .int .i64 0, .int .i64 0, .int .i64 0, .slice none 0 0]
theorem zeroC_at (l : Nat) (h : l < 16) : zeroC[l]? = some (.int .i64 0) := by
  have : l = 0 ∨ l = 1 ∨ l = 2 ∨ l = 3 ∨ l = 4 ∨ l = 5 ∨ l = 6 ∨ l = 7 ∨ l = 8 ∨ l = 9 ∨ l = 10 ∨ l = 11 ∨ l = 12 ∨ l = 13 ∨ l = 14 ∨ l = 15 := by omega
  rcases this with rfl | rfl | rfl | rfl | rfl | rfl | rfl | rfl | rfl | rfl | rfl | rfl | rfl | rfl | rfl | rfl <;> rfl

theorem roomTo_bound (ls : List Nat) (h : ls.length ≤ 1000) (n : Nat) : roomTo ls n ≤ n * 32768000 := by
  induction n with
  | zero => simp [roomTo]
  | succ n ih =>
    rw [roomTo]
    have h1 : cnt ls (n + 1) ≤ 1000 := Nat.le_trans (idxTo_len _ _ _) h
    have h2 : 2 ^ (15 - (n + 1)) ≤ 2 ^ 15 := Nat.pow_le_pow_right (by decide) (by omega)
    have h3 : cnt ls (n + 1) * 2 ^ (15 - (n + 1)) ≤ 1000 * 2 ^ 15 := Nat.mul_le_mul h1 h2
    have e : 1000 * 2 ^ 15 = 32768000 := by decide
    rw [e] at h3
    generalize cnt ls (n + 1) * 2 ^ (15 - (n + 1)) = z at *
    omega

theorem heap_setRow_other (w : World) (g k : Nat) (C : Array Value) (h : k ≠ g) : (w.setRow g C).heap[k]? = w.heap[k]? := by
  unfold World.setRow
  show (w.heap.modify g _)[k]? = _
  rw [Array.getElem?_modify, if_neg (Ne.symm h)]

set_option maxRecDepth 100000 in
set_option maxHeartbeats 1000000 in
theorem made_any (w : World) (a : Option Addr) (cap : Nat) (ls : List Nat) (nn : Bool) (hl : Cells w a (icells ls)) (hfew : ls.length ≤ 1000) :
    Calls Try.prog 61 #[.slice a ls.length cap, .bool nn] w fun e w' =>
      Below w.heap.size w w' ∧ ((good ls nn = true ∧ ∃ C, e = .returned (.agg C) ∧ CodeIn (fun k => w.heap.size ≤ k ∧ k < w'.heap.size) w' ls C) ∨ (good ls nn = false ∧ e = .panicked (thrown 4))) := by
  have gw : Below w.heap.size w ((w.alloc (.cells zeroC 61)).alloc (.cells zeroC 61)) := ((Below.refl _ _).alloc (Nat.le_refl _) _).alloc (by simp) _
  have hA : ((w.alloc (.cells zeroC 61)).alloc (.cells zeroC 61)).heap[w.heap.size]? = some (.cells zeroC 61 (0, 0)) :=
    (((Below.refl (w.alloc (.cells zeroC 61)).heap.size _).alloc (Nat.le_refl _) _).block w.heap.size (by simp)).trans (heap_alloc_last _ _ _ rfl)
  have hB : ((w.alloc (.cells zeroC 61)).alloc (.cells zeroC 61)).heap[w.heap.size + 1]? = some (.cells zeroC 61 (0, 0)) := heap_alloc_last _ _ _ (by simp)
  have hsz : ((w.alloc (.cells zeroC 61)).alloc (.cells zeroC 61)).heap.size = w.heap.size + 2 := by simp
  go_enter Try.func61, Try.ntmps61
  go_wp2_with fail
  generalize ((w.alloc (.cells zeroC 61)).alloc (.cells zeroC 61)) = w2 at *
  have hM : MadeAt (fun k => k < w.heap.size + 1) w2 w2 (w.heap.size + 1) ls 0 0 :=
    ⟨zeroC, .slice none 0 0, hB, rfl, fun l hl => by rw [csAt_start]; exact zeroC_at l hl, rfl, Row.nil (FrameS.refl fun k hk => by have : k < w.heap.size + 1 := hk; omega), fun h => by omega⟩
  have hl2 : ∀ x, FrameS (fun k => k < w.heap.size + 1) w2 x → Cells x a (icells ls) := fun x hx => hl.below (gw.trans ((hx.toBelow (B := w.heap.size) (fun k hk => by show k < w.heap.size + 1; omega))))
  clear hl hB
  generalize hQ : w.heap.size + 1 = B at *
  go_loopw [6] (fun i wr => ∃ n : Nat, i = .int .i64 ((n + 1 : Nat) : Int) ∧ n ≤ 15 ∧ MadeAt (fun k => k < B) w2 wr B ls n 0) (fun i _ => 16 - (intOf i).toNat)
  case atStart => exact ⟨0, rfl, by omega, hM⟩
  case round =>
    clear hM
    obtain ⟨n, rfl, hn, hM⟩ := hrel
    by_cases hn15 : n < 15
    · have t1 : decide ((n : Int) + 1 < 16) = true := decide_eq_true (by omega)
      have t2 : decide (((n + 1 : Nat) : Int) < 16) = true := decide_eq_true (by omega)
      go_wp2_with fail
      go_loopw [18] (fun i wr => ∃ j : Nat, i = .int .i64 (j : Int) ∧ j ≤ ls.length ∧ MadeAt (fun k => k < B) w2 wr B ls n j) (fun i _ => ls.length - (intOf i).toNat)
      case atStart => exact ⟨0, rfl, by omega, hM⟩
      case round =>
        clear hM
        obtain ⟨j, rfl, hj, hM⟩ := hrel
        by_cases hjl : j < ls.length
        · have t3 : decide ((j : Int) < (ls.length : Int)) = true := decide_eq_true (by omega)
          have t4 : decide (j < ls.length) = true := decide_eq_true (by omega)
          obtain ⟨IK, IC⟩ := ints_at (hl2 wr (by obtain ⟨C, v, -, -, -, -, hr, -⟩ := hM; exact hr.frame)) cap (by omega) (j : Int) j rfl hjl
          obtain ⟨x, hx⟩ : ∃ x, x = ls.getD j 0 := ⟨_, rfl⟩
          rw [← hx] at IC
          by_cases hxn : x = n + 1
          · have t5 : (((x : Nat) : Int) == (n : Int) + 1) = true := by rw [beq_iff_eq]; omega
            have t6 : (((x : Nat) : Int) == ((n + 1 : Nat) : Int)) = true := by rw [beq_iff_eq]; omega
            have t7 : (x == n + 1) = true := by rw [beq_iff_eq]; exact hxn
            have hsame := csAt_more ls n j (hx ▸ hxn)
            have hidx : idxTo ls (n + 1) (j + 1) = idxTo ls (n + 1) j ++ [j] := by rw [idxTo, if_pos (hx ▸ hxn)]
            obtain ⟨C, v, hB, hs, hcn, hv, hrow, hSB⟩ := hM
            have hcc := hcn (n + 1) (by omega)
            have hc1000 : csAt ls n j (n + 1) ≤ 1000 := by rw [csAt_here]; exact Nat.le_trans (idxTo_len _ _ _) (by omega)
            have hlen : (icells (sgnTo ls n ++ idxTo ls (n + 1) j)).length ≤ 2000 := by
              rw [icells_length, List.length_append]
              have h1 := sgnTo_le ls n
              have h2 := idxTo_len ls (n + 1) j
              omega
            have HX := Lib.hid (And.intro hsame (And.intro hidx hcn))
            clear hsame hidx hcn
            generalize csAt ls n j (n + 1) = c at *
            have c1 : wr.cell? ⟨B, n + 1, none⟩ = some (.int .i64 (c : Nat)) := (cell_of_row wr B (n + 1) C _ _ hB).trans hcc
            have f1 : ∀ k, wr.frozen? ⟨B, k, none⟩ = false := fun k => by simp [World.frozen?, hB]
            have hB3 := heap_set hB (n + 1) (.int .i64 ((c : Int) + 1))
            have hrow3 := hrow.set_other (p := ⟨B, n + 1, none⟩) (hrow.other hB (by decide)) hSB (.int .i64 ((c : Int) + 1))
            have hv3 : (C.setIfInBounds (n + 1) (.int .i64 ((c : Int) + 1)))[16]? = some v := by rw [Array.getElem?_setIfInBounds_ne (by omega)]; exact hv
            clear hx hxn hcc
            go_upto_region 10 with (fail)
            clear hB hrow c1 f1 hv
            generalize wr.setCell ⟨B, n + 1, none⟩ (.int .i64 ((c : Int) + 1)) = w3 at *
            have c1 : w3.cell? ⟨B, 16, none⟩ = some v := (cell_of_row w3 B 16 _ _ _ hB3).trans hv3
            go_wp2_with (at_builtin; refine wpList_append_fresh elemInt rfl (.tmp 34) (.tmp 36) rfl v _ rfl hrow3 _ [.int .i64 (j : Int)] rfl 1 1 rfl rfl (by simp [Value.oneCell']) (by simp only [List.length_singleton]; omega) (by simp only [List.length_singleton]; omega) ?_; intro v5 w5 hrow5 hgr5; have hB5 := (hgr5.block B (lt_of_block hB3) (Ne.symm (hrow3.other hB3 (by decide)))).trans hB3; have c5 := (cell_of_row w5 B 16 _ _ _ hB5).trans hv3; have f5 : ∀ k, w5.frozen? ⟨B, k, none⟩ = false := (fun k => by simp [World.frozen?, hB5]); obtain ⟨a5, k5, hv5, -⟩ := hrow5.slice; obtain ⟨n5, hn5⟩ : ∃ n5, n5 = (icells (sgnTo ls n ++ idxTo ls (n + 1) j) ++ [Value.int .i64 (j : Int)]).length := ⟨_, rfl⟩; rw [← hn5] at hv5; subst hv5; clear hn5)
            refine ⟨⟨.int .i64 (j : Int), .int .i64 (x : Int), .int .i64 ((j : Int) + 1), ⟨j + 1, by go_num, by omega, ?_⟩, rfl, rfl, rfl⟩, by simp [intOf]; omega⟩
            · refine ⟨_, .slice a5 n5 k5, heap_set hB5 16 (.slice a5 n5 k5), ?_, ?_, ?_, ?_, hSB⟩
              · simp [hs]
              · intro l hl
                rw [Array.getElem?_setIfInBounds_ne (by omega), HX.out.1 l]
                by_cases hln : l = n + 1
                · subst hln
                  rw [if_pos rfl, Array.getElem?_setIfInBounds_self_of_lt (by omega)]; go_num
                · rw [if_neg hln, Array.getElem?_setIfInBounds_ne (by omega)]; exact HX.out.2.2 l hl
              · rw [Array.getElem?_setIfInBounds_self_of_lt (by simp; omega)]
              · have h9 := hrow5.set_other (p := ⟨B, 16, none⟩) (hrow5.other hB5 (by decide)) hSB (.slice a5 n5 k5)
                have e : icells (sgnTo ls n ++ idxTo ls (n + 1) (j + 1)) = icells (sgnTo ls n ++ idxTo ls (n + 1) j) ++ [.int .i64 (j : Int)] := by
                  rw [HX.out.2.1]; simp [icells]
                rw [e]; exact h9
          · have t5 : (((x : Nat) : Int) == (n : Int) + 1) = false := by rw [beq_eq_false_iff_ne]; omega
            have t6 : (((x : Nat) : Int) == ((n + 1 : Nat) : Int)) = false := by rw [beq_eq_false_iff_ne]; omega
            have t7 : (x == n + 1) = false := by rw [beq_eq_false_iff_ne]; exact hxn
            have hM2 := hM.skip (hx ▸ hxn)
            clear hx hxn
            go_wp2_with fail
            go_roundw
            case rel => exact ⟨j + 1, by go_num, by omega, hM2⟩
            case measure => simp [intOf]; omega
        · obtain rfl : j = ls.length := by omega
          have t3 : decide ((ls.length : Int) < (ls.length : Int)) = false := decide_eq_false (by omega)
          have hM2 := hM.next
          go_wp2_with fail
          go_roundw
          case rel => exact ⟨n + 1, by go_num, by omega, hM2⟩
          case measure => simp [intOf]; omega
    · obtain rfl : n = 15 := by omega
      have t1 : decide (((15 : Nat) : Int) + 1 < 16) = false := by decide
      have t2 : decide (((15 + 1 : Nat) : Int) < 16) = false := by decide
      obtain ⟨C, v, hB, hs, hcn, hv, hrow, hSB⟩ := hM
      have hcn2 : ∀ l, l < 16 → C[l]? = some (.int .i64 (cn ls l : Nat)) := fun l hl => by rw [hcn l hl, csAt_end ls l hl]
      have hrow2 : Row (fun k => k < B) 3 w2 wr v (icells (sgn ls)) := by
        have e : sgnTo ls 15 ++ idxTo ls (15 + 1) 0 = sgn ls := by simp [idxTo, sgn]
        rw [← e]; exact hrow
      clear hcn hrow
      have hcB : ∀ l, wr.cell? ⟨B, l, none⟩ = C[l]? := fun l => cell_of_row wr B l C _ _ hB
      go_wp2_with fail
      go_loopw [9, 10] (fun r i wx => ∃ n : Nat, r = .int .i64 (roomTo ls n : Nat) ∧ i = .int .i64 ((n + 1 : Nat) : Int) ∧ n ≤ 15 ∧ wx = wr) (fun _ i _ => 16 - (intOf i).toNat)
      case atStart => exact ⟨0, rfl, rfl, by omega, rfl⟩
      case round =>
        obtain ⟨n, rfl, rfl, hn, rfl⟩ := hrel
        by_cases hn15 : n < 15
        · have u1 : decide ((n : Int) + 1 < 16) = true := decide_eq_true (by omega)
          have u2 : decide (((n + 1 : Nat) : Int) < 16) = true := decide_eq_true (by omega)
          have c1 : wr.cell? ⟨B, n + 1, none⟩ = some (.int .i64 (cnt ls (n + 1) : Nat)) := (hcB _).trans (hcn2 (n + 1) (by omega))
          obtain ⟨m, hm⟩ : ∃ m, m = 15 - (n + 1) := ⟨_, rfl⟩
          have hm1 : (15 : Int) - ((n : Int) + 1) = (m : Int) := by omega
          have hb := roomTo_bound ls hfew (n + 1)
          have hr : roomTo ls (n + 1) = roomTo ls n + cnt ls (n + 1) * 2 ^ m := by rw [hm]; rfl
          have hcnt : cnt ls (n + 1) ≤ 1000 := Nat.le_trans (idxTo_len _ _ _) hfew
          generalize cnt ls (n + 1) = c at *
          generalize hz : c * 2 ^ m = z at *
          have hz2 : (c : Int) * 2 ^ m = (z : Int) := by rw [← hz, Int.natCast_mul, Int.natCast_pow]; rfl
          have hroom : roomTo ls n + z ≤ 600000000 := by omega
          have HR := Lib.hid hr
          clear hb hr hz hm hcB
          generalize hr0 : roomTo ls n = r at *
          go_wp2_with fail
          go_roundw
          case rel => exact ⟨n + 1, by rw [HR.out]; go_num, by go_num, by omega, trivial⟩
          case measure => simp [intOf]; omega
        · obtain rfl : n = 15 := by omega
          have u1 : decide (((15 : Nat) : Int) + 1 < 16) = false := by decide
          have u2 : decide (((15 + 1 : Nat) : Int) < 16) = false := by decide
          have hG := Lib.hid (show good ls nn = (decide (roomTo ls 15 = 32768) || (decide ((sgn ls).length = 1) && decide (cnt ls 1 = 1)) || (nn && decide ((sgn ls).length = 0))) from rfl)
          obtain ⟨av, cv, hve, -⟩ := hrow2.slice
          rw [icells_length] at hve
          have c1 : wr.cell? ⟨B, 1, none⟩ = some (.int .i64 (cnt ls 1 : Nat)) := (hcB _).trans (hcn2 1 (by omega))
          have c16 : wr.cell? ⟨B, 16, none⟩ = some (.slice av (sgn ls).length cv) := (hcB _).trans (by rw [hv, hve])
          have hs1000 : (sgn ls).length ≤ 1000 := Nat.le_trans (sgnTo_le ls 15) hfew
          have hc1000 : cnt ls 1 ≤ 1000 := Nat.le_trans (idxTo_len _ _ _) hfew
          have hb := roomTo_bound ls hfew 15
          have HK := Lib.hid (And.intro hve (And.intro hcB hcn2))
          clear hcB hcn2 hve
          generalize hy : (sgn ls).length = y at *
          generalize hx : cnt ls 1 = x at *
          generalize hrr : roomTo ls 15 = r at *
          generalize hgg : good ls nn = g at *
          have HGG := Lib.hid hgg
          clear hx hrr hgg
          go_upto_region 17 with (fail)
          go_cut [11] from 53 to 75 (fun t wc => t = .bool g ∧ wc = wr)
          case first =>
            have hG2 := hG.out
            by_cases h1 : r = 32768
            · have v1 : ((r : Int) == 32768) = true := by rw [beq_iff_eq]; omega
              obtain rfl : g = true := by rw [hG2]; simp [h1]
              clear hG2 hG HK
              go_wp2_with fail
              go_meet
              exact ⟨rfl, rfl⟩
            · have v1 : ((r : Int) == 32768) = false := by rw [beq_eq_false_iff_ne]; omega
              by_cases h2 : y = 1
              · have v2 : ((y : Int) == 1) = true := by rw [beq_iff_eq]; omega
                have v4 : ((y : Int) == 0) = false := by rw [beq_eq_false_iff_ne]; omega
                by_cases h3 : x = 1
                · have v3 : ((x : Int) == 1) = true := by rw [beq_iff_eq]; omega
                  obtain rfl : g = true := by rw [hG2]; simp [h1, h2, h3]
                  clear hG2 hG HK
                  go_wp2_with fail
                  go_meet
                  exact ⟨rfl, rfl⟩
                · have v3 : ((x : Int) == 1) = false := by rw [beq_eq_false_iff_ne]; omega
                  obtain rfl : g = false := by rw [hG2]; simp [h1, h2, h3]
                  clear hG2 hG HK
                  cases nn <;> (go_wp2_with fail; go_meet; exact ⟨rfl, rfl⟩)
              · have v2 : ((y : Int) == 1) = false := by rw [beq_eq_false_iff_ne]; omega
                by_cases h3 : y = 0
                · have v4 : ((y : Int) == 0) = true := by rw [beq_iff_eq]; omega
                  obtain rfl : g = nn := by rw [hG2]; simp [h1, h3]
                  clear hG2 hG HK
                  cases g <;> (go_wp2_with fail; go_meet; exact ⟨rfl, rfl⟩)
                · have v4 : ((y : Int) == 0) = false := by rw [beq_eq_false_iff_ne]; omega
                  obtain rfl : g = false := by rw [hG2]; simp [h1, h2, h3]
                  clear hG2 hG HK
                  cases nn <;> (go_wp2_with fail; go_meet; exact ⟨rfl, rfl⟩)
          case rest =>
            obtain ⟨rfl, rfl⟩ := hcut
            cases g with
            | false =>
              go_wp2_with fail
              refine (fail_any 4 _ _ rfl).mono ?_
              rintro e w' ⟨rfl, rfl⟩
              go_wp2_with fail
              refine ⟨rfl, gw.trans (hrow2.frame.toBelow (B := w.heap.size) (fun k hk => by show k < B; omega)), ?_⟩
              exact .inr ⟨HGG.out, rfl⟩
            | true =>
              go_upto_region 20 with (fail)
              have hAr : wc.heap[w.heap.size]? = some (.cells zeroC 61 (0, 0)) := (hrow2.frame.keep w.heap.size (by show w.heap.size < B; omega)).2.trans hA
              have hone : C.all (·.oneCell') = true := by
                rw [Array.all_eq_true]
                intro i hi
                have hi17 : i < 17 := by omega
                by_cases h16 : i < 16
                · have h1 := HK.out.2.2 i h16
                  rw [Array.getElem?_eq_getElem hi] at h1
                  injection h1 with h1
                  rw [h1]; rfl
                · obtain rfl : i = 16 := by omega
                  rw [HK.out.1] at hv
                  rw [Array.getElem?_eq_getElem hi] at hv
                  injection hv with hv
                  rw [hv]; rfl
              apply wp_region_lit
              refine wpList_load_row rfl 61 (.tmp 5) rfl B rfl _ C _ _ hB Try.underlying61 rfl (by rw [hs]; kernel_rfl) ?_
              refine wpList_store_row rfl 61 (.tmp 4) (.tmp 79) rfl w.heap.size C rfl rfl _ _ hAr (by rw [hs]; kernel_rfl) (by rw [hs]; rfl) hone ?_
              have hA2 := setRow_heap wc w.heap.size _ C _ _ hAr
              have hfr : Below w.heap.size w (wc.setRow w.heap.size C) := below_setRow (gw.trans (hrow2.frame.toBelow (B := w.heap.size) (fun k hk => by show k < B; omega))) (Nat.le_refl _) C
              have hcode : CodeIn (fun k => w.heap.size ≤ k ∧ k < (wc.setRow w.heap.size C).heap.size) (wc.setRow w.heap.size C) ls C := by
                refine ⟨hs, HK.out.2.2, ⟨av, cv, by rw [hv, HK.out.1, hy], ?_, ?_, ?_⟩, by omega⟩
                · obtain ⟨a', c', e1, hc, -⟩ := hrow2.slice
                  rw [HK.out.1] at e1
                  injection e1 with e1 e2 e3
                  subst e1
                  refine ⟨hc.1, fun j hj => ?_⟩
                  rw [← hc.2 j hj]
                  cases av with
                  | none => have := hc.1 rfl; rw [this] at hj; simp at hj
                  | some x =>
                    have hb : (elt (some x) j).block = x.block := by unfold elt Addr.add; simp only [Option.getD_some]; split <;> rfl
                    have h9 := hrow2.off x.block (by rw [HK.out.1]; rfl)
                    have h9' : ¬ x.block < B := h9
                    exact World.cell?_of_block (by rw [hb]; exact heap_setRow_other _ _ _ _ (by omega))
                · intro e
                  obtain ⟨a', c', e1, hc, -, -, h4⟩ := hrow2.slice
                  rw [HK.out.1] at e1
                  injection e1 with e1 e2 e3
                  subst e1 e3
                  exact h4 e
                · intro x hx
                  have e1 : v.ownBlock = some x.block := by rw [HK.out.1, hx]; rfl
                  have h9 : ¬ x.block < B := hrow2.off x.block e1
                  have h8 := hrow2.lt x.block e1
                  exact ⟨by omega, by rw [size_setRow]; exact h8⟩
              generalize wc.setRow w.heap.size C = wd at *
              go_wp2_with fail
              refine bodyPost_ret (results_cell_row rfl _ _ w.heap.size _ C _ _ rfl hA2 Try.underlying61 rfl (by rw [hs]; kernel_rfl)) rfl ?_
              exact ⟨hfr, .inl ⟨HGG.out, C, rfl, hcode⟩⟩

end Go.Proofs.Ytaapnjhkflpiiaa
