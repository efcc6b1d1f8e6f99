/-
  MarksAdds: the plain law.
-/
import Derived.Test.YtnlkanhakmkejaaAs24
import Derived.Test.YtnlkanhakmkejaaFindsLast
namespace Go.Proofs.Ytnlkanhakmkejaa
open Go.RowKit Go.Mix Go.WideMaps Go.Proofs

theorem wp_code_eq {P : Program} {c c' : Code} {Q : Exit → Act → World → Prop} {a : Act} {w : World} (h : c = c') (h2 : Code.wp P c' Q a w) : Code.wp P c Q a w := h ▸ h2
theorem wpList_unguard {P : Program} {ops : Array Oper} {rest : List Oper} {o : Oper} {a : Act} {w : World} {Q : Exit → Act → World → Prop} (hw : Region.wanted o (yielded ops a.tmps) = true)
    (h : wpList P ops Q ({ o with guard := none } :: rest) a w) : wpList P ops Q (o :: rest) a w := by
  unfold wpList at h ⊢
  rw [if_pos hw]
  have hw' : Region.wanted { o with guard := none } (yielded ops a.tmps) = true := rfl
  rw [if_pos hw'] at h
  exact h
theorem loadId_box {t f e : TypeId} (T : PairTy t e f) {w : World} {B : Nat} {x : Id20} {te : TypeId} {fr : Nat × Nat} (h : w.heap[B]? = some (.cells (idA x) te fr)) :
    (Instr.loadAt f (.pointer (some ⟨B, 0, none⟩))).run Try.prog w = .ok (.agg (idA x)) w := by
  simp only [Instr.loadAt, Instr.sureAddr, Sem.run_bind, Sem.run_pure, Result.andThen_ok]
  exact run_loadVar_row _ _ te f _ fr _ h T.hf.hu rfl (by rw [show (idA x).size = 20 by simp [idA, idc_len]]; exact T.fi)
def inL (l : List Pr) (q : Pr) : Bool := l.any fun y => decide (y = q)
def clL (l : List Pr) (q : Pr) : Bool := l.any (clashes q)
/-- The marks behind one more pair. -/
def nextL (l : List Pr) (q : Pr) : List Pr := if inL l q = true then l else if clL l q = true then l else l ++ [q]
def nowsL (l : List Pr) : List Pr := l.foldl nextL []

theorem nows_succ {l : List Pr} {i : Nat} (h : i < l.length) : nowsL (l.take (i + 1)) = nextL (nowsL (l.take i)) l[i]! := by
  rw [take_succ h]; unfold nowsL; rw [List.foldl_append]; rfl
theorem next_len (l : List Pr) (q : Pr) : (nextL l q).length ≤ l.length + 1 := by
  unfold nextL; split
  · omega
  · split
    · omega
    · simp
theorem nows_len_from : ∀ (l a : List Pr), (l.foldl nextL a).length ≤ a.length + l.length
  | [], a => by simp
  | q :: l, a => by
    have := nows_len_from l (nextL a q)
    have h2 := next_len a q
    simp only [List.foldl_cons, List.length_cons]; omega
theorem nows_len (l : List Pr) : (nowsL l).length ≤ l.length := by have := nows_len_from l []; simpa [nowsL] using this
theorem inL_eq (l : List Pr) (q : Pr) : (l.any fun y => decide (q = y)) = inL l q := by
  unfold inL; congr 1; funext y; rw [Bool.eq_iff_iff, decide_eq_true_eq, decide_eq_true_eq]; exact eq_comm
theorem any_succ (p : Pr → Bool) {l : List Pr} {k : Nat} (h : k < l.length) : (l.take (k + 1)).any p = ((l.take k).any p || p l[k]!) := by
  rw [take_succ h, List.any_append]; simp
theorem rt_next {l : List Pr} {q : Pr} (h : Rt l) : Rt (nextL l q) := by
  unfold nextL
  split
  · exact h
  · split
    · exact h
    · rename_i hc
      intro i k hk hi
      simp only [List.length_append, List.length_singleton] at hi
      have hkl : k < l.length := by omega
      have ek : (l ++ [q])[k]! = l[k]! := by rw [getElem!_pos _ k (by simp; omega), getElem!_pos _ k hkl, List.getElem_append_left hkl]
      rw [ek]
      rcases Nat.lt_or_ge i l.length with hil | hil
      · have ei : (l ++ [q])[i]! = l[i]! := by rw [getElem!_pos _ i (by simp; omega), getElem!_pos _ i hil, List.getElem_append_left hil]
        rw [ei]; exact h i k hk hil
      · obtain rfl : i = l.length := by omega
        have ei : (l ++ [q])[l.length]! = q := by rw [getElem!_pos _ _ (by simp)]; simp
        rw [ei]
        have hcl : ¬ clashes q l[k]! = true := fun hh => hc (List.any_eq_true.2 ⟨l[k]!, by rw [getElem!_pos l k hkl]; exact List.getElem_mem _, hh⟩)
        unfold clashes at hcl
        rw [Bool.or_eq_true, decide_eq_true_eq, decide_eq_true_eq] at hcl
        exact ⟨fun e => hcl (.inl e.symm), fun e => hcl (.inr e.symm)⟩
theorem rt_nows_from : ∀ (l a : List Pr), Rt a → Rt (l.foldl nextL a)
  | [], _, h => h
  | _ :: l, _, h => rt_nows_from l _ (rt_next h)
theorem rt_nows (l : List Pr) : Rt (nowsL l) := rt_nows_from l [] fun _ _ _ h => absurd h (Nat.not_lt_zero _)

theorem find_at {p : Pr → Bool} : ∀ {l : List Pr} {i : Nat}, i < l.length → p l[i]! = true → (∀ k, k < i → p l[k]! = false) → l.find? p = some l[i]!
  | [], i, h, _, _ => absurd h (Nat.not_lt_zero _)
  | y :: l, 0, _, h1, _ => by
    have : p y = true := h1
    rw [List.find?_cons_of_pos this]; rfl
  | y :: l, i + 1, h, h1, h2 => by
    have h0 : p y = false := h2 0 (Nat.succ_pos _)
    rw [List.find?_cons_of_neg (by rw [h0]; simp)]
    have hh : i < l.length := by simpa using h
    have := find_at (p := p) hh (by simpa using h1) fun k hk => by simpa using h2 (k + 1) (by omega)
    rw [this]; simp
theorem rt_find {l : List Pr} (h : Rt l) {i : Nat} (hi : i < l.length) :
    hgOf l l[i]!.1 = l[i]!.2 ∧ hasHg l l[i]!.1 = true ∧ gitOf l l[i]!.2 = l[i]!.1 ∧ hasGit l l[i]!.2 = true := by
  have f1 : l.find? (fun p => decide (p.1 = l[i]!.1)) = some l[i]! := find_at hi (decide_eq_true rfl) fun k hk => decide_eq_false fun e => (h i k hk hi).1 e.symm
  have f2 : l.find? (fun p => decide (p.2 = l[i]!.2)) = some l[i]! := find_at hi (decide_eq_true rfl) fun k hk => decide_eq_false fun e => (h i k hk hi).2 e.symm
  unfold hgOf hasHg gitOf hasGit found isFound
  rw [f1, f2]
  exact ⟨rfl, rfl, rfl, rfl⟩

theorem add_in {l : List Pr} {q : Pr} (h : inL l q = true) : addL l q = l ∧ addE l q = 0 ∧ nextL l q = l := by
  unfold addL addE nextL; rw [inL_eq, h]; simp
theorem add_clash {l : List Pr} {q : Pr} (h : inL l q = false) (h2 : clL l q = true) : addL l q = [] ∧ addE l q = 9 ∧ nextL l q = l := by
  unfold clL at h2
  unfold addL addE nextL clL; rw [inL_eq, h, h2]; simp
theorem add_new {l : List Pr} {q : Pr} (h : inL l q = false) (h2 : clL l q = false) : addL l q = l ++ [q] ∧ addE l q = 0 ∧ nextL l q = l ++ [q] := by
  unfold clL at h2
  unfold addL addE nextL clL; rw [inL_eq, h, h2]; simp

/-- A part of pairs that are read: 's[i:i+1]'. -/
theorem PsAt.mid {w : World} {a : Option Addr} {cap : Nat} {l : List Pr} (h : PsAt w a cap l) {t e f : TypeId} (T : PairTy t e f) {i : Nat} (hi : i < l.length) :
    ∃ b, (∀ W : World, (Instr.slice t (.slice a l.length cap) (some (.int .i64 (i : Int))) (some (.int .i64 ((i : Int) + 1))) none).run Try.prog W = .ok (.slice (some b) 1 (cap - i)) W) ∧ PsAt w (some b) (cap - i) [l[i]!] := by
  rcases h.cells with rfl | ⟨b, o, rfl, hc⟩
  · simp at hi
  · have hle := h.le
    have hbig := h.big
    have he : Try.prog.elem t = e := by simp [Program.elem, T.ht]
    refine ⟨⟨b, o + i * 40, none⟩, fun W => ?_, ⟨by simp; omega, by omega, (fun h => nomatch h), .inr ⟨b, o + i * 40, rfl, fun j hj => ?_⟩⟩⟩
    · rw [run_slice_lh W t _ _ _ (by rw [he]; exact T.ht) .i64 .i64 (i : Int) ((i : Int) + 1) (by omega) (by omega) (by omega), he, T.se]
      have e1 : ((i : Int)).toNat = i := by omega
      have e2 : ((i : Int) + 1).toNat = i + 1 := by omega
      rw [e1, e2]
      simp [Result.andThen, sliced, Addr.add_mid]
      omega
    · obtain rfl : j = 0 := by simpa using hj
      have := hc i hi
      simpa using this
end Go.Proofs.Ytnlkanhakmkejaa
