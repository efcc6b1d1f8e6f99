/-
  The document's Clash and Put: the walks.
  The law's acts as they lie; how an argument that is a slice of them is opened; an act in a box of one's own.
-/
import Derived.Test.YtponfkfeflnilaaGreatDoorMaDls
import Derived.Test.YtponfkfeflnilaaGreatDoorMaKnown
import Derived.Test.YtponfkfeflnilaaGreatDoorMaDoc
namespace Go.Proofs.YtponfkfeflnilaaGreatDoor
open Go.RowKit Go.Mix Go.WideMaps Go.Maps

theorem under_eq (p q : Bytes) : underF p q = (decide (p.length < q.length) && (decide (q.take p.length = p) && decide (q[p.length]? = some 47))) := by
  rw [Bool.eq_iff_iff, Bool.and_eq_true, Bool.and_eq_true, decide_eq_true_eq, decide_eq_true_eq, decide_eq_true_eq]
  unfold underF
  rw [List.isPrefixOf_iff_prefix]
  constructor
  · rintro ⟨t, rfl⟩
    refine ⟨by rw [List.length_append, List.length_append]; simp; try omega, ?_, ?_⟩
    · rw [List.append_assoc]; exact List.take_left
    · rw [List.append_assoc, List.getElem?_append_right (Nat.le_refl _), Nat.sub_self]; rfl
  · rintro ⟨h1, h2, h3⟩
    refine ⟨q.drop (p.length + 1), ?_⟩
    have e := List.take_append_drop p.length q
    rw [h2, List.drop_eq_getElem_cons h1] at e
    rw [List.getElem?_eq_getElem h1] at h3
    injection h3 with h3
    rw [h3] at e
    rw [List.append_assoc]
    exact e
theorem clash_hit {L : Refs} {name : Bytes} {i : Nat} (hi : i < L.length) (h : (underF name L[i]!.name || underF L[i]!.name name) = true) : clashP L name = true := by
  unfold clashP
  rw [List.any_eq_true]
  exact ⟨L[i]!, by rw [getElem!_pos L i hi]; exact List.getElem_mem hi, h⟩
theorem clash_no {L : Refs} {name : Bytes} (h : ∀ i, i < L.length → (underF name L[i]!.name || underF L[i]!.name name) = false) : clashP L name = false := by
  unfold clashP
  rw [List.any_eq_false]
  intro r hr
  obtain ⟨i, hi, rfl⟩ := List.mem_iff_getElem.1 hr
  have := h i hi
  rw [getElem!_pos L i hi] at this
  rw [this]; decide

set_option maxRecDepth 100000 in
set_option maxHeartbeats 8000000 in
theorem clash_any {name : Bytes} {w : World} {a : Option Addr} {cap : Nat} {l : List RefP} (h : RsAt encP 21 w a cap l) (hl : l.length ≤ 1000000) (_hnl : name.length ≤ 1000000) (hln : ∀ r ∈ l, r.name.length ≤ 1000000) :
    Calls Tryz.prog 34 #[.slice a l.length cap, .string (strOf name)] w fun e w' => e = .returned (.bool (clashP l name)) ∧ w' = w := by
  obtain ⟨n, hn⟩ : ∃ n, n = l.length := ⟨_, rfl⟩
  have HH := Lib.hid (And.intro h (And.intro hn hln))
  obtain ⟨cl, hcl⟩ : ∃ c, c = name.length := ⟨_, rfl⟩
  have hcs : (strOf name).size = cl := by rw [strOf_size, hcl]
  have HCL := Lib.hid hcl
  rw [← hn] at hl ⊢
  obtain ⟨R, hR⟩ : ∃ R, R = clashP l name := ⟨_, rfl⟩
  rw [← hR]
  have HR := Lib.hid hR
  have HSN := Lib.hid (fun (i : Nat) (hi : i ≤ name.length) (W : World) => str_to Tryz.underlying9 name (i := i) hi W)
  have HXN := Lib.hid (fun (i : Nat) (c : UInt8) (hc : name[i]? = some c) (W : World) => str_at Tryz.underlying9 name (i : Int) rfl hc W)
  obtain ⟨NM, hNM⟩ : ∃ N, N = strOf name := ⟨_, rfl⟩
  have HN := Lib.hid hNM
  rw [← hNM] at hcs HSN HXN ⊢
  clear h hn hln hcl hR hNM
  go_enter Tryz.func34, Tryz.ntmps34
  go_wp2_with fail
  go_loopw [5, 6] (fun s5 _ wr => ∃ i : Nat, s5 = .int .i64 (i : Int) ∧ i ≤ n ∧ (∀ k, k < i → (underF name l[k]!.name || underF l[k]!.name name) = false) ∧ wr = w) (fun s5 _ _ => n - (intOf s5).toNat)
  case atStart => exact ⟨0, rfl, Nat.zero_le _, fun k hk => absurd hk (Nat.not_lt_zero _), rfl⟩
  case round =>
    obtain ⟨i, rfl, hi, hno, rfl⟩ := hrel
    have HO := Lib.hid hno
    clear hno
    by_cases hin : i < n
    · have t1 : decide ((i : Int) < (n : Int)) = true := decide_eq_true (by omega)
      have t1' : decide (i < n) = true := decide_eq_true hin
      have hil : i < l.length := by rw [← HH.out.2.1]; exact hin
      obtain ⟨b, q, IX, R0, -⟩ := HH.out.1.at tyD (i : Int) i rfl hil
      rw [← HH.out.2.1] at IX
      have LN := load_name R0 ⟨wr, Below.refl _ _⟩
      change (Instr.loadAt 9 (.pointer (some ⟨b, q, none⟩))).run Tryz.prog wr = .ok (.string (strOf l[i]!.name)) wr at LN
      have hml := HH.out.2.2 l[i]! (by rw [getElem!_pos l i hil]; exact List.getElem_mem hil)
      obtain ⟨m, hm⟩ : ∃ m, m = l[i]!.name := ⟨_, rfl⟩
      have hstep : (underF name m || underF m name) = false → ∀ k, k < i + 1 → (underF name l[k]!.name || underF l[k]!.name name) = false := fun h k hk => by
        by_cases hki : k < i
        · exact HO.out k hki
        · obtain rfl : k = i := by omega
          rw [← hm]; exact h
      have hhit : (underF name m || underF m name) = true → R = true := fun h => by rw [HR.out]; exact clash_hit hil (by rw [← hm]; exact h)
      have HST := Lib.hid (And.intro hstep hhit)
      rw [← hm] at LN hml
      obtain ⟨pl, hpl⟩ : ∃ p, p = m.length := ⟨_, rfl⟩
      have hms : (strOf m).size = pl := by rw [strOf_size, hpl]
      rw [← hpl] at hml
      have HPL := Lib.hid hpl
      have U1 := Lib.hid (under_eq name m)
      have U2 := Lib.hid (under_eq m name)
      have HSM := Lib.hid (fun (i : Nat) (hi : i ≤ m.length) (W : World) => str_to Tryz.underlying9 m (i := i) hi W)
      have HXM := Lib.hid (fun (i : Nat) (c : UInt8) (hc : m[i]? = some c) (W : World) => str_at Tryz.underlying9 m (i : Int) rfl hc W)
      obtain ⟨MM, hMM⟩ : ∃ N, N = strOf m := ⟨_, rfl⟩
      have HMM := Lib.hid (show MM.toList = m by rw [hMM, strOf_list])
      rw [← hMM] at LN hms HSM HXM
      clear hstep hhit hm hpl hMM hil R0
      rcases Nat.lt_trichotomy cl pl with hlt | heq | hgt
      · have a1 : decide ((cl : Int) < (pl : Int)) = true := decide_eq_true (by omega)
        have a1' : decide (cl < pl) = true := decide_eq_true hlt
        have a2 : decide ((pl : Int) < (cl : Int)) = false := decide_eq_false (by omega)
        have a2' : decide (pl < cl) = false := decide_eq_false (by omega)
        have u2 : underF m name = false := by rw [U2.out, ← HPL.out, ← HCL.out, a2', Bool.false_and]
        have SL := HSM.out cl (by rw [← HPL.out]; omega)
        have EQ : ((strOf (m.take cl)).toList == NM.toList) = decide (m.take cl = name) := by rw [HN.out, strOf_list name]; exact strOf_eq _ _
        obtain ⟨D, hD⟩ : ∃ D, D = decide (m.take cl = name) := ⟨_, rfl⟩
        rw [← hD] at EQ
        have HD := Lib.hid (And.intro hD u2)
        generalize strOf (m.take cl) = TT at *
        clear hD u2 hlt
        cases D
        · have hund : (underF name m || underF m name) = false := by
            rw [HD.out.2, Bool.or_false, U1.out, ← HCL.out, ← HD.out.1, Bool.false_and, Bool.and_false]
          have HF := Lib.hid (HST.out.1 hund)
          clear hund
          go_wp2_with (first | (refine wpList_load_at rfl _ _ rfl _ _ rfl LN ?_) | (refine wpList_unguard rfl (wpList_slice_at rfl _ _ _ _ _ rfl _ _ _ _ _ rfl rfl rfl rfl (SL _) ?_)))
          go_roundw
          case rel => exact ⟨i + 1, by go_num, by omega, HF.out, by trivial⟩
          case measure => simp [intOf]; omega
        · obtain ⟨ch, hc⟩ : ∃ ch, m[cl]? = some ch := ⟨m[cl]'(by rw [← HPL.out]; have := of_decide_eq_true a1'; omega), List.getElem?_eq_getElem _⟩
          have SX := HXM.out cl ch hc
          have HC := Lib.hid hc
          by_cases h47 : ch = 47
          · subst h47
            have hund : (underF name m || underF m name) = true := by
              rw [U1.out, ← HCL.out, ← HPL.out, a1', ← HD.out.1, HC.out]; rfl
            have hRt := HST.out.2 hund
            subst hRt
            clear hund hc
            go_wp2_with (first | (refine wpList_load_at rfl _ _ rfl _ _ rfl LN ?_) | (refine wpList_unguard rfl (wpList_slice_at rfl _ _ _ _ _ rfl _ _ _ _ _ rfl rfl rfl rfl (SL _) ?_)) | (refine wpList_unguard rfl (wpList_index_at rfl _ _ _ rfl _ _ _ rfl rfl (SX _) ?_)))
            go_ret
            exact ⟨rfl, rfl⟩
          · have hund : (underF name m || underF m name) = false := by
              rw [HD.out.2, Bool.or_false, U1.out, ← HCL.out, HC.out, decide_eq_false (p := some ch = some 47) (fun e => h47 (by injection e)), Bool.and_false, Bool.and_false]
            have HF := Lib.hid (HST.out.1 hund)
            have tc : ((ch.toNat : Int) == 47) = false := by
              rw [beq_eq_false_iff_ne]; intro h; exact h47 (UInt8.toNat_inj.1 (by show ch.toNat = 47; omega))
            clear hund hc h47
            go_wp2_with (first | (refine wpList_load_at rfl _ _ rfl _ _ rfl LN ?_) | (refine wpList_unguard rfl (wpList_slice_at rfl _ _ _ _ _ rfl _ _ _ _ _ rfl rfl rfl rfl (SL _) ?_)) | (refine wpList_unguard rfl (wpList_index_at rfl _ _ _ rfl _ _ _ rfl rfl (SX _) ?_)))
            go_roundw
            case rel => exact ⟨i + 1, by go_num, by omega, HF.out, by trivial⟩
            case measure => simp [intOf]; omega
      · have a1 : decide ((cl : Int) < (pl : Int)) = false := decide_eq_false (by omega)
        have a1' : decide (cl < pl) = false := decide_eq_false (by omega)
        have a2 : decide ((pl : Int) < (cl : Int)) = false := decide_eq_false (by omega)
        have a2' : decide (pl < cl) = false := decide_eq_false (by omega)
        have hund : (underF name m || underF m name) = false := by
          rw [U1.out, U2.out, ← HPL.out, ← HCL.out, a1', a2']; rfl
        have HF := Lib.hid (HST.out.1 hund)
        clear hund heq
        go_wp2_with (first | (refine wpList_load_at rfl _ _ rfl _ _ rfl LN ?_))
        go_roundw
        case rel => exact ⟨i + 1, by go_num, by omega, HF.out, by trivial⟩
        case measure => simp [intOf]; omega
      · have a1 : decide ((cl : Int) < (pl : Int)) = false := decide_eq_false (by omega)
        have a1' : decide (cl < pl) = false := decide_eq_false (by omega)
        have a2 : decide ((pl : Int) < (cl : Int)) = true := decide_eq_true (by omega)
        have a2' : decide (pl < cl) = true := decide_eq_true hgt
        have u1 : underF name m = false := by rw [U1.out, ← HPL.out, ← HCL.out, a1', Bool.false_and]
        have SL := HSN.out pl (by rw [← HCL.out]; omega)
        have EQ : ((strOf (name.take pl)).toList == MM.toList) = decide (name.take pl = m) := by
          rw [HMM.out]; exact strOf_eq _ _
        obtain ⟨D, hD⟩ : ∃ D, D = decide (name.take pl = m) := ⟨_, rfl⟩
        rw [← hD] at EQ
        have HD := Lib.hid (And.intro hD u1)
        generalize strOf (name.take pl) = TT at *
        clear hD u1 hgt
        cases D
        · have hund : (underF name m || underF m name) = false := by
            rw [HD.out.2, Bool.false_or, U2.out, ← HPL.out, ← HD.out.1, Bool.false_and, Bool.and_false]
          have HF := Lib.hid (HST.out.1 hund)
          clear hund
          go_wp2_with (first | (refine wpList_load_at rfl _ _ rfl _ _ rfl LN ?_) | (refine wpList_unguard rfl (wpList_slice_at rfl _ _ _ _ _ rfl _ _ _ _ _ rfl rfl rfl rfl (SL _) ?_)))
          go_roundw
          case rel => exact ⟨i + 1, by go_num, by omega, HF.out, by trivial⟩
          case measure => simp [intOf]; omega
        · obtain ⟨ch, hc⟩ : ∃ ch, name[pl]? = some ch := ⟨name[pl]'(by rw [← HCL.out]; have := of_decide_eq_true a2'; omega), List.getElem?_eq_getElem _⟩
          have SX := HXN.out pl ch hc
          have HC := Lib.hid hc
          by_cases h47 : ch = 47
          · subst h47
            have hund : (underF name m || underF m name) = true := by
              rw [HD.out.2, Bool.false_or, U2.out, ← HCL.out, ← HPL.out, a2', ← HD.out.1, HC.out]; rfl
            have hRt := HST.out.2 hund
            subst hRt
            clear hund hc
            go_wp2_with (first | (refine wpList_load_at rfl _ _ rfl _ _ rfl LN ?_) | (refine wpList_unguard rfl (wpList_slice_at rfl _ _ _ _ _ rfl _ _ _ _ _ rfl rfl rfl rfl (SL _) ?_)) | (refine wpList_unguard rfl (wpList_index_at rfl _ _ _ rfl _ _ _ rfl rfl (SX _) ?_)))
            go_ret
            exact ⟨rfl, rfl⟩
          · have hund : (underF name m || underF m name) = false := by
              rw [HD.out.2, Bool.false_or, U2.out, ← HPL.out, HC.out, decide_eq_false (p := some ch = some 47) (fun e => h47 (by injection e)), Bool.and_false, Bool.and_false]
            have HF := Lib.hid (HST.out.1 hund)
            have tc : ((ch.toNat : Int) == 47) = false := by
              rw [beq_eq_false_iff_ne]; intro h; exact h47 (UInt8.toNat_inj.1 (by show ch.toNat = 47; omega))
            clear hund hc h47
            go_wp2_with (first | (refine wpList_load_at rfl _ _ rfl _ _ rfl LN ?_) | (refine wpList_unguard rfl (wpList_slice_at rfl _ _ _ _ _ rfl _ _ _ _ _ rfl rfl rfl rfl (SL _) ?_)) | (refine wpList_unguard rfl (wpList_index_at rfl _ _ _ rfl _ _ _ rfl rfl (SX _) ?_)))
            go_roundw
            case rel => exact ⟨i + 1, by go_num, by omega, HF.out, by trivial⟩
            case measure => simp [intOf]; omega
    · obtain rfl : i = n := by omega
      have t1 : decide ((i : Int) < (i : Int)) = false := decide_eq_false (by omega)
      have t1' : decide (i < i) = false := decide_eq_false (by omega)
      have hRf : R = false := by rw [HR.out]; exact clash_no fun k hk => HO.out k (by rw [HH.out.2.1]; exact hk)
      subst hRf
      go_wp2_with fail
      go_ret
      exact ⟨rfl, rfl⟩

set_option maxRecDepth 100000 in
set_option maxHeartbeats 2000000 in
theorem putW_any {w : World} {a : Option Addr} {cap : Nat} {l : List RefP} (r : RefP) (h : RsAt encP 21 w a cap l) (hl : l.length ≤ 100000) :
    Calls Tryz.prog 35 #[.slice a l.length cap, .agg (recA encP r)] w fun e w' => ∃ v, e = .returned v ∧ OwnR encP 21 62 w w' v (putD l r) := by
  have hbox : (w.alloc (.cells (recA encP r) 62)).heap[w.heap.size]? = some (.cells (recA encP r) 62 (0, 0)) := heap_alloc_last _ _ _ rfl
  have g1 : Below w.heap.size w (w.alloc (.cells (recA encP r) 62)) := (Below.refl _ _).alloc (Nat.le_refl _) _
  have L1 : (Instr.loadAt 62 (.pointer (some ⟨w.heap.size, 0, none⟩))).run Tryz.prog (w.alloc (.cells (recA encP r) 62)) = .ok (.agg (recA encP r)) (w.alloc (.cells (recA encP r) 62)) := tyD.load r _ 0 _ (recBoxP hbox)
  have C := refPut_any r (h.below g1) hl
  obtain ⟨n, hn⟩ : ∃ n, n = l.length := ⟨_, rfl⟩
  obtain ⟨RA, hRA⟩ : ∃ R, R = recA encP r := ⟨_, rfl⟩
  rw [← hRA] at L1 C g1 ⊢
  rw [← hn] at C ⊢
  have HG := Lib.hid g1
  clear hbox g1 hn hRA h
  go_enter Tryz.func35, Tryz.ntmps35
  go_wp2_with (refine wpList_load_at rfl _ _ rfl _ _ rfl L1 ?_)
  refine C.mono ?_
  clear C L1
  rintro e w2 ⟨v, rfl, ho⟩
  have H2 := Lib.hid (ho.rebase HG.out)
  clear ho
  go_wp2_with fail
  go_ret
  exact ⟨_, rfl, H2.out⟩
end Go.Proofs.YtponfkfeflnilaaGreatDoor
namespace Go.Proofs.YtponfkfeflnilaaGreatDoor
open Go.RowKit Go.ChangeShapes Go.WideShapes Go.Deep Go.WideMaps

/-- An act as it lies. -/
structure PA where
  kind : Int
  name : Bytes
  id : Id20
  num : Int
  ka : Option Addr
  kn : Nat
  kc : Nat
def pa0 : PA := ⟨0, [], id0, 0, none, 0, 0⟩
instance : Inhabited PA := ⟨pa0⟩
def encQ (x : PA) : List Value := [.int .i64 x.kind, .string (strOf x.name)] ++ (idc x.id ++ [.int .i64 x.num, .slice x.ka x.kn x.kc])
theorem encQ_len (x : PA) : (encQ x).length = 24 := by unfold encQ; rw [List.length_append, List.length_append, idc_len]; rfl
theorem encQ_one (x : PA) : ∀ u ∈ encQ x, u.oneCell' = true := fun u hu => by
  rcases List.mem_append.1 hu with h | h
  · simp at h; rcases h with rfl | rfl <;> rfl
  · rcases List.mem_append.1 h with h | h
    · exact bcells_one _ u h
    · simp at h; rcases h with rfl | rfl <;> rfl
set_option maxRecDepth 100000 in
theorem tyQ : RecTy PA encQ 24 68 72 :=
  ⟨by decide, by decide, encQ_len, encQ_one, Tryz.underlying68, ⟨_, Tryz.underlying72⟩, fun w => by kernel_rfl, by kernel_rfl, ⟨(encQ pa0).toArray, 80, by kernel_rfl, by rw [List.size_toArray, encQ_len], by decide⟩⟩
structure PAIs (w : World) (x : PA) : Prop where
  kind : (Lit.int .i64 x.kind).wf = true
  num : (Lit.int .i64 x.num).wf = true
  name : x.name.length ≤ 9223372036854775807
  keep : ∃ K : List Int, x.kn = K.length ∧ RsAt encI 1 w x.ka x.kc K
theorem pa_cells {w : World} {b q : Nat} {x : PA} (h : w.rangeAt b q (encQ x)) :
    w.cell? ⟨b, q, none⟩ = some (.int .i64 x.kind) ∧ w.cell? ⟨b, q + 1, none⟩ = some (.string (strOf x.name)) ∧ w.rangeAt b (q + 2) (idc x.id) ∧ w.cell? ⟨b, q + 22, none⟩ = some (.int .i64 x.num) ∧ w.cell? ⟨b, q + 23, none⟩ = some (.slice x.ka x.kn x.kc) := by
  obtain ⟨h1, h2⟩ := rangeR_append.1 h
  obtain ⟨h3, h4⟩ := rangeR_append.1 h2
  rw [idc_len] at h4
  exact ⟨h1 0 _ rfl, h1 1 _ rfl, h3, h4 0 _ rfl, h4 1 _ rfl⟩
theorem recBoxQ {w : World} {X : Nat} {p : PA} {t : TypeId} {fr : Nat × Nat} (h : w.heap[X]? = some (.cells (recA encQ p) t fr)) : w.rangeAt X 0 (encQ p) := fun j v hv => by
  rw [cell_of_row _ _ _ _ _ _ h, Nat.zero_add]
  simpa [recA] using hv
theorem below_setCell {B : Nat} {w0 w : World} (h : Below B w0 w) {G k : Nat} (hG : B ≤ G) (v : Value) : Below B w0 (w.setCell ⟨G, k, none⟩ v) :=
  ⟨h.os, h.tape, h.output, by have := h.size; simpa [World.setCell] using this, fun j hj => (Below.heap_setCell _ _ _ _ (by show j ≠ G; omega)).trans (h.block j hj)⟩
theorem setName (x : PA) (s : Bytes) : (recA encQ x).setIfInBounds 1 (.string (strOf s)) = recA encQ { x with name := s } := by
  unfold recA encQ
  simp

section
variable {H : Type} {enc' : TypeId × Value → H} {w : World}
theorem trod_struct5 {t : TypeId} {f0 f1 f2 f3 f4 : Field} {fuel : Nat} {cs : List Value} {x : DataW H × List MemPlace} (ht : Tryz.prog.underlying t = some (.struct #[f0, f1, f2, f3, f4])) (h : DataW.trod enc' Tryz.prog w 0 (fun _ => true) true fuel t cs = some x) :
    ∃ y0 y1 y2 y3 y4 n, cs.length = Tryz.prog.cellsOf t ∧ DataW.trod enc' Tryz.prog w 0 (fun _ => true) true n f0.type ((cs.drop f0.offset).take (Tryz.prog.cellsOf f0.type)) = some y0 ∧
      DataW.trod enc' Tryz.prog w 0 (fun _ => true) true n f1.type ((cs.drop f1.offset).take (Tryz.prog.cellsOf f1.type)) = some y1 ∧ DataW.trod enc' Tryz.prog w 0 (fun _ => true) true n f2.type ((cs.drop f2.offset).take (Tryz.prog.cellsOf f2.type)) = some y2 ∧
      DataW.trod enc' Tryz.prog w 0 (fun _ => true) true n f3.type ((cs.drop f3.offset).take (Tryz.prog.cellsOf f3.type)) = some y3 ∧ DataW.trod enc' Tryz.prog w 0 (fun _ => true) true n f4.type ((cs.drop f4.offset).take (Tryz.prog.cellsOf f4.type)) = some y4 := by
  obtain ⟨xs, n, _, rfl, hl, hlen, hf⟩ := DataW.trod_struct ht h
  match xs, hlen with
  | [y0, y1, y2, y3, y4], _ => exact ⟨y0, y1, y2, y3, y4, n, hl, by simpa using hf 0 f0 rfl, by simpa using hf 1 f1 rfl, by simpa using hf 2 f2 rfl, by simpa using hf 3 f3 rfl, by simpa using hf 4 f4 rfl⟩
set_option maxRecDepth 100000 in
theorem open_pas {a : Option Addr} {len cap fuel : Nat} {x : DataW H × List MemPlace} (h : DataW.trod enc' Tryz.prog w 0 (fun _ => true) true fuel 68 (Value.slice a len cap).cells.toList = some x) :
    ∃ l : List PA, l.length = len ∧ RsAt encQ 24 w a cap l ∧ ∀ p ∈ l, PAIs w p := by
  rcases open_slice Tryz.underlying68 h with ⟨hcs, _⟩ | ⟨y, l, c, m, n, D, Pl, hcs, _, hl, hmx, hm, _, hi⟩
  · simp [Value.cells] at hcs
    obtain ⟨rfl, rfl, rfl⟩ := hcs
    exact ⟨[], rfl, RsAt.nil w, fun _ h => (by simp at h)⟩
  · simp [Value.cells] at hcs
    obtain ⟨rfl, rfl, rfl⟩ := hcs
    have hC : Tryz.prog.cellsOf 72 = 24 := by kernel_rfl
    have hC1 : Tryz.prog.cellsOf 9 = 1 := by kernel_rfl
    have hC2 : Tryz.prog.cellsOf 3 = 1 := by kernel_rfl
    have hC3 : Tryz.prog.cellsOf 42 = 20 := by kernel_rfl
    have hC4 : Tryz.prog.cellsOf 70 = 1 := by kernel_rfl
    have hml : len ≤ m := by rw [hm]; simp; exact hl
    have hbig : cap ≤ 9223372036854775807 := Nat.le_trans hmx (by decide)
    have key : ∀ i, ∃ p : PA, i < len → PAIs w p ∧ ∀ j v, (encQ p)[j]? = some v → w.cell? ((y.add (i * 24)).add j) = some v := by
      intro i
      by_cases hil : i < len
      · obtain ⟨cs', hc, ht⟩ := hi i (by omega)
        rw [hC] at hc
        obtain ⟨_, hcl, hat⟩ := World.cells?_some hc
        obtain ⟨y0, y1, y2, y3, y4, k, -, h0, h1, h2, h3, h4⟩ := trod_struct5 Tryz.underlying72 ht
        simp only [hC1, hC2, hC3, hC4] at h0 h1 h2 h3 h4
        obtain ⟨n0, e0, -, q0⟩ := DataW.trod_int Tryz.underlying3 h0
        obtain ⟨s1, e1, -, q1⟩ := DataW.trod_string Tryz.underlying9 h1
        obtain ⟨l2, hl2, e2⟩ := trod_bytes Tryz.underlying42 Tryz.underlying5 (by kernel_rfl) hC3 h2
        obtain ⟨n3, e3, -, q3⟩ := DataW.trod_int Tryz.underlying3 h3
        obtain ⟨a4, l4, c4, K4, e4, q4, s4⟩ := ints_rs h4
        have es : strOf s1.data.toList = s1 := by cases s1; simp [strOf]
        have ecs : cs' = encQ ⟨n0, s1.data.toList, ⟨l2, hl2⟩, n3, a4, l4, c4⟩ := by
          have s3 : cs' = (cs'.drop 0).take 1 ++ ((cs'.drop 1).take 1 ++ ((cs'.drop 2).take 20 ++ ((cs'.drop 22).take 1 ++ (cs'.drop 23).take 1))) := by
            rw [List.take_of_length_le (i := 1) (l := List.drop 23 cs') (by rw [List.length_drop]; omega)]
            rw [show List.drop 23 cs' = List.drop 1 (List.drop 22 cs') by rw [List.drop_drop], List.take_append_drop]
            rw [show List.drop 22 cs' = List.drop 20 (List.drop 2 cs') by rw [List.drop_drop], List.take_append_drop]
            rw [show List.drop 2 cs' = List.drop 1 (List.drop 1 cs') by rw [List.drop_drop], List.take_append_drop]
            rw [List.drop_zero, List.take_append_drop]
          rw [s3]
          have f0 : (List.drop 0 cs').take 1 = [.int .i64 n0] := e0
          have f1 : (List.drop 1 cs').take 1 = [.string s1] := e1
          have f2 : (List.drop 2 cs').take 20 = bcells l2 := e2
          have f3 : (List.drop 22 cs').take 1 = [.int .i64 n3] := e3
          have f4 : (List.drop 23 cs').take 1 = [.slice a4 l4 c4] := e4
          rw [f0, f1, f2, f3, f4]
          unfold encQ
          rw [es]
          rfl
        refine ⟨⟨n0, s1.data.toList, ⟨l2, hl2⟩, n3, a4, l4, c4⟩, fun _ => ⟨⟨q0, q3, str_lenR s1 q1, K4, q4, s4⟩, fun j v hj => ?_⟩⟩
        have hjl : j < 24 := by have := (List.getElem?_eq_some_iff.1 hj).1; rw [encQ_len] at this; exact this
        rw [hat j hjl, ecs]
        exact hj
      · exact ⟨default, fun h => absurd h hil⟩
    obtain ⟨F, hF⟩ := Classical.axiomOfChoice key
    have gl : ((List.range len).map F).length = len := by rw [List.length_map, List.length_range]
    refine ⟨(List.range len).map F, gl, ⟨by rw [gl]; exact hl, hbig, (fun h => nomatch h), ?_⟩, fun p hp => ?_⟩
    · by_cases h0 : len = 0
      · subst h0; exact .inl rfl
      · have hp := addr_plain ((hF 0 (by omega)).2 0 _ rfl)
        obtain ⟨yb, yo, ys⟩ := y
        have hys : ys = none := by
          obtain ⟨b, o, e⟩ := hp
          revert e
          simp only [Addr.add]
          cases ys <;> simp
        subst hys
        refine .inr ⟨yb, yo, rfl, fun j hj k v hk => ?_⟩
        rw [gl] at hj
        have e1 : ((List.range len).map F)[j]! = F j := by
          rw [getElem!_pos _ j (by rw [gl]; exact hj)]; simp
        rw [e1] at hk
        have := (hF j hj).2 k v hk
        rw [Addr.add_mid, Addr.add_mid] at this
        exact this
    · obtain ⟨i, hi, rfl⟩ := List.mem_map.1 hp
      exact (hF i (List.mem_range.1 hi)).1
end
end Go.Proofs.YtponfkfeflnilaaGreatDoor
