/-
  tree.Print: the walk.
-/
import Derived.Test.YtbllpjphlanchaaRight10
import Derived.Test.YtbllpjphlanchaaBufStr
namespace Go.Proofs.Ytbllpjphlanchaa
open Go.RowKit Go.Mix Go.Maps Go.WideMaps

/-- An entry's part of a body. -/
def bodyE (x : Ent) : List UInt8 := digs x.mode ++ [32] ++ x.name ++ [0] ++ x.id.1
/-- Entries' body. -/
def bodyL (l : List Ent) : List UInt8 := l.flatMap bodyE
theorem digs_len (m : Int) : (digs m).length ≤ 6 := by
  unfold digs
  repeat' split
  all_goals decide
theorem bodyL_succ {l : List Ent} {i : Nat} (h : i < l.length) : bodyL (l.take (i + 1)) = bodyL (l.take i) ++ bodyE l[i]! := by
  unfold bodyL; rw [take_succE h, List.flatMap_append]; simp
theorem bodyL_len (k : Nat) : ∀ l : List Ent, (∀ p ∈ l, p.name.length ≤ k) → (bodyL l).length ≤ l.length * (k + 28)
  | [], _ => by simp [bodyL]
  | p :: l, h => by
    have ih := bodyL_len k l fun q hq => h q (by simp [hq])
    have h1 := h p (by simp)
    have h2 := digs_len p.mode
    have h3 := p.id.2
    unfold bodyL at ih ⊢
    rw [List.flatMap_cons, List.length_append, List.length_cons, Nat.succ_mul]
    have : (bodyE p).length = (digs p.mode).length + 1 + p.name.length + 1 + 20 := by simp [bodyE, h3]; omega
    omega

/-- A sum's bytes where it lies. -/
theorem bs_id {w : World} {b q : Nat} {x : Id20} (h : w.rangeAt b q (idc x)) : Bs w (some ⟨b, q, none⟩) x.1 :=
  .inr ⟨b, q, rfl, fun j hj => h j _ (by simp [idc, bcells, List.getElem?_eq_getElem hj])⟩

set_option maxRecDepth 100000 in
set_option maxHeartbeats 4000000 in
theorem print_any {w : World} {l : List Ent} {a : Option Addr} {cap : Nat} (hg : RsAt encE 22 w a cap l) (hlen : l.length ≤ 10000) (hnm : ∀ p ∈ l, p.name.length ≤ 10000) :
    Calls Try.prog 10 #[.slice a l.length cap] w fun e w' =>
      (¬ RightE l ∧ e = .returned (.tuple #[.slice none 0 0, .int .i64 4]) ∧ Below w.heap.size w w') ∨
      (RightE l ∧ ∃ v, e = .returned (.tuple #[v, .int .i64 0]) ∧ Buf w.heap.size w w' v (bodyL l)) := by
  have CR := right_any hg (by omega) (fun p hp => Nat.le_trans (hnm p hp) (by decide))
  obtain ⟨n, hn⟩ : ∃ n, n = l.length := ⟨_, rfl⟩
  have HN := Lib.hid (And.intro hn (And.intro hnm (bodyL_len 10000 l hnm)))
  have HG := Lib.hid hg
  have HL := Lib.hid hlen
  rw [← hn] at hlen CR ⊢
  clear hn hg hnm
  obtain ⟨Z, hZ⟩ : ∃ Z, Z = recA encE ent0 := ⟨_, rfl⟩
  have z : ∀ w, (zeroValue 40).run Try.prog w = .ok (.agg Z) w := fun w => by rw [hZ]; kernel_rfl
  have HZ := Lib.hid hZ
  clear hZ
  go_enter Try.func10, Try.ntmps10
  go_wp2_with fail
  refine CR.mono ?_
  rintro e w1 ⟨r, rfl, hr, hw1⟩
  clear CR
  have HR := Lib.hid (And.intro hr hw1)
  cases r
  · clear hr hw1
    go_wp2_with fail
    go_ret2
    exact .inl ⟨fun h => (by have := HR.out.1.2 h; cases this), rfl, HR.out.2⟩
  clear hr
  have hbuf : Buf w.heap.size w w1 (.slice none 0 0) [] := Buf.nil hw1 (Nat.le_refl _)
  have HB0 := Lib.hid hbuf
  clear hbuf hw1
  go_wp2_with fail
  go_loopw [4, 12] (fun s4 s12 wr => ∃ i : Nat, s12 = .int .i64 (i : Int) ∧ i ≤ n ∧ Buf w.heap.size w wr s4 (bodyL (l.take i))) (fun _ s12 _ => n - (intOf s12).toNat)
  case atStart => exact ⟨0, rfl, Nat.zero_le _, HB0.out⟩
  case round =>
    obtain ⟨i, rfl, hi, hrow⟩ := hrel
    have HROW := Lib.hid hrow
    by_cases hin : i < n
    · have t1 : decide ((i : Int) < (n : Int)) = true := decide_eq_true (by omega)
      have t1' : decide (i < n) = true := decide_eq_true (by omega)
      have hil : i < l.length := by rw [← HN.out.1]; exact hin
      obtain ⟨b, q, IX, -, L⟩ := (HG.out.below hrow.2.1).at tyE (i : Int) i rfl hil
      rw [← HN.out.1] at IX
      have L' := L _ (Below.refl _ _)
      have hpn : l[i]!.name.length ≤ 10000 := HN.out.2.1 _ (by rw [getElem!_pos l i hil]; exact List.getElem_mem hil)
      have hsucc := bodyL_succ hil
      have hbl : (bodyL (l.take i)).length ≤ 300000000 := by
        have h1 := bodyL_len 10000 (l.take i) fun p hp => HN.out.2.1 p (List.mem_of_mem_take hp)
        have h2 : (l.take i).length ≤ 10000 := by rw [List.length_take]; have := HL.out; omega
        have := Nat.mul_le_mul_right (10000 + 28) h2
        omega
      obtain ⟨p, hp⟩ : ∃ p, p = l[i]! := ⟨_, rfl⟩
      rw [← hp] at L' hpn hsucc
      have HPN := Lib.hid (And.intro hpn (And.intro hsucc hbl))
      have hzb : (wr.alloc (.cells Z 40)).heap[wr.heap.size]? = some (.cells Z 40 (0, 0)) := heap_alloc_last _ _ _ rfl
      have zs : Z.size = (recA encE p).size := by rw [HZ.out]; simp [recA, encE_len]
      have zi : (Try.prog.info? 40).map (·.size) = some (recA encE p).size := by rw [show (recA encE p).size = 22 by simp [recA, encE_len]]; exact tyE.ie
      have z1 : (recA encE p).all (·.oneCell') = true := all_oneCell_toArray (encE_one _)
      have gA : Below wr.heap.size wr ((wr.alloc (.cells Z 40)).setRow wr.heap.size (recA encE p)) := below_setRow ((Below.refl _ _).alloc (Nat.le_refl _) _) (Nat.le_refl _) _
      have hbox : ((wr.alloc (.cells Z 40)).setRow wr.heap.size (recA encE p)).heap[wr.heap.size]? = some (.cells (recA encE p) 40 (0, 0)) := setRow_heap _ _ _ _ _ _ hzb
      have HA := Lib.hid (And.intro gA hbox)
      clear L hp hil gA hbox hpn hsucc hrow hbl
      go_upto_region 7 with (first | (refine wpList_load_at rfl _ _ rfl _ _ rfl L' ?_) | (refine wpList_store_row rfl 40 _ _ rfl wr.heap.size (recA encE p) rfl rfl 40 Z hzb zi zs z1 ?_))
      have hbox := HA.out.2
      have hrow5 := HROW.out.later HA.out.1
      obtain ⟨B, hB⟩ : ∃ B, B = wr.heap.size := ⟨_, rfl⟩
      clear HA L' IX zs zi z1 hzb
      generalize (wr.alloc (.cells Z 40)).setRow wr.heap.size (recA encE p) = w5 at *
      have HOB : Hid (∀ k, u4.ownBlock = some k → k < B) := Lib.hid fun k hk => by rw [hB]; exact (HROW.out.1.lt k hk).2
      rw [← hB] at hbox ⊢
      clear hB
      obtain ⟨f0, f1, f2⟩ := ent_fields (recBox hbox)
      rw [Nat.zero_add] at f1 f2
      have L0 : ∀ y : Later w5, (Instr.loadAt 3 (.pointer (some ⟨B, 0, none⟩))).run Try.prog y.1 = .ok (.int .i64 p.mode) y.1 := fun y => by
        have c := load_later f0 y
        go_simp
      have L1 : ∀ y : Later w5, (Instr.loadAt 9 (.pointer (some ⟨B, 1, none⟩))).run Try.prog y.1 = .ok (.string (strOf p.name)) y.1 := fun y => by
        have c := load_later f1 y
        go_simp
      have CD := fun W => digits_any p.mode W
      have hd6 := digs_len p.mode
      have A1 : ∀ W, (Op.stringOp .add (strOf (digs p.mode)) ⟨#[32]⟩).run Try.prog W = .ok (.string (strOf (digs p.mode ++ [32]))) W := fun W => Go.run_string_add_lists (P := Try.prog) W (digs p.mode) [32] (by omega) (by decide)
      have A2 : ∀ W, (Op.stringOp .add (strOf (digs p.mode ++ [32])) (strOf p.name)).run Try.prog W = .ok (.string (strOf (digs p.mode ++ [32] ++ p.name))) W := fun W => Go.run_string_add_lists (P := Try.prog) W _ _ (by simp; omega) (by have := HPN.out.1; omega)
      have A3 : ∀ W, (Op.stringOp .add (strOf (digs p.mode ++ [32] ++ p.name)) ⟨#[0]⟩).run Try.prog W = .ok (.string (strOf (digs p.mode ++ [32] ++ p.name ++ [0]))) W := fun W => Go.run_string_add_lists (P := Try.prog) W _ [0] (by have := HPN.out.1; simp; omega) (by decide)
      have HT := Lib.hid (show strOf (digs p.mode ++ [32] ++ p.name ++ [0]) = strOf (digs p.mode ++ [32] ++ p.name ++ [0]) from rfl)
      have hTL : (digs p.mode ++ [32] ++ p.name ++ [0]).length ≤ 20000 := by have := HPN.out.1; simp; omega
      have hTE : bodyE p = (digs p.mode ++ [32] ++ p.name ++ [0]) ++ p.id.1 := rfl
      obtain ⟨T, hT⟩ : ∃ T, T = digs p.mode ++ [32] ++ p.name ++ [0] := ⟨_, rfl⟩
      rw [← hT] at A3 hTL hTE
      have HX := Lib.hid (And.intro hTL (And.intro hTE (And.intro hbox hrow5)))
      clear hT hTL hTE f0 f1 f2 hbox hrow5 hd6 HT
      generalize strOf (digs p.mode ++ [32] ++ p.name) = S2 at *
      generalize strOf (digs p.mode ++ [32]) = S1 at *
      generalize strOf (digs p.mode) = S0 at *
      generalize strOf p.name = S3 at *
      generalize p.mode = md at *
      refine wp_region_mg [(0, 0), (1, 0), (2, 0), (3, 0), (4, 0), (5, 0), (6, 0), (7, 0), (8, 0), (9, 2), (10, 0)] (by kernel_rfl) (by kernel_rfl) ?_
      refine mg_calm rfl (fun K hK => ?_); go_simp; (refine hK _ ?_; clear hK K)
      refine mg_calm rfl (fun K hK => ?_); go_simp; (refine hK _ ?_; clear hK K)
      refine mg_load rfl rfl _ _ rfl _ _ rfl L0 ?_
      refine mg_calm rfl (fun K hK => ?_)
      go_simp
      apply Exists.intro
      refine ⟨fun z => calls_calm (CD z.1), hK _ ?_⟩
      clear hK K
      iterate 2 (refine mg_calm rfl (fun K hK => ?_); go_simp; (refine hK _ ?_; clear hK K))
      refine mg_load rfl rfl _ _ rfl _ _ rfl L1 ?_
      iterate 2 (refine mg_calm rfl (fun K hK => ?_); go_simp; (refine hK _ ?_; clear hK K))
      clear L0 L1 CD A1 A2 A3
      refine mg_sync rfl rfl (fun w6 hw6 K hK => ?_)
      have hrow6 := HX.out.2.2.2.later hw6
      have hbox6 := blockR_below HX.out.2.2.1 hw6
      refine wpList_append_text rfl (.tmp 16) (.tmp 24) rfl _ _ rfl hrow6 T rfl (by have := HX.out.1; have := HPN.out.2.2; omega) ?_
      intro v7 w7 hb7 hg7
      have hbox7 : w7.heap[B]? = some (.cells (recA encE p) 40 (0, 0)) := by
        rw [hg7.block B (lt_of_block hbox6) ?_]
        · exact hbox6
        · intro hk
          exact absurd (HOB.out B hk.symm) (Nat.lt_irrefl _)
      have H7 := Lib.hid (And.intro hb7 hbox7)
      clear hb7 hbox7 hg7 hrow6 hbox6 hw6
      go_wp2_with fail
      refine mg_calm rfl (fun K hK => ?_); go_simp; (refine hK _ ?_; clear hK K)
      refine mg_nil fun w8 hw8 => ?_
      have hb8 := H7.out.1.later hw8
      obtain ⟨-, -, f2⟩ := ent_fields (recBox (blockR_below H7.out.2 hw8))
      rw [Nat.zero_add] at f2
      have BI := bs_id f2
      have HI := Lib.hid (And.intro BI hb8)
      clear hw8 f2 BI hb8
      go_wp2_with (first | (refine wpList_append_buf rfl (.tmp 26) (.tmp 28) rfl _ _ rfl HI.out.2 (some ⟨B, 2, none⟩) 20 p.id.1 (by rw [p.id.2]; rfl) HI.out.1 (by simp) (by have := HX.out.1; have := HPN.out.2.2; have := p.id.2; simp; omega) ?_; intro v9 w9 hb9 hg9; have H9 := Lib.hid hb9; clear hb9 hg9))
      go_roundw
      case rel =>
        refine ⟨i + 1, by go_num, by omega, ?_⟩
        rw [HPN.out.2.1, HX.out.2.1, ← List.append_assoc]
        exact H9.out
      case measure => simp [intOf]; omega
    · obtain rfl : i = n := by omega
      have t1 : decide ((i : Int) < (i : Int)) = false := decide_eq_false (by omega)
      have t1' : decide (i < i) = false := decide_eq_false (by omega)
      go_wp2_with fail
      go_ret2
      refine .inr ⟨HR.out.1.1 trivial, _, rfl, ?_⟩
      have := HROW.out
      rw [HN.out.1, List.take_length] at this
      exact this
end Go.Proofs.Ytbllpjphlanchaa
