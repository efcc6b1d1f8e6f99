/-
  The document's stream: stop, bit, number, put.
  The document's stream: number, put.
  The document's many, Fixed, table.
  The document's next: a text of bits, more 1.
  The document's Codes.
  The document's good.
  The document's sign: by texts.
  The document's signs.
-/
import Derived.Test.YtaapnjhkflpiiaaInf8
import Derived.Test.YtaapnjhkflpiiaaInfCodes3
import Derived.Test.YtaapnjhkflpiiaaInfCodes2
import Derived.Lib.ConvBytes
namespace Go.Proofs.Ytaapnjhkflpiiaa
open Go.RowKit Go.Mix

theorem five_cells {w : World} {P : Nat} {x y z u v : Value} {t : TypeId} {fr : Nat × Nat} (h : w.heap[P]? = some (.cells #[x, y, z, u, v] t fr)) :
    w.cell? ⟨P, 0, none⟩ = some x ∧ w.cell? ⟨P, 1, none⟩ = some y ∧ w.cell? ⟨P, 2, none⟩ = some z ∧ w.cell? ⟨P, 3, none⟩ = some u ∧ w.cell? ⟨P, 4, none⟩ = some v := by
  simp [World.cell?, h]
theorem row_free {w : World} {P : Nat} {C : Array Value} {t : TypeId} (h : w.heap[P]? = some (.cells C t (0, 0))) (o : Nat) : w.frozen? ⟨P, o, none⟩ = false := by
  simp [World.frozen?, h]

/-- The document's stream: the bytes d are read up to bit p; out has come; bad: the error that was met. -/
structure RefAt (S : Nat → Prop) (w0 w : World) (P : Nat) (a : Option Addr) (cap : Nat) (d : List UInt8) (most : Int) (p : Nat) (out : List UInt8) (bad : Nat) (v : Value) : Prop where
  blk : w.heap[P]? = some (.cells #[.slice a d.length cap, .int .i64 (p : Int), v, .int .i64 most, .int .i64 (bad : Int)] 67 (0, 0))
  row : RowB S w0 w v out
  off : ¬ S P
  few : out.length ≤ 1000000
  le : p ≤ 8 * d.length
  badLe : bad ≤ 100
def RefS (S : Nat → Prop) (w0 w : World) (P : Nat) (a : Option Addr) (cap : Nat) (d : List UInt8) (most : Int) (p : Nat) (out : List UInt8) (bad : Nat) : Prop := ∃ v, RefAt S w0 w P a cap d most p out bad v

def stopN (bad e : Nat) : Nat := if bad = 0 then e else bad
/-- A bit: what it is, where reading is, the error. -/
def bitN (d : List UInt8) (p bad : Nat) : Nat × Nat × Nat := if 8 * d.length ≤ p then (0, p, stopN bad 3) else if bad = 0 then (bitAt d p, p + 1, 0) else (0, p, bad)
def numN (d : List UInt8) (p bad : Nat) : Nat → Nat × Nat × Nat
  | 0 => (0, p, bad)
  | n + 1 => ((numN d p bad n).1 + 2 ^ n * (bitN d (numN d p bad n).2.1 (numN d p bad n).2.2).1, (bitN d (numN d p bad n).2.1 (numN d p bad n).2.2).2)
def putN (most : Int) (out : List UInt8) (bad : Nat) (c : UInt8) : List UInt8 × Nat := if bad = 0 then (if most ≤ (out.length : Int) then (out, 2) else (out ++ [c], 0)) else (out, bad)

section
variable {S : Nat → Prop} {w0 w w' : World} {P : Nat} {a : Option Addr} {cap : Nat} {d : List UInt8} {most : Int} {p : Nat} {out : List UInt8} {bad : Nat} {v : Value}

theorem RefAt.later (h : RefAt S w0 w P a cap d most p out bad v) (g : Below w.heap.size w w') : RefAt S w0 w' P a cap d most p out bad v := ⟨block_below h.blk g, h.row.later g, h.off, h.few, h.le, h.badLe⟩
theorem RefS.later (h : RefS S w0 w P a cap d most p out bad) (g : Below w.heap.size w w') : RefS S w0 w' P a cap d most p out bad := by
  obtain ⟨v, h⟩ := h; exact ⟨v, h.later g⟩
theorem RefS.frame (h : RefS S w0 w P a cap d most p out bad) : FrameS S w0 w := by
  obtain ⟨v, h⟩ := h; exact h.row.frame
theorem RefAt.setAt (h : RefAt S w0 w P a cap d most p out bad v) (q : Nat) (z : Int) (hz : z = (q : Int)) (hq : q ≤ 8 * d.length) : RefAt S w0 (w.setCell ⟨P, 1, none⟩ (.int .i64 z)) P a cap d most q out bad v := by
  subst hz
  refine ⟨?_, h.row.set_other (p := ⟨P, 1, none⟩) (h.row.other h.blk (by decide)) h.off _, h.off, h.few, hq, h.badLe⟩
  rw [heap_set h.blk]; rfl
theorem RefAt.setBad (h : RefAt S w0 w P a cap d most p out bad v) (q : Nat) (z : Int) (hz : z = (q : Int)) (hq : q ≤ 100) : RefAt S w0 (w.setCell ⟨P, 4, none⟩ (.int .i64 z)) P a cap d most p out q v := by
  subst hz
  refine ⟨?_, h.row.set_other (p := ⟨P, 4, none⟩) (h.row.other h.blk (by decide)) h.off _, h.off, h.few, h.le, hq⟩
  rw [heap_set h.blk]; rfl

theorem stop_any (h : RefS S w0 w P a cap d most p out bad) (e : Nat) (ei : Int) (hei : ei = (e : Int)) (he : e ≤ 100) :
    Calls Try.prog 44 #[.pointer (some ⟨P, 0, none⟩), .int .i64 ei] w fun en w' => en = .returned (.tuple #[]) ∧ RefS S w0 w' P a cap d most p out (stopN bad e) := by
  subst hei
  obtain ⟨v, h⟩ := h
  obtain ⟨-, -, -, -, c4⟩ := five_cells h.blk
  have f0 := row_free h.blk
  by_cases hb : bad = 0
  · have t1 : ((bad : Int) == 0) = true := by rw [beq_iff_eq]; omega
    have hS := Lib.hid (show RefAt S w0 (w.setCell ⟨P, 4, none⟩ (.int .i64 (e : Int))) P a cap d most p out (stopN bad e) v by unfold stopN; rw [if_pos hb]; exact h.setBad e _ rfl he)
    clear hb
    go_enter Try.func44, Try.ntmps44
    go_wp2_with fail
    go_end0
    exact ⟨rfl, v, hS.out⟩
  · have t1 : ((bad : Int) == 0) = false := by rw [beq_eq_false_iff_ne]; omega
    have hS := Lib.hid (show stopN bad e = bad by unfold stopN; rw [if_neg hb])
    clear hb
    go_enter Try.func44, Try.ntmps44
    go_wp2_with fail
    go_end0
    exact ⟨rfl, v, by rw [hS.out]; exact h⟩

theorem bitN_out (hp : 8 * d.length ≤ p) : bitN d p bad = (0, p, stopN bad 3) := by unfold bitN; rw [if_pos hp]
theorem bitN_dead (hp : p < 8 * d.length) (hb : bad ≠ 0) : bitN d p bad = (0, p, bad) := by unfold bitN; rw [if_neg (by omega), if_neg hb]
theorem bitN_live (hp : p < 8 * d.length) : bitN d p 0 = (bitAt d p, p + 1, 0) := by unfold bitN; rw [if_neg (by omega), if_pos rfl]
theorem stopN_ne (bad e : Nat) (he : e ≠ 0) : stopN bad e ≠ 0 := by unfold stopN; split <;> assumption

set_option maxRecDepth 100000 in
set_option maxHeartbeats 1000000 in
theorem refBit_any (hd : Fits S w0 a cap d most) (h : RefS S w0 w P a cap d most p out bad) :
    Calls Try.prog 42 #[.pointer (some ⟨P, 0, none⟩)] w fun e w' =>
      e = .returned (.int .i64 ((bitN d p bad).1 : Nat)) ∧ RefS S w0 w' P a cap d most (bitN d p bad).2.1 out (bitN d p bad).2.2 := by
  obtain ⟨v, h⟩ := h
  have hsm := hd.small
  have hpl := h.le
  obtain ⟨c0, c1, -, -, c4⟩ := five_cells h.blk
  have w8 := Lib.hid (show IntKind.i64.wrap (8 * (d.length : Int)) = 8 * (d.length : Int) from IntWalk.i64_in _ (by omega))
  by_cases hlt : p < 8 * d.length
  · have ht : decide (8 * (d.length : Int) ≤ (p : Int)) = false := decide_eq_false (by omega)
    by_cases hb : bad = 0
    · subst hb
      have w8' := w8.out
      rw [bitN_live hlt]
      have hk : p / 8 < d.length := by omega
      have hbit : bitAt d p = d[p / 8].toNat / 2 ^ (p % 8) % 2 := by
        unfold bitAt
        rw [List.getD_eq_getElem?_getD, List.getElem?_eq_getElem hk]; rfl
      have HBIT := Lib.hid hbit
      clear hbit
      generalize bitAt d p = bb at *
      go_enter Try.func42, Try.ntmps42
      go_wp2_with fail
      go_quiet (fail)
      generalize nq = n1 at *
      clear w8'
      go_wp2_with fail
      obtain ⟨q, hq⟩ : ∃ q, q = p / 8 := ⟨_, rfl⟩
      have hqd : q < d.length := by omega
      obtain ⟨IK, IC⟩ := (hd.held.frame h.row.frame).sl.at (q : Int) q rfl hqd
      have v1 : IntKind.i64.wrap ((p : Int) / 8) = (q : Int) := by rw [hq]; exact IntWalk.i64_in _ (by omega)
      have h8 := d[q].toNat_lt
      have HBIT2 := Lib.hid (show bb = d[q].toNat / 2 ^ (p % 8) % 2 by rw [HBIT.out]; simp only [hq])
      clear HBIT hq
      generalize d[q] = x at *
      go_quiet (fail)
      have gx : Below w.heap.size w ((w.drewN n1).drewN nq) := below_drewN (below_drewN (Below.refl _ _) _) _
      have hx := h.later gx
      clear c0 c1 c4 IK IC v1
      generalize (w.drewN n1).drewN nq = wx at *
      obtain ⟨-, c1, -, -, -⟩ := five_cells hx.blk
      have f0 := row_free hx.blk
      go_wp2_with fail
      go_loopw [3, 4] (fun n i wr => ∃ j : Nat, i = .int .i64 (j : Int) ∧ j ≤ p % 8 ∧ n = .int .i64 ((x.toNat / 2 ^ j : Nat) : Int) ∧ wr = wx) (fun _ i _ => p % 8 - (intOf i).toNat)
      case atStart => exact ⟨0, rfl, by omega, by simp, rfl⟩
      case round =>
        obtain ⟨j, rfl, hj, rfl, rfl⟩ := hrel
        have hxj : x.toNat / 2 ^ j ≤ x.toNat := Nat.div_le_self _ _
        have hnext : x.toNat / 2 ^ (j + 1) = x.toNat / 2 ^ j / 2 := by rw [Nat.pow_succ, Nat.div_div_eq_div_mul]
        have HN := Lib.hid hnext
        have HB2 := Lib.hid (show j = p % 8 → bb = x.toNat / 2 ^ j % 2 from fun e => by rw [e]; exact HBIT2.out)
        clear hnext
        generalize x.toNat / 2 ^ j = y at *
        have hm8 : ((p % 8 : Nat) : Int) = (p : Int) % 8 := by omega
        by_cases hj8 : j < p % 8
        · have t1 : decide ((j : Int) < (p : Int) % 8) = true := decide_eq_true (by omega)
          clear hm8
          go_wp2_with fail
          go_roundw
          case rel => exact ⟨j + 1, by go_num, by omega, by rw [HN.out]; go_num, by first | rfl | trivial⟩
          case measure => simp [intOf]; omega
        · have t1 : decide ((j : Int) < (p : Int) % 8) = false := decide_eq_false (by omega)
          have hbb := HB2.out (by omega)
          have hS := Lib.hid (hx.setAt (p + 1) ((p : Int) + 1) (by omega) (by omega))
          have HBB := Lib.hid (show ((y : Int) % 2) = (bb : Int) by rw [hbb]; omega)
          clear hm8 hbb hj8
          go_wp2_with fail
          go_ret
          exact ⟨by rw [← HBB.out]; rfl, v, hS.out⟩
    · rw [bitN_dead hlt hb]
      have t1 : ((bad : Int) != 0) = true := by rw [bne_iff_ne]; omega
      have w8' := w8.out
      go_enter Try.func42, Try.ntmps42
      go_wp2_with fail
      go_quiet (fail)
      clear w8'
      go_wp2_with fail
      go_ret
      exact ⟨rfl, v, h.later (below_drewN (Below.refl _ _) _)⟩
  · rw [bitN_out (by omega)]
    have hne := stopN_ne bad 3 (by decide)
    obtain ⟨bd, hbd⟩ : ∃ bd, bd = stopN bad 3 := ⟨_, rfl⟩
    rw [← hbd] at hne ⊢
    have HBD := Lib.hid hbd
    clear hbd
    have ht : decide (8 * (d.length : Int) ≤ (p : Int)) = true := decide_eq_true (by omega)
    have w8' := w8.out
    go_enter Try.func42, Try.ntmps42
    go_wp2_with fail
    go_quiet (fail)
    clear w8'
    have h2 : RefS S w0 (w.drewN nq) P a cap d most p out bad := ⟨v, h.later (below_drewN (Below.refl _ _) _)⟩
    clear c0 c1 c4
    generalize w.drewN nq = wx at *
    go_wp2_with fail
    refine (stop_any h2 3 3 rfl (by decide)).mono ?_
    rintro e w2 ⟨rfl, v2, h3⟩
    rw [← HBD.out] at h3
    obtain ⟨-, -, -, -, c4⟩ := five_cells h3.blk
    have t1 : ((bd : Int) != 0) = true := by rw [bne_iff_ne]; omega
    go_wp2_with fail
    go_ret
    exact ⟨rfl, v2, h3⟩

end
end Go.Proofs.Ytaapnjhkflpiiaa
namespace Go.Proofs.Ytaapnjhkflpiiaa
open Go.RowKit Go.Mix

section
variable {S : Nat → Prop} {w0 w w' : World} {P : Nat} {a : Option Addr} {cap : Nat} {d : List UInt8} {most : Int} {p : Nat} {out : List UInt8} {bad : Nat} {v : Value}

theorem bitN_lt (d : List UInt8) (p bad : Nat) : (bitN d p bad).1 < 2 := by
  unfold bitN
  split
  · exact Nat.zero_lt_two
  · split
    · exact bitAt_lt _ _
    · exact Nat.zero_lt_two
theorem numN_lt (d : List UInt8) (p bad : Nat) : ∀ n, (numN d p bad n).1 < 2 ^ n := by
  intro n
  induction n with
  | zero => exact Nat.one_pos
  | succ n ih =>
    rw [numN, Nat.pow_succ]
    have hb := bitN_lt d (numN d p bad n).2.1 (numN d p bad n).2.2
    have : 2 ^ n * (bitN d (numN d p bad n).2.1 (numN d p bad n).2.2).1 ≤ 2 ^ n * 1 := Nat.mul_le_mul_left _ (by omega)
    simp only
    omega

theorem pow16 (j : Nat) (h : j ≤ 16) : 2 ^ j ≤ 65536 := Nat.pow_le_pow_right (by decide) h

set_option maxRecDepth 100000 in
set_option maxHeartbeats 1000000 in
theorem refNumber_any (hd : Fits S w0 a cap d most) (h : RefS S w0 w P a cap d most p out bad) (n : Nat) (ni : Int) (hni : ni = (n : Int)) (hn : n ≤ 16) :
    Calls Try.prog 43 #[.pointer (some ⟨P, 0, none⟩), .int .i64 ni] w fun e w' =>
      e = .returned (.int .i64 ((numN d p bad n).1 : Nat)) ∧ RefS S w0 w' P a cap d most (numN d p bad n).2.1 out (numN d p bad n).2.2 := by
  subst hni
  obtain ⟨R, hR⟩ : ∃ R, R = numN d p bad n := ⟨_, rfl⟩
  rw [← hR]
  have HR := Lib.hid hR
  clear hR
  go_enter Try.func43, Try.ntmps43
  go_wp2_with fail
  go_loopw [5, 6, 7] (fun k one i wr => ∃ j : Nat, i = .int .i64 (j : Int) ∧ j ≤ n ∧ k = .int .i64 ((numN d p bad j).1 : Nat) ∧ one = .int .i64 ((2 ^ j : Nat) : Int) ∧ RefS S w0 wr P a cap d most (numN d p bad j).2.1 out (numN d p bad j).2.2) (fun _ _ i _ => n - (intOf i).toNat)
  case atStart => exact ⟨0, rfl, by omega, rfl, rfl, h⟩
  case round =>
    obtain ⟨j, rfl, hj, rfl, rfl, hI⟩ := hrel
    have hlt := numN_lt d p bad j
    have hpj := pow16 j (by omega)
    by_cases hjn : j < n
    · have t1 : decide ((j : Int) < (n : Int)) = true := decide_eq_true (by omega)
      have C := refBit_any hd hI
      have hb := bitN_lt d (numN d p bad j).2.1 (numN d p bad j).2.2
      have hnext : numN d p bad (j + 1) = ((numN d p bad j).1 + 2 ^ j * (bitN d (numN d p bad j).2.1 (numN d p bad j).2.2).1, (bitN d (numN d p bad j).2.1 (numN d p bad j).2.2).2) := rfl
      have hp2 : 2 ^ (j + 1) = 2 * 2 ^ j := by rw [Nat.pow_succ, Nat.mul_comm]
      generalize bitN d (numN d p bad j).2.1 (numN d p bad j).2.2 = B at *
      generalize (numN d p bad j) = K at *
      obtain ⟨k, q, bd⟩ := K
      obtain ⟨b, q2, bd2⟩ := B
      simp only at C hb hnext hlt
      obtain ⟨o, ho⟩ : ∃ o, o = 2 ^ j := ⟨_, rfl⟩
      rw [← ho] at hlt hpj hnext hp2
      rw [← ho]
      have hob : o * b ≤ o * 1 := Nat.mul_le_mul_left _ (by omega)
      obtain ⟨m, hm⟩ : ∃ m, m = o * b := ⟨_, rfl⟩
      have hmi : (o : Int) * (b : Int) = (m : Int) := by rw [hm]; simp
      rw [← hm] at hnext hob
      have HN := Lib.hid (And.intro hnext hp2)
      have HC := Lib.hid C
      clear hnext hp2 C hm ho hI
      go_wp2_with fail
      refine HC.out.mono ?_
      rintro e w1 ⟨rfl, hI1⟩
      have w1' : IntKind.i64.wrap ((o : Int) * (b : Int)) = (m : Int) := by rw [hmi]; exact IntWalk.i64_in _ (by omega)
      have w2' : wrap64 ((o : Int) * (b : Int)) = (m : Int) := by rw [hmi]; exact IntWalk.wrap64_in _ ⟨by omega, by omega⟩
      go_wp2_with fail
      go_roundw
      case rel => exact ⟨j + 1, by go_num, by omega, by rw [HN.out.1]; simp, by rw [HN.out.2]; simp, by rw [HN.out.1]; exact hI1⟩
      case measure => simp [intOf]; omega
    · obtain rfl : j = n := by omega
      have t1 : decide ((j : Int) < (j : Int)) = false := decide_eq_false (by omega)
      rw [← HR.out] at hI hlt
      rw [← HR.out]
      clear hpj
      go_wp2_with fail
      go_ret
      exact ⟨rfl, hI⟩

set_option maxRecDepth 100000 in
set_option maxHeartbeats 1000000 in
theorem refPut_any (hd : Fits S w0 a cap d most) (h : RefS S w0 w P a cap d most p out bad) (c : UInt8) (ci : Int) (hci : ci = (c.toNat : Int)) :
    Calls Try.prog 45 #[.pointer (some ⟨P, 0, none⟩), .int .u8 ci] w fun e w' =>
      e = .returned (.tuple #[]) ∧ RefS S w0 w' P a cap d most p (putN most out bad c).1 (putN most out bad c).2 := by
  subst hci
  obtain ⟨v, h⟩ := h
  have hl := h.few
  have hrm := hd.room
  have hsz := h.le
  obtain ⟨av, cv, rfl, -⟩ := h.row.sl
  obtain ⟨-, -, c2, c3, c4⟩ := five_cells h.blk
  by_cases hb : bad = 0
  · subst hb
    have t1 : ((0 : Int) == 0) = true := rfl
    by_cases hm : most ≤ (out.length : Int)
    · have t2 : decide (most ≤ (out.length : Int)) = true := decide_eq_true hm
      have hP : putN most out 0 c = (out, 2) := by unfold putN; rw [if_pos rfl, if_pos hm]
      rw [hP]
      clear hP
      go_enter Try.func45, Try.ntmps45
      go_wp2_with fail
      go_quiet (fail)
      have h2 : RefS S w0 (w.drewN nq) P a cap d most p out 0 := ⟨_, h.later (below_drewN (Below.refl _ _) _)⟩
      clear c2 c3 c4
      generalize w.drewN nq = wx at *
      go_wp2_with fail
      refine (stop_any h2 2 2 rfl (by decide)).mono ?_
      rintro e w2 ⟨rfl, v2, h3⟩
      rw [show stopN 0 2 = 2 from rfl] at h3
      obtain ⟨-, -, -, -, c4⟩ := five_cells h3.blk
      go_wp2_with fail
      go_end0
      exact ⟨rfl, v2, h3⟩
    · have t2 : decide (most ≤ (out.length : Int)) = false := decide_eq_false hm
      have hP : putN most out 0 c = (out ++ [c], 0) := by unfold putN; rw [if_pos rfl, if_neg hm]
      rw [hP]
      clear hP
      go_enter Try.func45, Try.ntmps45
      go_wp2_with fail
      go_quiet (fail)
      have h2 := h.later (below_drewN (Below.refl _ _) nq)
      clear c2 c3 c4
      generalize w.drewN nq = wx at *
      obtain ⟨-, -, c2, -, c4⟩ := five_cells h2.blk
      go_wp2_with (at_builtin; refine wpList_append_n rfl (.tmp 32) (.tmp 34) rfl _ out rfl h2.row _ [c] rfl 1 1 rfl rfl (by simp; omega) ?_; intro v5 w5 hb5 hgr5; have hP5 := (hgr5.block P (lt_of_block h2.blk) (Ne.symm (h2.row.other h2.blk (by decide)))).trans h2.blk; obtain ⟨a5, k5, hv5, -, -, -, -⟩ := hb5.slice; obtain ⟨n5, hn5⟩ : ∃ n5, n5 = (bcells (out ++ [c])).length := ⟨_, rfl⟩; rw [← hn5] at hv5; subst hv5; clear hn5; obtain ⟨-, -, c25, -, -⟩ := five_cells hP5; have f5 := row_free hP5; have hP6 := heap_set hP5 2 (.slice a5 n5 k5); have hb6 := hb5.set_other (p := ⟨P, 2, none⟩) (hb5.other hP5 (by decide)) h2.off (.slice a5 n5 k5))
      go_end0
      exact ⟨rfl, _, hP6, hb6, h2.off, by rw [List.length_append]; simp; omega, hsz, by omega⟩
  · have t1 : ((bad : Int) == 0) = false := by rw [beq_eq_false_iff_ne]; omega
    have hP : putN most out bad c = (out, bad) := by unfold putN; rw [if_neg hb]
    rw [hP]
    clear hP
    go_enter Try.func45, Try.ntmps45
    go_wp2_with fail
    go_quiet (fail)
    have h2 := h.later (below_drewN (Below.refl _ _) nq)
    clear c2 c3 c4
    generalize w.drewN nq = wx at *
    obtain ⟨-, -, -, -, c4⟩ := five_cells h2.blk
    go_wp2_with fail
    go_end0
    exact ⟨rfl, _, h2⟩

end
end Go.Proofs.Ytaapnjhkflpiiaa
namespace Go.Proofs.Ytaapnjhkflpiiaa
open Go.RowKit Go.Mix

theorem icells_snoc (l : List Nat) (x : Nat) : icells (l ++ [x]) = icells l ++ [.int .i64 (x : Int)] := by simp [icells]
theorem icells_nil : icells [] = [] := rfl

set_option maxRecDepth 100000 in
theorem many_any {S : Nat → Prop} {w0 w : World} {v : Value} {l : List Nat} (h : Row S 3 w0 w v (icells l)) (hl : l.length ≤ 100000) (n times : Nat) (ni ti : Int) (hni : ni = (n : Int)) (hti : ti = (times : Int)) (ht : times ≤ 1000) :
    Calls Try.prog 48 #[v, .int .i64 ni, .int .i64 ti] w fun e w' => ∃ v', e = .returned v' ∧ Row S 3 w0 w' v' (icells (l ++ List.replicate times n)) := by
  subst hni hti
  go_enter Try.func48, Try.ntmps48
  go_wp2_with fail
  go_loopw [0, 7] (fun s i wr => ∃ k : Nat, i = .int .i64 (k : Int) ∧ k ≤ times ∧ Row S 3 w0 wr s (icells (l ++ List.replicate k n))) (fun _ i _ => times - (intOf i).toNat)
  case atStart => exact ⟨0, rfl, by omega, by simpa using h⟩
  case round =>
    clear h
    obtain ⟨k, rfl, hk, hrow⟩ := hrel
    have hlen : (icells (l ++ List.replicate k n)).length = l.length + k := by rw [icells_length]; simp
    by_cases hkt : k < times
    · have t1 : decide ((k : Int) < (times : Int)) = true := decide_eq_true (by omega)
      have hnext : icells (l ++ List.replicate (k + 1) n) = icells (l ++ List.replicate k n) ++ [.int .i64 (n : Int)] := by
        rw [List.replicate_succ', ← List.append_assoc, icells_snoc]
      have HN := Lib.hid hnext
      have HL := Lib.hid hlen
      clear hnext hlen
      go_wp2_with (at_builtin; refine wpList_append_fresh elemInt rfl (.tmp 13) (.tmp 15) rfl _ _ rfl hrow _ [.int .i64 (n : Int)] rfl 1 1 rfl rfl (by simp [Value.oneCell']) (by rw [HL.out]; simp only [List.length_singleton]; omega) (by rw [HL.out]; simp only [List.length_singleton]; omega) ?_; intro v5 w5 hrow5 hgr5)
      go_roundw
      case rel => exact ⟨k + 1, by go_num, by omega, by rw [HN.out]; exact hrow5⟩
      case measure => simp [intOf]; omega
    · obtain rfl : k = times := by omega
      have t1 : decide ((k : Int) < (k : Int)) = false := decide_eq_false (by omega)
      clear hlen
      go_wp2_with fail
      go_ret
      exact ⟨_, rfl, hrow⟩

/-- Numbers that can be read. -/
structure Nums (w : World) (a : Option Addr) (cap : Nat) (l : List Nat) : Prop where
  cells : Cells w a (icells l)
  le : l.length ≤ cap
  non : a = none → cap = 0
theorem Nums.below {w w' : World} {a : Option Addr} {cap : Nat} {l : List Nat} (h : Nums w a cap l) (g : Below w.heap.size w w') : Nums w' a cap l := ⟨h.cells.below g, h.le, h.non⟩
theorem Row.nums {S : Nat → Prop} {w0 w : World} {v : Value} {l : List Nat} (h : Row S 3 w0 w v (icells l)) : ∃ a cap, v = .slice a l.length cap ∧ Nums w a cap l := by
  obtain ⟨a, c, e, hc, h1, h2, h3⟩ := h.slice
  rw [icells_length] at e h1
  exact ⟨a, c, e, hc, h1, h3⟩

set_option maxRecDepth 100000 in
set_option maxHeartbeats 1000000 in
theorem refFixed_any (w : World) :
    Calls Try.prog 26 #[] w fun e w' => ∃ a1 c1 a2 c2, e = .returned (.tuple #[.slice a1 fixedL.length c1, .slice a2 fixedD.length c2]) ∧ Nums w' a1 c1 fixedL ∧ Nums w' a2 c2 fixedD ∧ Below w.heap.size w w' := by
  have hS : FrameS (· < w.heap.size) w w := FrameS.refl fun k hk => hk
  have hF := Lib.hid (show fixedL = List.replicate 144 8 ++ List.replicate 112 9 ++ List.replicate 24 7 ++ List.replicate 8 8 from rfl)
  have hD := Lib.hid (show fixedD = List.replicate 32 5 from rfl)
  generalize fixedL = FL at *
  generalize fixedD = FD at *
  go_enter Try.func26, Try.ntmps26
  go_wp2_with fail
  refine (many_any (l := []) (Row.nil hS) (Nat.zero_le _) 8 144 8 144 rfl rfl (by omega)).mono ?_
  rintro e w1 ⟨v1, rfl, h1⟩
  go_wp2_with fail
  refine (many_any h1 (by simp only [List.length_append, List.length_replicate, List.length_nil]; decide) 9 112 9 112 rfl rfl (by omega)).mono ?_
  rintro e w2 ⟨v2, rfl, h2⟩
  go_wp2_with fail
  refine (many_any h2 (by simp only [List.length_append, List.length_replicate, List.length_nil]; decide) 7 24 7 24 rfl rfl (by omega)).mono ?_
  rintro e w3 ⟨v3, rfl, h3⟩
  go_wp2_with fail
  refine (many_any h3 (by simp only [List.length_append, List.length_replicate, List.length_nil]; decide) 8 8 8 8 rfl rfl (by omega)).mono ?_
  rintro e w4 ⟨v4, rfl, h4⟩
  rw [List.nil_append, ← hF.out] at h4
  obtain ⟨a4, c4, rfl, hn4⟩ := h4.nums
  have g4 := h4.frame.toBelow (fun k hk => hk)
  have hS4 : FrameS (· < w4.heap.size) w4 w4 := FrameS.refl fun k hk => hk
  clear h1 h2 h3 h4
  go_wp2_with fail
  refine (many_any (l := []) (Row.nil hS4) (Nat.zero_le _) 5 32 5 32 rfl rfl (by omega)).mono ?_
  rintro e w5 ⟨v5, rfl, h5⟩
  rw [List.nil_append, ← hD.out] at h5
  obtain ⟨a5, c5, rfl, hn5⟩ := h5.nums
  have g5 := h5.frame.toBelow (fun k hk => hk)
  have hn45 := hn4.below g5
  have G5 := g4.trans (g5.mono g4.size)
  clear h5 hn4 g4 g5
  go_wp2_with fail
  go_ret2
  exact ⟨a4, c4, a5, c5, rfl, hn45, hn5, G5⟩

/-- Bases of signs, by how many further bits they have. -/
def tabIn (at_ one : Nat) : Nat → List Nat
  | 0 => []
  | k + 1 => tabIn at_ one k ++ [at_ + k * one]
def tabTo (first each : Nat) (more : List Nat) : Nat → List Nat × Nat
  | 0 => ([], first)
  | i + 1 => ((tabTo first each more i).1 ++ tabIn (tabTo first each more i).2 (2 ^ more.getD i 0) each, (tabTo first each more i).2 + each * 2 ^ more.getD i 0)
theorem tabIn_len (at_ one k : Nat) : (tabIn at_ one k).length = k := by
  induction k with
  | zero => rfl
  | succ k ih => rw [tabIn, List.length_append, ih]; rfl
theorem tabTo_len (first each : Nat) (more : List Nat) (i : Nat) : (tabTo first each more i).1.length = i * each := by
  induction i with
  | zero => simp [tabTo]
  | succ i ih => rw [tabTo, List.length_append, ih, tabIn_len, Nat.succ_mul]
theorem tabTo_at (first each : Nat) (more : List Nat) (hm : ∀ i, more.getD i 0 ≤ 13) (he : each ≤ 4) (i : Nat) : (tabTo first each more i).2 ≤ first + i * 32768 := by
  induction i with
  | zero => simp [tabTo]
  | succ i ih =>
    rw [tabTo]
    have h1 : 2 ^ more.getD i 0 ≤ 2 ^ 13 := Nat.pow_le_pow_right (by decide) (hm i)
    have h2 : each * 2 ^ more.getD i 0 ≤ 4 * 2 ^ 13 := Nat.mul_le_mul he h1
    simp only
    omega

set_option maxRecDepth 100000 in
set_option maxHeartbeats 1000000 in
theorem table_any {w : World} {a : Option Addr} {cap : Nat} {more : List Nat} (hm : Nums w a cap more) (hml : more.length ≤ 20) (hm13 : ∀ i, more.getD i 0 ≤ 13) (first each : Nat) (fi ei : Int) (hfi : fi = (first : Int)) (hei : ei = (each : Int)) (hf : first ≤ 100) (he : each ≤ 4) :
    Calls Try.prog 63 #[.int .i64 fi, .int .i64 ei, .slice a more.length cap] w fun e w' => ∃ a1 c1, e = .returned (.slice a1 (tabTo first each more more.length).1.length c1) ∧ Nums w' a1 c1 (tabTo first each more more.length).1 ∧ (∀ x, a1 = some x → w.heap.size ≤ x.block ∧ x.block < w'.heap.size) ∧ Below w.heap.size w w' := by
  subst hfi hei
  obtain ⟨TL, hTL⟩ : ∃ TL, TL = (tabTo first each more more.length).1 := ⟨_, rfl⟩
  rw [← hTL]
  have HTL := Lib.hid hTL
  clear hTL
  have hS : FrameS (· < w.heap.size) w w := FrameS.refl fun k hk => hk
  have htl := tabTo_len first each more
  have hta := tabTo_at first each more hm13 he
  go_enter Try.func63, Try.ntmps63
  go_wp2_with fail
  go_loopw [7, 8, 9] (fun s7 s8 s9 wr => ∃ i : Nat, s9 = .int .i64 (i : Int) ∧ i ≤ more.length ∧ s8 = .int .i64 ((tabTo first each more i).2 : Nat) ∧ Row (· < w.heap.size) 3 w wr s7 (icells (tabTo first each more i).1)) (fun _ _ s9 _ => more.length - (intOf s9).toNat)
  case atStart => exact ⟨0, rfl, by omega, rfl, Row.nil hS⟩
  case round =>
    obtain ⟨i, rfl, hi, rfl, hrow⟩ := hrel
    by_cases hil : i < more.length
    · have t1 : decide ((i : Int) < (more.length : Int)) = true := decide_eq_true (by omega)
      have t2 : decide (i < more.length) = true := decide_eq_true (by omega)
      have hl := htl i
      have ha := hta i
      have hnx : tabTo first each more (i + 1) = ((tabTo first each more i).1 ++ tabIn (tabTo first each more i).2 (2 ^ more.getD i 0) each, (tabTo first each more i).2 + each * 2 ^ more.getD i 0) := rfl
      have hp := Nat.pow_le_pow_right (show 0 < 2 by decide) (hm13 i)
      have hie : i * each ≤ 20 * 4 := Nat.mul_le_mul (by omega) he
      obtain ⟨IK, -⟩ := ints_at (hm.cells) cap (by omega) (i : Int) i rfl hil
      have HC := Lib.hid (fun (W : World) (g : Below w.heap.size w W) => (ints_at ((hm.below g).cells) cap (by omega) (i : Int) i rfl hil).2)
      have hmi := hm13 i
      generalize more.getD i 0 = mi at *
      generalize tabTo first each more i = T at *
      obtain ⟨tl, ta⟩ := T
      simp only at hl ha hnx hrow ⊢
      have HNX := Lib.hid hnx
      clear hnx
      go_wp2_with fail
      obtain ⟨wo, rfl⟩ : ∃ wo : World, wo = wr := ⟨_, rfl⟩
      go_loopw [7, 8, 10] (fun s7 s8 s10 wx => ∃ k : Nat, s10 = .int .i64 (k : Int) ∧ k ≤ each ∧ s8 = .int .i64 ((ta + k * 2 ^ mi : Nat) : Int) ∧ Row (· < w.heap.size) 3 w wx s7 (icells (tl ++ tabIn ta (2 ^ mi) k))) (fun _ _ s10 _ => each - (intOf s10).toNat)
      case atStart => exact ⟨0, rfl, by omega, by simp, by simpa [tabIn] using hrow⟩
      case round =>
        clear hrow
        obtain ⟨k, rfl, hk, rfl, hrow⟩ := hrel
        have hlk : (icells (tl ++ tabIn ta (2 ^ mi) k)).length = i * each + k := by rw [icells_length, List.length_append, tabIn_len, hl]
        have hkp : k * 2 ^ mi ≤ 4 * 2 ^ 13 := Nat.mul_le_mul (by omega) hp
        have hnk : icells (tl ++ tabIn ta (2 ^ mi) (k + 1)) = icells (tl ++ tabIn ta (2 ^ mi) k) ++ [.int .i64 ((ta + k * 2 ^ mi : Nat) : Int)] := by
          rw [tabIn, ← List.append_assoc, icells_snoc]
        have hsk : ta + (k + 1) * 2 ^ mi = ta + k * 2 ^ mi + 2 ^ mi := by rw [Nat.succ_mul, Nat.add_assoc]
        obtain ⟨aa, haa⟩ : ∃ aa, aa = ta + k * 2 ^ mi := ⟨_, rfl⟩
        rw [← haa] at hnk hsk
        rw [← haa]
        have haal : aa ≤ 1000000 := by omega
        have HAA := Lib.hid haa
        have HNK := Lib.hid (And.intro hnk hsk)
        have HLK := Lib.hid hlk
        have hik : i * each + k ≤ 100 := by omega
        clear hnk hsk haa hlk hkp
        by_cases hke : k < each
        · have v1 : decide ((k : Int) < (each : Int)) = true := decide_eq_true (by omega)
          have v2 : decide (k < each) = true := decide_eq_true (by omega)
          go_wp2_with (at_builtin; refine wpList_append_fresh elemInt rfl (.tmp 25) (.tmp 27) rfl _ _ rfl hrow _ [.int .i64 (aa : Int)] rfl 1 1 rfl rfl (by simp [Value.oneCell']) (by rw [HLK.out]; simp only [List.length_singleton]; omega) (by rw [HLK.out]; simp only [List.length_singleton]; omega) ?_; intro v5 w5 hrow5 hgr5)
          have g5 := hrow5.frame.toBelow (B := w.heap.size) (fun k hk => hk)
          have IC := HC.out _ g5
          go_loopw [11, 12] (fun s11 s12 wy => ∃ j : Nat, s12 = .int .i64 (j : Int) ∧ j ≤ mi ∧ s11 = .int .i64 ((2 ^ j : Nat) : Int) ∧ wy = w5) (fun _ s12 _ => mi - (intOf s12).toNat)
          case atStart => exact ⟨0, rfl, by omega, rfl, rfl⟩
          case round =>
            obtain ⟨j, rfl, hj, rfl, rfl⟩ := hrel
            have hpj := Nat.pow_le_pow_right (show 0 < 2 by decide) (show j ≤ 13 by omega)
            have hpn : 2 ^ (j + 1) = 2 * 2 ^ j := by rw [Nat.pow_succ, Nat.mul_comm]
            have HPN := Lib.hid hpn
            obtain ⟨o, ho⟩ : ∃ o, o = 2 ^ j := ⟨_, rfl⟩
            rw [← ho] at hpj hpn ⊢
            have HPO := Lib.hid (And.intro ho hpn)
            have ho4 : o ≤ 8192 := hpj
            clear hpn ho
            by_cases hjm : j < mi
            · have x1 : decide ((j : Int) < (mi : Int)) = true := decide_eq_true (by omega)
              have x2 : decide (j < mi) = true := decide_eq_true (by omega)
              go_wp2_with fail
              go_roundw
              case rel => exact ⟨j + 1, by go_num, by omega, by rw [HPO.out.2]; go_num, by first | rfl | trivial⟩
              case measure => simp [intOf]; omega
            · obtain rfl : j = mi := by omega
              have x1 : decide ((j : Int) < (j : Int)) = false := decide_eq_false (by omega)
              go_wp2_with fail
              go_roundw
              case rel => exact ⟨k + 1, by go_num, by omega, by rw [HNK.out.2, ← HPO.out.1]; go_num, by rw [HNK.out.1]; exact hrow5⟩
              case measure => simp [intOf]; omega
        · obtain rfl : k = each := by omega
          have v1 : decide ((k : Int) < (k : Int)) = false := decide_eq_false (by omega)
          go_wp2_with fail
          go_roundw
          case rel => exact ⟨i + 1, by go_num, by omega, by rw [HNX.out, HAA.out], by rw [HNX.out]; exact hrow⟩
          case measure => simp [intOf]; omega
    · obtain rfl : i = more.length := by omega
      have t1 : decide ((more.length : Int) < (more.length : Int)) = false := decide_eq_false (by omega)
      have t2 : decide (more.length < more.length) = false := decide_eq_false (by omega)
      obtain ⟨a1, c1, rfl, hn1⟩ := hrow.nums
      have hx1 : ∀ x, a1 = some x → w.heap.size ≤ x.block ∧ x.block < wr.heap.size := by
        rintro x rfl
        exact ⟨Nat.le_of_not_lt (hrow.off x.block rfl), hrow.lt x.block rfl⟩
      have g1 := hrow.frame.toBelow (B := w.heap.size) (fun k hk => hk)
      clear hrow htl hta
      rw [← HTL.out] at hn1 ⊢
      go_wp2_with fail
      go_ret
      exact ⟨a1, c1, rfl, hn1, hx1, g1⟩

end Go.Proofs.Ytaapnjhkflpiiaa
namespace Go.Proofs.Ytaapnjhkflpiiaa
open Go.RowKit Go.Mix

theorem take_snoc_getD (l : List UInt8) (j : Nat) (h : j < l.length) : l.take (j + 1) = l.take j ++ [l.getD j 0] := by
  rw [List.take_succ_eq_append_getElem h, List.getD_eq_getElem?_getD, List.getElem?_eq_getElem h]; rfl

/-- What is left to do when the last ones have become noughts. -/
def nextAt (l : List UInt8) (k : Nat) : List UInt8 := match nextRev (l.take k).reverse with
  | none => l
  | some x => x.reverse ++ List.replicate (l.length - k) 48
theorem nextAt_start (l : List UInt8) : nextAt l l.length = nextS l := by
  unfold nextAt nextS
  rw [List.take_length]
  cases nextRev l.reverse with
  | none => rfl
  | some x => simp
theorem nextAt_end (l : List UInt8) : nextAt l 0 = l := by unfold nextAt; rw [List.take_zero]; rfl
theorem nextAt_hit (l : List UInt8) (j : Nat) (hj : j < l.length) (h : l.getD j 0 = 48) : nextAt l (j + 1) = (l.take (j + 1) ++ List.replicate (l.length - (j + 1)) 48).set j 49 := by
  unfold nextAt
  rw [take_snoc_getD l j hj, List.reverse_append, h]
  show (match nextRev (48 :: (l.take j).reverse) with | none => l | some x => x.reverse ++ List.replicate (l.length - (j + 1)) 48) = _
  rw [nextRev, if_pos rfl]
  show (49 :: (l.take j).reverse).reverse ++ _ = _
  rw [List.reverse_cons, List.reverse_reverse, List.append_assoc, List.append_assoc, List.set_append_right _ _ (by rw [List.length_take]; omega)]
  have : j - (l.take j).length = 0 := by rw [List.length_take]; omega
  rw [this]; rfl
theorem nextAt_miss (l : List UInt8) (j : Nat) (hj : j < l.length) (h : l.getD j 0 ≠ 48) : nextAt l (j + 1) = nextAt l j ∧ (l.take (j + 1) ++ List.replicate (l.length - (j + 1)) 48).set j 48 = l.take j ++ List.replicate (l.length - j) 48 := by
  constructor
  · unfold nextAt
    rw [take_snoc_getD l j hj, List.reverse_append]
    show (match nextRev (l.getD j 0 :: (l.take j).reverse) with | none => l | some x => x.reverse ++ List.replicate (l.length - (j + 1)) 48) = _
    rw [nextRev, if_neg h]
    cases nextRev (l.take j).reverse with
    | none => rfl
    | some x =>
      show (48 :: x).reverse ++ _ = _
      rw [List.reverse_cons, List.append_assoc, show l.length - j = (l.length - (j + 1)) + 1 by omega, List.replicate_succ]; rfl
  · rw [take_snoc_getD l j hj, List.append_assoc, List.set_append_right _ _ (by rw [List.length_take]; omega)]
    have : j - (l.take j).length = 0 := by rw [List.length_take]; omega
    rw [this, show l.length - j = (l.length - (j + 1)) + 1 by omega, List.replicate_succ]; rfl

/-- The bytes of a text, in a block of their own. -/
structure Txt (w : World) (G : Nat) (cur : List UInt8) : Prop where
  blk : ∃ C fz, w.heap[G]? = some (.cells C 5 (fz, fz + 1)) ∧ cur.length ≤ fz ∧ C.size = fz ∧ C.toList.take cur.length = bcells cur
theorem Txt.bs {w : World} {G : Nat} {cur : List UInt8} (h : Txt w G cur) : Bs w (some ⟨G, 0, none⟩) cur := by
  obtain ⟨C, fz, h1, _, _, h2⟩ := h.blk
  exact .block h1 h2
theorem Txt.set {w : World} {G : Nat} {cur : List UInt8} (h : Txt w G cur) (j : Nat) (x : UInt8) (xi : Int) (hx : xi = (x.toNat : Int)) : Txt (w.setCell ⟨G, j, none⟩ (.int .u8 xi)) G (cur.set j x) := by
  subst hx
  obtain ⟨C, fz, h1, h2, h3, h4⟩ := h.blk
  refine ⟨C.setIfInBounds j (.int .u8 (x.toNat : Int)), fz, heap_set h1 j _, by rw [List.length_set]; exact h2, by rw [Array.size_setIfInBounds]; exact h3, ?_⟩
  rw [List.length_set, Array.toList_setIfInBounds, List.take_set, h4]
  simp [bcells, List.map_set]
theorem Txt.free {w : World} {G : Nat} {cur : List UInt8} (h : Txt w G cur) (j : Nat) (hj : j < cur.length) : w.frozen? ⟨G, j, none⟩ = false := by
  obtain ⟨C, fz, h1, h2, _, _⟩ := h.blk
  simp [World.frozen?, h1]
  omega
theorem Txt.at {w : World} {G : Nat} {cur : List UInt8} (h : Txt w G cur) (_hl : cur.length ≤ 1000) (cap j : Nat) (ji : Int) (hji : ji = (j : Int)) (hj : j < cur.length) :
    (∀ w : World, (Instr.indexAt 22 (.slice (some ⟨G, 0, none⟩) cur.length cap) (.int .i64 ji)).run Try.prog w = .ok (.pointer (some ⟨G, j, none⟩)) w) ∧ w.cell? ⟨G, j, none⟩ = some (.int .u8 ((cur.getD j 0).toNat : Int)) := by
  subst hji
  have e := elt_own G j
  refine ⟨fun w => ?_, ?_⟩
  · have := run_index_any (P := Try.prog) h.bs.cells 22 Try.underlying22 sizeOf_u8 cap (n := cur.length) hj (by rw [bcells_length]; omega) .i64 w
    rw [e] at this
    exact this
  · have := h.bs.cell hj
    rw [e] at this
    rw [this, List.getD_eq_getElem?_getD, List.getElem?_eq_getElem hj]; rfl

theorem txt_made (w : World) (l : List UInt8) (_hl : l.length ≤ 1000) :
    ∃ cap w', (convert 9 22 (.string ⟨l.toArray⟩)).run Try.prog w = .ok (.slice (some ⟨w.heap.size, 0, none⟩) l.length cap) w' ∧ Txt w' w.heap.size l ∧ Below w.heap.size w w' := by
  refine ⟨_, _, Lib.run_convert_string_bytes w 9 22 5 ⟨l.toArray⟩ Try.underlying9 Try.underlying22 Try.underlying5, ?_, ?_⟩
  · have hlen : (Lib.bytesCells w 5 ⟨l.toArray⟩).toList.take l.length = bcells l := by
      unfold Lib.bytesCells
      rw [Array.toList_append, List.take_append_of_le_length (by simp)]
      refine (List.take_of_length_le ?_).trans ?_
      · simp
      · simp [bcells]
    refine ⟨_, _, Lib.bytesWorld_at_new w 5 ⟨l.toArray⟩, ?_, rfl, hlen⟩
    unfold Lib.bytesCells
    simp
  · refine ⟨rfl, rfl, rfl, by rw [Lib.bytesWorld_size]; omega, fun k hk => Lib.bytesWorld_at_old w _ _ k hk⟩

set_option maxRecDepth 100000 in
set_option maxHeartbeats 1000000 in
theorem next_any (w : World) (l : List UInt8) (hl : l.length ≤ 1000) :
    Calls Try.prog 49 #[.string ⟨l.toArray⟩] w fun e w' => e = .returned (.string ⟨(nextS l).toArray⟩) ∧ Below w.heap.size w w' := by
  obtain ⟨cap, w1, hrun, hT, g1⟩ := txt_made w l hl
  have HS := Lib.hid (nextAt_start l)
  generalize nextS l = R at *
  obtain ⟨G, hG⟩ : ∃ G, w.heap.size = G := ⟨_, rfl⟩
  rw [hG] at hrun hT g1
  go_enter Try.func49, Try.ntmps49
  go_wp2_with fail
  clear hrun
  go_loopw [4] (fun s4 wr => ∃ k : Nat, s4 = .int .i64 ((k : Int) - 1) ∧ k ≤ l.length ∧ nextAt l k = R ∧ Txt wr G (l.take k ++ List.replicate (l.length - k) 48) ∧ Below G w wr) (fun s4 _ => (intOf s4 + 1).toNat)
  case atStart => exact ⟨l.length, rfl, Nat.le_refl _, HS.out, by simpa using hT, g1⟩
  case round =>
    clear hT g1
    obtain ⟨k, rfl, hk, hR, hT, g⟩ := hrel
    cases k with
    | zero =>
      have HR := Lib.hid (show R = l by rw [← hR, nextAt_end])
      have t1 : decide ((0 : Int) ≤ ((0 : Nat) : Int) - 1) = false := by decide
      clear hR hT
      go_wp2_with fail
      go_ret
      exact ⟨by rw [HR.out]; rfl, by rw [hG]; exact g⟩
    | succ j =>
      have t1 : decide ((0 : Int) ≤ ((j + 1 : Nat) : Int) - 1) = true := decide_eq_true (by omega)
      have t1' : decide ((0 : Int) ≤ (j : Int)) = true := decide_eq_true (by omega)
      have hj : j < l.length := by omega
      have hcl : (l.take (j + 1) ++ List.replicate (l.length - (j + 1)) 48).length = l.length := by rw [List.length_append, List.length_take, List.length_replicate]; omega
      have hcj : (l.take (j + 1) ++ List.replicate (l.length - (j + 1)) 48).getD j 0 = l.getD j 0 := by
        rw [take_snoc_getD l j hj, List.append_assoc, getD_app_right _ _ _ _ (by rw [List.length_take]; omega)]
        have : j - (l.take j).length = 0 := by rw [List.length_take]; omega
        rw [this]; rfl
      have hset := fun x xi hx => hT.set j x xi hx
      have hfz := hT.free j (by rw [hcl]; exact hj)
      obtain ⟨IK, IC⟩ := hT.at (by rw [hcl]; exact hl) cap j (((j + 1 : Nat) : Int) - 1) (by omega) (by rw [hcl]; exact hj)
      rw [hcl] at IK
      rw [hcj] at IC
      by_cases h48 : l.getD j 0 = 48
      · have hh := nextAt_hit l j hj h48
        have hT2 := hset 49 49 rfl
        rw [← hh] at hT2
        rw [hR] at hT2
        have hcz : (nextAt l (j + 1)).length = l.length := by rw [hh, List.length_set]; exact hcl
        rw [hR] at hcz
        have t2 : ((l.getD j 0).toNat : Int) = 48 := by rw [h48]; rfl
        rw [t2] at IC
        have hstr := run_string_of_bytes (P := Try.prog) hT2.bs 22 5 9 Try.underlying22 Try.underlying5 Try.underlying9 cap
        rw [hcz] at hstr
        have g2 := g.setCell (p := ⟨G, j, none⟩) (Nat.le_refl _) (.int .u8 49)
        have HG2 := Lib.hid g2
        clear hset hh hT hR hcl hcj hT2 hcz h48 t2 g g2
        go_wp2_with fail
        go_ret
        exact ⟨rfl, by rw [hG]; exact HG2.out⟩
      · have hm := nextAt_miss l j hj h48
        have hT2 := hset 48 48 rfl
        rw [hm.2] at hT2
        have HT2 := Lib.hid hT2
        have HR := Lib.hid (show nextAt l j = R by rw [← hm.1]; exact hR)
        have t2 : (((l.getD j 0).toNat : Int) == 48) = false := by
          rw [beq_eq_false_iff_ne]
          intro h
          exact h48 (UInt8.toNat_inj.1 (by have : (48 : UInt8).toNat = 48 := rfl; omega))
        have g2 := g.setCell (p := ⟨G, j, none⟩) (Nat.le_refl _) (.int .u8 48)
        have HG2 := Lib.hid g2
        have h8 := (l.getD j 0).toNat_lt
        clear hset hm hT hR hcl hcj hT2 h48 g g2
        generalize l.getD j 0 = x at *
        go_wp2_with fail
        go_roundw
        case rel => exact ⟨j, rfl, by omega, HR.out, HT2.out, HG2.out⟩
        case measure => simp [intOf]

end Go.Proofs.Ytaapnjhkflpiiaa
namespace Go.Proofs.Ytaapnjhkflpiiaa
open Go.RowKit Go.Mix

theorem app_str (l m : List UInt8) : (⟨l.toArray⟩ : ByteArray) ++ ⟨m.toArray⟩ = ⟨(l ++ m).toArray⟩ := by
  apply ByteArray.ext
  simp [ByteArray.data_append]

def scells (cs : List (List UInt8)) : List Value := cs.map fun t => .string ⟨t.toArray⟩
theorem scells_length (cs : List (List UInt8)) : (scells cs).length = cs.length := by simp [scells]
theorem scells_one (cs : List (List UInt8)) : ∀ u ∈ scells cs, u.oneCell' = true := by
  intro u hu
  simp [scells] at hu
  obtain ⟨y, _, rfl⟩ := hu
  rfl
theorem elemStr : Elem1 9 40 (.string ⟨#[]⟩) 16 := ⟨Try.underlying40, by kernel_rfl, rfl, fun w => by kernel_rfl⟩
theorem sizeOf_string (w : World) : (sizeOf 9).run Try.prog w = .ok 1 w := by kernel_rfl

theorem nextRev_len : ∀ (l x : List UInt8), nextRev l = some x → x.length = l.length
  | [], x, h => by cases h
  | c :: r, x, h => by
    rw [nextRev] at h
    split at h
    · injection h with h; subst h; rfl
    · split at h
      · cases h
      · rename_i y hy
        injection h with h
        subst h
        rw [List.length_cons, List.length_cons, nextRev_len r y hy]
theorem nextS_len (l : List UInt8) : (nextS l).length = l.length := by
  unfold nextS
  split
  · rfl
  · rename_i x hx
    rw [List.length_reverse, nextRev_len _ _ hx, List.length_reverse]

theorem padTo_len (n : Nat) (s : List UInt8) : (padTo n s).length = max n s.length := by unfold padTo; rw [List.length_append, List.length_replicate]; omega

set_option maxRecDepth 100000 in
set_option maxHeartbeats 2000000 in
theorem codes_any {w : World} {a : Option Addr} {cap : Nat} {ls : List Nat} (hm : Nums w a cap ls) (hl : ls.length ≤ 1000) :
    Calls Try.prog 27 #[.slice a ls.length cap] w fun e w' => ∃ g c1, e = .returned (.slice (some ⟨g, 0, none⟩) ls.length c1) ∧ w'.heap[g]? ≠ none ∧ w.heap.size ≤ g ∧ (ls.length ≤ c1) ∧ Cells w' (some ⟨g, 0, none⟩) (scells (genC ls)) ∧ Below w.heap.size w w' := by
  have hF : FrameS (· < w.heap.size) w w := FrameS.refl fun k hk => hk
  have hgl : (genC ls).length = ls.length := outerC_len ls 15
  have HGEN := Lib.hid (show genC ls = (outerC ls 15).2 from rfl)
  have HGL := Lib.hid hgl
  clear hgl
  generalize genC ls = GC at *
  go_enter Try.func27, Try.ntmps27
  go_upto_region 2 with (at_make; refine wpList_make_row (S := (· < w.heap.size)) (w0 := w) elemStr rfl rfl _ _ rfl .i64 .i64 _ _ ls.length rfl rfl rfl rfl (by omega) (by omega) hF ?_; intro w1 hrow1 hgr1)
  have hrow1' : Row (· < w.heap.size) 9 w w1 (.slice (some ⟨w.heap.size, 0, none⟩) ls.length ls.length) (scells (outerC ls 0).2) := by
    have : List.replicate ls.length (Value.string ⟨#[]⟩) = scells (outerC ls 0).2 := by simp [scells, outerC]
    rw [← this]; exact hrow1
  clear hrow1 hgr1
  generalize hG : w.heap.size = G at *
  go_wp2_with fail
  go_loopw [4, 5] (fun s4 s5 wr => ∃ n : Nat, s5 = .int .i64 ((n + 1 : Nat) : Int) ∧ n ≤ 15 ∧ s4 = .string ⟨(outerC ls n).1.toArray⟩ ∧ (outerC ls n).1.length ≤ n ∧ Row (· < G) 9 w wr (.slice (some ⟨G, 0, none⟩) ls.length ls.length) (scells (outerC ls n).2)) (fun _ s5 _ => 16 - (intOf s5).toNat)
  case atStart => exact ⟨0, rfl, by omega, rfl, Nat.le_refl _, hrow1'⟩
  case round =>
    clear hrow1'
    obtain ⟨n, rfl, hn, rfl, hol, hrow⟩ := hrel
    by_cases hn15 : n < 15
    · have t1 : decide (((n + 1 : Nat) : Int) < 16) = true := decide_eq_true (by omega)
      have t1' : decide ((n : Int) + 1 < 16) = true := decide_eq_true (by omega)
      have HNX := Lib.hid (show outerC ls (n + 1) = innerC ls (n + 1) ls.length (outerC ls n) from rfl)
      generalize outerC ls n = O at *
      go_wp2_with fail
      obtain ⟨wo, rfl⟩ : ∃ wo : World, wo = wr := ⟨_, rfl⟩
      go_loopw [4, 6] (fun s4 s6 wx => ∃ i : Nat, s6 = .int .i64 (i : Int) ∧ i ≤ ls.length ∧ s4 = .string ⟨(innerC ls (n + 1) i O).1.toArray⟩ ∧ (innerC ls (n + 1) i O).1.length ≤ n + 1 ∧ Row (· < G) 9 w wx (.slice (some ⟨G, 0, none⟩) ls.length ls.length) (scells (innerC ls (n + 1) i O).2)) (fun _ s6 _ => ls.length - (intOf s6).toNat)
      case atStart => exact ⟨0, rfl, by omega, rfl, by show O.1.length ≤ n + 1; omega, hrow⟩
      case round =>
        clear hrow
        obtain ⟨i, rfl, hi, rfl, hil, hrow⟩ := hrel
        by_cases hlt : i < ls.length
        · have v1 : decide ((i : Int) < (ls.length : Int)) = true := decide_eq_true (by omega)
          have v2 : decide (i < ls.length) = true := decide_eq_true hlt
          have HIN := Lib.hid (show innerC ls (n + 1) (i + 1) O = stepC ls (n + 1) i (innerC ls (n + 1) i O) from rfl)
          have HIL := Lib.hid (innerC_len ls (n + 1) O i)
          generalize innerC ls (n + 1) i O = I at *
          obtain ⟨il, io⟩ := I
          simp only at hil hrow ⊢
          obtain ⟨IK, IC⟩ := ints_at (hm.cells.below (hrow.frame.toBelow (B := w.heap.size) (fun k hk => by rw [hG] at hk; exact hk))) cap (by omega) (i : Int) i rfl hlt
          have HST := Lib.hid (show stepC ls (n + 1) i (il, io) = if ls.getD i 0 = n + 1 then (padTo (n + 1) (if il = [] then [] else nextS il), io.set i (padTo (n + 1) (if il = [] then [] else nextS il))) else (il, io) from rfl)
          generalize ls.getD i 0 = x at *
          by_cases hxn : x = n + 1
          · have v3 : ((x : Int) != ((n + 1 : Nat) : Int)) = false := by rw [bne_eq_false_iff_eq]; omega
            have v3' : ((x : Int) != (n : Int) + 1) = false := by rw [bne_eq_false_iff_eq]; omega
            have hst := HST.out
            rw [if_pos hxn] at hst
            clear HST
            obtain ⟨M, hM⟩ : ∃ M, M = (if il = [] then [] else nextS il) := ⟨_, rfl⟩
            rw [← hM] at hst
            have HST := Lib.hid hst
            have hMl : M.length ≤ n + 1 := by
              rw [hM]; split
              · exact Nat.zero_le _
              · rw [nextS_len]; exact hil
            clear hst
            by_cases hie : il = []
            · subst hie
              have hM0 : M = [] := by rw [hM]; simp
              rw [hM0] at HST hMl
              clear hM0
              clear hM
              go_wp2_with fail
              go_loop [4] (fun s4 => ∃ j : Nat, j ≤ n + 1 ∧ s4 = .string ⟨(List.replicate j (48 : UInt8)).toArray⟩) (fun s4 => match s4 with | .string s => n + 1 - s.data.size | _ => 0)
              case atStart => exact ⟨0, Nat.zero_le _, by simp⟩
              case round =>
                obtain ⟨j, hj, rfl⟩ := hrel
                obtain ⟨T, hT⟩ : ∃ T : List UInt8, T = List.replicate j 48 := ⟨_, rfl⟩
                rw [← hT]
                have hTl : T.length = j := by rw [hT]; simp
                have hTn : T ++ [48] = List.replicate (j + 1) 48 := by rw [hT, List.replicate_succ']
                have HTN := Lib.hid hTn
                clear hTn
                have hsz : T.toArray.size = T.length := rfl
                by_cases hjm : j < n + 1
                · have u1 : decide ((T.length : Int) < ((n + 1 : Nat) : Int)) = true := decide_eq_true (by omega)
                  have u1' : decide ((T.length : Int) < (n : Int) + 1) = true := decide_eq_true (by omega)
                  have u2 : ¬ (9223372036854775807 < T.length + 1) := by omega
                  have SA := fun W => Go.run_string_add_lists (P := Try.prog) W T [48] (by omega) (by decide)
                  clear hT
                  go_wp2_with fail
                  go_round
                  case rel => exact ⟨j + 1, by omega, by rw [HTN.out]⟩
                  case measure =>
                    show n + 1 - (T ++ [48]).length < n + 1 - T.length
                    rw [List.length_append]
                    show n + 1 - (T.length + 1) < n + 1 - T.length
                    omega
                · have HPAD := Lib.hid (show padTo (n + 1) [] = T by unfold padTo; rw [hT, show n + 1 - ([] : List UInt8).length = j by simp; omega]; rfl)
                  have u1 : decide ((T.length : Int) < ((n + 1 : Nat) : Int)) = false := decide_eq_false (by omega)
                  have u1' : decide ((T.length : Int) < (n : Int) + 1) = false := decide_eq_false (by omega)
                  have hTle : T.length ≤ n + 1 := by omega
                  obtain ⟨hR, -⟩ := hrow.stored i (.string ⟨T.toArray⟩)
                  have HR := Lib.hid hR
                  have hfz := hrow.free i
                  obtain ⟨vo, hvo⟩ : ∃ vo, World.cell? wr ⟨G, i, none⟩ = some vo := by
                    obtain ⟨a9, c9, e9, hc9, h9⟩ := hrow.slice
                    injection e9 with e9 e9' _
                    subst e9
                    have := hc9.2 i (by omega)
                    rw [elt_own] at this
                    exact ⟨_, this⟩
                  have IKS : ∀ W : World, (Instr.indexAt 40 (.slice (some ⟨G, 0, none⟩) ls.length ls.length) (.int .i64 (i : Int))).run Try.prog W = .ok (.pointer (some ⟨G, i, none⟩)) W := by
                    obtain ⟨a9, c9, e9, hc9, h9⟩ := hrow.slice
                    injection e9 with e9 e9' _
                    subst e9
                    intro W
                    have := run_index_any (P := Try.prog) hc9 40 Try.underlying40 sizeOf_string ls.length (n := ls.length) hlt (by omega) .i64 W
                    rw [elt_own] at this
                    exact this
                  clear hR hrow hT hTl
                  go_wp2_with fail
                  go_roundw
                  case rel => exact ⟨i + 1, by go_num, by omega, by rw [HIN.out, HST.out, HPAD.out], by rw [HIN.out, HST.out, HPAD.out]; exact hTle, by rw [HIN.out, HST.out, HPAD.out]; have := HR.out; simpa [scells, List.map_set] using this⟩
                  case measure => simp [intOf]; omega
            · rw [if_neg hie] at hM
              have hnx := next_any wr il (by omega)
              rw [← hM] at hnx
              have v4 : (!(il == [])) = true := by cases il with | nil => exact absurd rfl hie | cons c r => rfl
              have v5 : (il == []) = false := by cases il with | nil => exact absurd rfl hie | cons c r => rfl
              have v6 : il.isEmpty = false := by cases il with | nil => exact absurd rfl hie | cons c r => rfl
              clear hM
              go_wp2_with fail
              refine hnx.mono ?_
              rintro e wn ⟨rfl, gn⟩
              have hrow := hrow.later gn
              clear hnx IK IC gn
              go_wp2_with fail
              go_loop [4] (fun s4 => ∃ j : Nat, j ≤ n + 1 - M.length ∧ s4 = .string ⟨(M ++ List.replicate j 48).toArray⟩) (fun s4 => match s4 with | .string s => n + 1 - s.data.size | _ => 0)
              case atStart => exact ⟨0, Nat.zero_le _, by simp⟩
              case round =>
                obtain ⟨j, hj, rfl⟩ := hrel
                obtain ⟨T, hT⟩ : ∃ T : List UInt8, T = M ++ List.replicate j 48 := ⟨_, rfl⟩
                rw [← hT]
                have hTl : T.length = M.length + j := by rw [hT]; simp
                have hTn : T ++ [48] = M ++ List.replicate (j + 1) 48 := by rw [hT, List.replicate_succ', List.append_assoc]
                have HTN := Lib.hid hTn
                clear hTn
                have hsz : T.toArray.size = T.length := rfl
                by_cases hjm : M.length + j < n + 1
                · have u1 : decide ((T.length : Int) < ((n + 1 : Nat) : Int)) = true := decide_eq_true (by omega)
                  have u1' : decide ((T.length : Int) < (n : Int) + 1) = true := decide_eq_true (by omega)
                  have u2 : ¬ (9223372036854775807 < T.length + 1) := by omega
                  have SA := fun W => Go.run_string_add_lists (P := Try.prog) W T [48] (by omega) (by decide)
                  clear hT
                  go_wp2_with fail
                  go_round
                  case rel => exact ⟨j + 1, by omega, by rw [HTN.out]⟩
                  case measure =>
                    show n + 1 - (T ++ [48]).length < n + 1 - T.length
                    rw [List.length_append]
                    show n + 1 - (T.length + 1) < n + 1 - T.length
                    omega
                · have HPAD := Lib.hid (show padTo (n + 1) M = T by unfold padTo; rw [hT, show n + 1 - M.length = j by omega])
                  have u1 : decide ((T.length : Int) < ((n + 1 : Nat) : Int)) = false := decide_eq_false (by omega)
                  have u1' : decide ((T.length : Int) < (n : Int) + 1) = false := decide_eq_false (by omega)
                  have hTle : T.length ≤ n + 1 := by omega
                  obtain ⟨hR, -⟩ := hrow.stored i (.string ⟨T.toArray⟩)
                  have HR := Lib.hid hR
                  have hfz := hrow.free i
                  obtain ⟨vo, hvo⟩ : ∃ vo, World.cell? wn ⟨G, i, none⟩ = some vo := by
                    obtain ⟨a9, c9, e9, hc9, h9⟩ := hrow.slice
                    injection e9 with e9 e9' _
                    subst e9
                    have := hc9.2 i (by omega)
                    rw [elt_own] at this
                    exact ⟨_, this⟩
                  have IKS : ∀ W : World, (Instr.indexAt 40 (.slice (some ⟨G, 0, none⟩) ls.length ls.length) (.int .i64 (i : Int))).run Try.prog W = .ok (.pointer (some ⟨G, i, none⟩)) W := by
                    obtain ⟨a9, c9, e9, hc9, h9⟩ := hrow.slice
                    injection e9 with e9 e9' _
                    subst e9
                    intro W
                    have := run_index_any (P := Try.prog) hc9 40 Try.underlying40 sizeOf_string ls.length (n := ls.length) hlt (by omega) .i64 W
                    rw [elt_own] at this
                    exact this
                  clear hR hrow hT hTl
                  go_wp2_with fail
                  go_roundw
                  case rel => exact ⟨i + 1, by go_num, by omega, by rw [HIN.out, HST.out, HPAD.out], by rw [HIN.out, HST.out, HPAD.out]; exact hTle, by rw [HIN.out, HST.out, HPAD.out]; have := HR.out; simpa [scells, List.map_set] using this⟩
                  case measure => simp [intOf]; omega
          · have v3 : ((x : Int) != ((n + 1 : Nat) : Int)) = true := by rw [bne_iff_ne]; omega
            have v3' : ((x : Int) != (n : Int) + 1) = true := by rw [bne_iff_ne]; omega
            have hst := HST.out
            rw [if_neg hxn] at hst
            have HST2 := Lib.hid hst
            clear HST hst hxn
            go_wp2_with fail
            go_roundw
            case rel => exact ⟨i + 1, by go_num, by omega, by rw [HIN.out, HST2.out], by rw [HIN.out, HST2.out]; exact hil, by rw [HIN.out, HST2.out]; exact hrow⟩
            case measure => simp [intOf]; omega
        · obtain rfl : i = ls.length := by omega
          have v1 : decide ((ls.length : Int) < (ls.length : Int)) = false := decide_eq_false (by omega)
          have v2 : decide (ls.length < ls.length) = false := decide_eq_false (by omega)
          go_wp2_with fail
          go_roundw
          case rel => exact ⟨n + 1, by go_num, by omega, by rw [HNX.out], by rw [HNX.out]; exact hil, by rw [HNX.out]; exact hrow⟩
          case measure => simp [intOf]; omega
    · obtain rfl : n = 15 := by omega
      have t1 : decide (((15 + 1 : Nat) : Int) < 16) = false := by decide
      rw [← HGEN.out] at hrow
      have hsl := hrow.slice
      have hg := hrow.held G rfl
      have gB := hrow.frame.toBelow (B := G) (fun k hk => hk)
      clear hol
      go_wp2_with fail
      go_ret
      obtain ⟨a9, c9, e9, hc9, -⟩ := hsl
      injection e9 with e9 _ _
      subst e9
      obtain ⟨C, hC⟩ := hg
      exact ⟨G, ls.length, rfl, by rw [hC]; simp, by omega, Nat.le_refl _, hc9, by rw [hG]; exact gB⟩

end Go.Proofs.Ytaapnjhkflpiiaa
namespace Go.Proofs.Ytaapnjhkflpiiaa
open Go.RowKit Go.Mix

/-- The sum, how many, the last one. -/
def gs (ls : List Nat) : Nat → Nat × Nat × Nat
  | 0 => (0, 0, 0)
  | i + 1 => if 0 < ls.getD i 0 then ((gs ls i).1 + 2 ^ (15 - ls.getD i 0), (gs ls i).2.1 + 1, ls.getD i 0) else gs ls i

def roomI (ls : List Nat) (i : Nat) : Nat → Nat
  | 0 => 0
  | n + 1 => roomI ls i n + (idxTo ls (n + 1) i).length * 2 ^ (15 - (n + 1))
theorem roomI_all (ls : List Nat) (n : Nat) : roomI ls ls.length n = roomTo ls n := by
  induction n with
  | zero => rfl
  | succ n ih => rw [roomI, roomTo, ih]; rfl
theorem roomI_zero (ls : List Nat) (n : Nat) : roomI ls 0 n = 0 := by
  induction n with
  | zero => rfl
  | succ n ih => rw [roomI, ih]; simp [idxTo]
theorem roomI_succ (ls : List Nat) (i : Nat) : ∀ n, roomI ls (i + 1) n = roomI ls i n + (if 1 ≤ ls.getD i 0 ∧ ls.getD i 0 ≤ n then 2 ^ (15 - ls.getD i 0) else 0) := by
  intro n
  induction n with
  | zero => rw [roomI, roomI, if_neg (by omega)]
  | succ n ih =>
    rw [roomI, roomI, ih, idxTo]
    by_cases h : ls.getD i 0 = n + 1
    · rw [if_pos h, if_neg (by omega), if_pos (by omega), List.length_append, List.length_singleton, Nat.add_mul, Nat.one_mul, h]
      omega
    · rw [if_neg h]
      by_cases h2 : 1 ≤ ls.getD i 0 ∧ ls.getD i 0 ≤ n
      · rw [if_pos h2, if_pos (by omega)]; omega
      · rw [if_neg h2, if_neg (by omega)]; omega
theorem cntsTo_zero (ls : List Nat) (n : Nat) : cntsTo ls 0 n = 0 := by
  have := cntsTo_le ls n 0
  omega

theorem gs_eq (ls : List Nat) (hmax : ∀ i, ls.getD i 0 ≤ 15) : ∀ i, (gs ls i).1 = roomI ls i 15 ∧ (gs ls i).2.1 = cntsTo ls i 15 ∧ ((gs ls i).2.1 = 0 → (idxTo ls 1 i).length = 0) ∧ ((gs ls i).2.1 = 1 → ((gs ls i).2.2 = 1 ↔ (idxTo ls 1 i).length = 1)) := by
  intro i
  induction i with
  | zero => exact ⟨(roomI_zero ls 15).symm, (cntsTo_zero ls 15).symm, fun _ => rfl, fun h => by cases h⟩
  | succ i ih =>
    obtain ⟨h1, h2, h3, h4⟩ := ih
    have hm := hmax i
    rw [gs, roomI_succ, cntsTo_succ]
    by_cases h0 : 0 < ls.getD i 0
    · rw [if_pos h0, if_pos (by omega), if_pos (by omega)]
      refine ⟨by rw [h1], by rw [h2], fun h => by simp at h, fun h => ?_⟩
      simp only at h ⊢
      have hz := h3 (by omega)
      rw [idxTo]
      by_cases h5 : ls.getD i 0 = 1
      · rw [if_pos h5, List.length_append, hz, h5]; simp
      · rw [if_neg h5, hz]; exact ⟨fun e => absurd e h5, fun e => absurd e (by decide)⟩
    · rw [if_neg h0, if_neg (by omega), if_neg (by omega)]
      refine ⟨by rw [h1]; rfl, by rw [h2]; rfl, fun h => ?_, fun h => ?_⟩
      · rw [idxTo, if_neg (by omega)]; exact h3 h
      · rw [idxTo, if_neg (by omega)]; exact h4 h

def goodN (ls : List Nat) (nn : Bool) : Bool := decide ((gs ls ls.length).1 = 32768) || (decide ((gs ls ls.length).2.1 = 1) && decide ((gs ls ls.length).2.2 = 1)) || (nn && decide ((gs ls ls.length).2.1 = 0))
theorem goodN_eq (ls : List Nat) (nn : Bool) (hmax : ∀ i, ls.getD i 0 ≤ 15) : goodN ls nn = good ls nn := by
  obtain ⟨h1, h2, h3, h4⟩ := gs_eq ls hmax ls.length
  have e1 : (sgn ls).length = (gs ls ls.length).2.1 := by rw [h2]; exact sgnTo_cnts ls 15
  have e2 : roomTo ls 15 = (gs ls ls.length).1 := by rw [h1, roomI_all]
  have e3 : cnt ls 1 = (idxTo ls 1 ls.length).length := rfl
  unfold goodN good
  rw [e1, e2, e3]
  by_cases hm : (gs ls ls.length).2.1 = 1
  · have := h4 hm
    by_cases hf : (gs ls ls.length).2.2 = 1
    · rw [decide_eq_true hf, decide_eq_true (this.1 hf)]
    · rw [decide_eq_false hf, decide_eq_false (fun h => hf (this.2 h))]
  · rw [decide_eq_false hm]; rfl

theorem half_pow (k : Nat) (h : k ≤ 15) : 2 ^ (15 - k) = 32768 / 2 ^ k := by
  have : ∀ k, k < 16 → 2 ^ (15 - k) = 32768 / 2 ^ k := by decide
  exact this k (by omega)

theorem gs_le (ls : List Nat) : ∀ i, (gs ls i).1 ≤ i * 32768 ∧ (gs ls i).2.1 ≤ i := by
  intro i
  induction i with
  | zero => exact ⟨Nat.zero_le _, Nat.zero_le _⟩
  | succ i ih =>
    rw [gs]
    have hp : 2 ^ (15 - ls.getD i 0) ≤ 32768 := Nat.le_trans (Nat.pow_le_pow_right (by decide) (show 15 - ls.getD i 0 ≤ 15 by omega)) (by decide)
    generalize 2 ^ (15 - ls.getD i 0) = q at *
    obtain ⟨ih1, ih2⟩ := ih
    split
    · refine ⟨?_, ?_⟩
      · show (gs ls i).1 + q ≤ (i + 1) * 32768
        omega
      · show (gs ls i).2.1 + 1 ≤ i + 1
        omega
    · exact ⟨Nat.le_trans ih1 (Nat.mul_le_mul_right _ (Nat.le_succ _)), Nat.le_succ_of_le ih2⟩

set_option maxRecDepth 100000 in
set_option maxHeartbeats 1000000 in
theorem good_any {w : World} {a : Option Addr} {cap : Nat} {ls : List Nat} (hm : Nums w a cap ls) (hl : ls.length ≤ 1000) (hmax : ∀ i, ls.getD i 0 ≤ 15) (nn : Bool) :
    Calls Try.prog 65 #[.slice a ls.length cap, .bool nn] w fun e w' => e = .returned (.bool (good ls nn)) ∧ w = w' := by
  rw [← goodN_eq ls nn hmax]
  have HG := Lib.hid (show goodN ls nn = (decide ((gs ls ls.length).1 = 32768) || (decide ((gs ls ls.length).2.1 = 1) && decide ((gs ls ls.length).2.2 = 1)) || (nn && decide ((gs ls ls.length).2.1 = 0))) from rfl)
  have hgl := gs_le ls
  generalize goodN ls nn = GB at *
  go_enter Try.func65, Try.ntmps65
  go_wp2_with fail
  go_loop [5, 6, 7, 8] (fun s5 s6 s7 s8 => ∃ i : Nat, s8 = .int .i64 (i : Int) ∧ i ≤ ls.length ∧ s5 = .int .i64 ((gs ls i).1 : Nat) ∧ s6 = .int .i64 ((gs ls i).2.1 : Nat) ∧ s7 = .int .i64 ((gs ls i).2.2 : Nat)) (fun _ _ _ s8 => ls.length - (intOf s8).toNat)
  case atStart => exact ⟨0, rfl, by omega, rfl, rfl, rfl⟩
  case round =>
    obtain ⟨i, rfl, hi, rfl, rfl, rfl⟩ := hrel
    have hgi := hgl i
    by_cases hil : i < ls.length
    · have t1 : decide ((i : Int) < (ls.length : Int)) = true := decide_eq_true (by omega)
      have t2 : decide (i < ls.length) = true := decide_eq_true (by omega)
      obtain ⟨IK, IC⟩ := ints_at hm.cells cap (by omega) (i : Int) i rfl hil
      have hx := hmax i
      have hnx : gs ls (i + 1) = if 0 < ls.getD i 0 then ((gs ls i).1 + 2 ^ (15 - ls.getD i 0), (gs ls i).2.1 + 1, ls.getD i 0) else gs ls i := rfl
      generalize ls.getD i 0 = x at *
      have HNX := Lib.hid hnx
      generalize gs ls i = g at *
      obtain ⟨g1, g2, g3⟩ := g
      simp only at hgi ⊢
      clear hnx hgl
      by_cases hx0 : 0 < x
      · have v1 : decide ((0 : Int) < (x : Int)) = true := decide_eq_true (by omega)
        have v2 : decide (0 < x) = true := decide_eq_true hx0
        have hpx : 32768 / 2 ^ x ≤ 32768 := Nat.div_le_self _ _
        have HP := Lib.hid (half_pow x hx)
        go_wp2_with fail
        go_loop [9, 10] (fun s9 s10 => ∃ j : Nat, s10 = .int .i64 (j : Int) ∧ j ≤ x ∧ s9 = .int .i64 ((32768 / 2 ^ j : Nat) : Int)) (fun _ s10 => x - (intOf s10).toNat)
        case atStart => exact ⟨0, rfl, by omega, rfl⟩
        case round =>
          obtain ⟨j, rfl, hj, rfl⟩ := hrel
          have hpj : 32768 / 2 ^ j ≤ 32768 := Nat.div_le_self _ _
          have hpn : 32768 / 2 ^ (j + 1) = 32768 / 2 ^ j / 2 := by rw [Nat.pow_succ, Nat.div_div_eq_div_mul]
          obtain ⟨q, hq⟩ : ∃ q, q = 32768 / 2 ^ j := ⟨_, rfl⟩
          rw [← hq] at hpj hpn ⊢
          have HQ := Lib.hid (And.intro hq hpn)
          clear hq hpn
          by_cases hjx : j < x
          · have u1 : decide ((j : Int) < (x : Int)) = true := decide_eq_true (by omega)
            have u2 : decide (j < x) = true := decide_eq_true hjx
            go_wp2_with fail
            go_round
            case rel => exact ⟨j + 1, by go_num, by omega, by rw [HQ.out.2]; go_num⟩
            case measure => simp [intOf]; omega
          · obtain rfl : j = x := by omega
            have u1 : decide ((j : Int) < (j : Int)) = false := decide_eq_false (by omega)
            go_wp2_with fail
            go_round
            case rel => exact ⟨i + 1, by go_num, by omega, by rw [HNX.out, if_pos hx0, HP.out, ← HQ.out.1]; go_num, by rw [HNX.out, if_pos hx0]; go_num, by rw [HNX.out, if_pos hx0]⟩
            case measure => simp [intOf]; omega
      · have v1 : decide ((0 : Int) < (x : Int)) = false := decide_eq_false (by omega)
        have v2 : decide (0 < x) = false := decide_eq_false hx0
        go_wp2_with fail
        go_round
        case rel => exact ⟨i + 1, by go_num, by omega, by rw [HNX.out, if_neg hx0], by rw [HNX.out, if_neg hx0], by rw [HNX.out, if_neg hx0]⟩
        case measure => simp [intOf]; omega
    · obtain rfl : i = ls.length := by omega
      have t1 : decide ((ls.length : Int) < (ls.length : Int)) = false := decide_eq_false (by omega)
      have t2 : decide (ls.length < ls.length) = false := decide_eq_false (by omega)
      clear hgl
      generalize gs ls ls.length = g at *
      obtain ⟨g1, g2, g3⟩ := g
      simp only at HG hgi ⊢
      by_cases c1 : g1 = 32768
      · have v1 : ((g1 : Int) == 32768) = true := by rw [beq_iff_eq]; omega
        have HR := Lib.hid (show GB = true by rw [HG.out]; simp [c1])
        clear c1
        go_wp2_with fail
        go_ret
        exact ⟨by rw [HR.out]; rfl, rfl⟩
      · have v1 : ((g1 : Int) == 32768) = false := by rw [beq_eq_false_iff_ne]; omega
        by_cases c2 : g2 = 1
        · have v2 : ((g2 : Int) == 1) = true := by rw [beq_iff_eq]; omega
          have v4 : ((g2 : Int) == 0) = false := by rw [beq_eq_false_iff_ne]; omega
          by_cases c3 : g3 = 1
          · have v3 : ((g3 : Int) == 1) = true := by rw [beq_iff_eq]; omega
            have HR := Lib.hid (show GB = true by rw [HG.out]; simp [c2, c3])
            clear c1 c2 c3
            go_wp2_with fail
            go_ret
            exact ⟨by rw [HR.out]; rfl, rfl⟩
          · have v3 : ((g3 : Int) == 1) = false := by rw [beq_eq_false_iff_ne]; omega
            have HR := Lib.hid (show GB = false by rw [HG.out]; simp [c1, c2, c3])
            clear c1 c2 c3
            cases nn
            all_goals
              go_wp2_with fail
              go_ret
              exact ⟨by rw [HR.out]; rfl, rfl⟩
        · have v2 : ((g2 : Int) == 1) = false := by rw [beq_eq_false_iff_ne]; omega
          by_cases c4 : g2 = 0
          · have v4 : ((g2 : Int) == 0) = true := by rw [beq_iff_eq]; omega
            have HR := Lib.hid (show GB = nn by rw [HG.out]; simp [c1, c4])
            clear c1 c2 c4
            cases nn
            all_goals
              go_wp2_with fail
              go_ret
              exact ⟨by rw [HR.out]; rfl, rfl⟩
          · have v4 : ((g2 : Int) == 0) = false := by rw [beq_eq_false_iff_ne]; omega
            have HR := Lib.hid (show GB = false by rw [HG.out]; simp [c1, c2, c4])
            clear c1 c2 c4
            cases nn
            all_goals
              go_wp2_with fail
              go_ret
              exact ⟨by rw [HR.out]; rfl, rfl⟩

end Go.Proofs.Ytaapnjhkflpiiaa
namespace Go.Proofs.Ytaapnjhkflpiiaa
open Go.RowKit Go.Mix

theorem bitN_bad (d : List UInt8) (p bad : Nat) (hb : bad ≠ 0) : bitN d p bad = (0, p, bad) := by
  unfold bitN stopN
  simp only [if_neg hb]
  split <;> rfl
theorem numN_bad (d : List UInt8) (p bad : Nat) (hb : bad ≠ 0) (n : Nat) : numN d p bad n = (0, p, bad) := by
  induction n with
  | zero => rfl
  | succ n ih => rw [numN, ih]; simp only; rw [bitN_bad d p bad hb]; rfl
theorem numN_all (d : List UInt8) (p : Nat) : ∀ n, (p + n ≤ 8 * d.length → numN d p 0 n = (numAt d p n, p + n, 0)) ∧ (8 * d.length < p + n → p ≤ 8 * d.length → (numN d p 0 n).2 = (8 * d.length, 3)) := by
  intro n
  induction n with
  | zero => exact ⟨fun _ => rfl, fun h1 h2 => by omega⟩
  | succ n ih =>
    refine ⟨fun h => ?_, fun h hp => ?_⟩
    · rw [numN, ih.1 (by omega)]
      simp only
      rw [bitN_live (by omega)]
      simp only [numAt]
      rw [Nat.mul_comm]; rfl
    · by_cases hn : 8 * d.length < p + n
      · have e := ih.2 hn hp
        rw [numN, e]
        simp only
        rw [bitN_bad _ _ _ (by decide)]
      · rw [numN, ih.1 (by omega)]
        simp only
        rw [bitN_out (by omega)]
        have : p + n = 8 * d.length := by omega
        rw [this]; rfl
theorem numN_ok {d : List UInt8} {p n x q : Nat} (h : numR d n p = .ok (x, q)) : numN d p 0 n = (x, q, 0) := by
  unfold numR at h
  split at h
  · injection h with h; injection h with h1 h2; subst h1 h2; exact (numN_all d p n).1 (by assumption)
  · cases h
theorem numN_err {d : List UInt8} {p n e : Nat} (hp : p ≤ 8 * d.length) (h : numR d n p = .error e) : e = 3 ∧ (numN d p 0 n).2 = (8 * d.length, 3) := by
  unfold numR at h
  split at h
  · cases h
  · injection h with h; exact ⟨h.symm, (numN_all d p n).2 (by omega) hp⟩

/-- Texts that are kept. -/
structure Txts (S : Nat → Prop) (w : World) (a : Option Addr) (cap : Nat) (cs : List (List UInt8)) : Prop where
  cells : Cells w a (scells cs)
  le : cs.length ≤ cap
  off : ∀ x, a = some x → S x.block
theorem Txts.frame {S : Nat → Prop} {w0 w : World} {a : Option Addr} {cap : Nat} {cs : List (List UInt8)} (h : Txts S w0 a cap cs) (f : FrameS S w0 w) : Txts S w a cap cs := ⟨h.cells.frame f h.off, h.le, h.off⟩
theorem Txts.at {S : Nat → Prop} {w : World} {a : Option Addr} {cap : Nat} {cs : List (List UInt8)} (h : Txts S w a cap cs) (i : Nat) (hi : i < cs.length) :
    (∀ W : World, (Instr.indexAt 40 (.slice a cs.length cap) (.int .i64 (i : Int))).run Try.prog W = .ok (.pointer (some (elt a i))) W) ∧ w.cell? (elt a i) = some (.string ⟨(cs.getD i []).toArray⟩) := by
  have hl : i < (scells cs).length := by rw [scells_length]; exact hi
  refine ⟨fun W => run_index_any (P := Try.prog) h.cells 40 Try.underlying40 sizeOf_string cap (n := cs.length) hi (by rw [scells_length]; omega) .i64 W, ?_⟩
  rw [h.cells.2 i hl, List.getD_eq_getElem?_getD, List.getElem?_eq_getElem hi]
  simp [scells]

section
variable {S : Nat → Prop} {w0 w w' : World} {P : Nat} {a : Option Addr} {cap : Nat} {d : List UInt8} {most : Int} {p : Nat} {out : List UInt8} {bad : Nat} {v : Value}

set_option maxRecDepth 100000 in
set_option maxHeartbeats 1000000 in
theorem signDead_any (hd : Fits S w0 a cap d most) (h : RefS S w0 w P a cap d most p out bad) (hb : bad ≠ 0) (cv : Value) :
    Calls Try.prog 64 #[.pointer (some ⟨P, 0, none⟩), cv] w fun e w' => e = .returned (.int .i64 (-1)) ∧ ∃ q, RefS S w0 w' P a cap d most q out bad := by
  have C := refBit_any hd h
  rw [bitN_bad d p bad hb] at C
  have t1 : ((bad : Int) != 0) = true := by rw [bne_iff_ne]; omega
  clear hb
  go_enter Try.func64, Try.ntmps64
  go_wp2_with fail
  go_loopw [5] (fun s5 wr => s5 = .string ⟨#[]⟩ ∧ wr = w) (fun _ _ => 0)
  case atStart => exact ⟨rfl, rfl⟩
  case round =>
    obtain ⟨rfl, rfl⟩ := hrel
    go_wp2_with fail
    refine C.mono ?_
    rintro e w1 ⟨rfl, v1, h1⟩
    obtain ⟨-, -, -, -, c4⟩ := five_cells h1.blk
    clear C h
    have t2 : (((0 : Nat) : Int) == 1) = false := rfl
    go_wp2_with fail
    go_ret
    exact ⟨rfl, p, v1, h1⟩

theorem signC_step (cs : List (List UInt8)) (got : List UInt8) (q : Nat) (hg : got.length < 15) : signC d cs (15 - got.length) got q =
    if q < 8 * d.length then
      match findC cs (got ++ [UInt8.ofNat (48 + bitAt d q)]) cs.length with
      | some i => .ok (i, q + 1)
      | none => if longerC cs (got ++ [UInt8.ofNat (48 + bitAt d q)]) cs.length then signC d cs (15 - (got ++ [UInt8.ofNat (48 + bitAt d q)]).length) (got ++ [UInt8.ofNat (48 + bitAt d q)]) (q + 1) else .error 4
    else .error 3 := by
  obtain ⟨f, hf⟩ : ∃ f, 15 - got.length = f + 1 := ⟨14 - got.length, by omega⟩
  have hf2 : 15 - (got ++ [UInt8.ofNat (48 + bitAt d q)]).length = f := by rw [List.length_append, List.length_singleton]; omega
  rw [hf, hf2, signC]
  rfl

theorem extract_take (x : List UInt8) (n : Nat) : ((⟨x.toArray⟩ : ByteArray).extract 0 n).toList = x.take n := by
  rw [ByteArray.toList_eq, ByteArray.data_extract]
  simp

/-- What a live sign hands back. -/
def SignOut (S : Nat → Prop) (w0 w' : World) (P : Nat) (a : Option Addr) (cap : Nat) (d : List UInt8) (most : Int) (out : List UInt8) (e : Ending) : Except Nat (Nat × Nat) → Prop
  | .ok (i, q) => e = .returned (.int .i64 (i : Int)) ∧ RefS S w0 w' P a cap d most q out 0
  | .error x => e = .returned (.int .i64 (-1)) ∧ x ≠ 0 ∧ x ≤ 100 ∧ ∃ q, RefS S w0 w' P a cap d most q out x

set_option maxRecDepth 100000 in
set_option maxHeartbeats 4000000 in
theorem refSign_any (hd : Fits S w0 a cap d most) (h : RefS S w0 w P a cap d most p out 0) {ca : Option Addr} {cc : Nat} {cs : List (List UInt8)} (hc : Txts S w0 ca cc cs) (hcl : cs.length ≤ 1000) (h15 : ∀ i, (cs.getD i []).length ≤ 15) :
    Calls Try.prog 64 #[.pointer (some ⟨P, 0, none⟩), .slice ca cs.length cc] w fun e w' => SignOut S w0 w' P a cap d most out e (signC d cs 15 [] p) := by
  have hsm := hd.small
  obtain ⟨R, hR⟩ : ∃ R, R = signC d cs 15 [] p := ⟨_, rfl⟩
  rw [← hR]
  have HR := Lib.hid hR
  clear hR
  go_enter Try.func64, Try.ntmps64
  go_wp2_with fail
  go_loopw [5] (fun s5 wr => ∃ got q, s5 = .string ⟨got.toArray⟩ ∧ got.length < 15 ∧ signC d cs (15 - got.length) got q = R ∧ RefS S w0 wr P a cap d most q out 0) (fun s5 _ => match s5 with | .string s => 15 - s.data.size | _ => 0)
  case atStart => exact ⟨[], p, rfl, by decide, HR.out.symm, h⟩
  case round =>
    clear h HR
    obtain ⟨got, q, rfl, hgl, hR, hI⟩ := hrel
    rw [signC_step cs got q hgl] at hR
    have C := refBit_any hd hI
    have hql : q ≤ 8 * d.length := by obtain ⟨_, hI'⟩ := hI; exact hI'.le
    have hgm := Lib.hid hgl
    have hgs : got.toArray.size = got.length := rfl
    by_cases hq : q < 8 * d.length
    · rw [bitN_live hq] at C
      rw [if_pos hq] at hR
      have hb2 := bitAt_lt d q
      generalize bitAt d q = b at *
      simp only at C
      clear hI
      go_wp2_with fail
      refine C.mono ?_
      rintro e w1 ⟨rfl, v1, h1⟩
      obtain ⟨-, -, -, -, c4⟩ := five_cells h1.blk
      clear C hql hq
      obtain ⟨G, hG⟩ : ∃ G, G = got ++ [UInt8.ofNat (48 + b)] := ⟨_, rfl⟩
      rw [← hG] at hR
      have hGl : G.length = got.length + 1 := by rw [hG]; simp
      have HG := Lib.hid (show ∀ W, (Op.stringOp .add ⟨got.toArray⟩ ⟨#[UInt8.ofNat (48 + b)]⟩).run Try.prog W = .ok (.string ⟨G.toArray⟩) W from fun W => by
        rw [hG]; exact Go.run_string_add_lists W got [_] (by omega) (by simp))
      clear hG
      rcases (show b = 0 ∨ b = 1 by omega) with rfl | rfl
      all_goals
        have SA := HG.out
        have t2 : (((0 : Nat) : Int) == 1) = false := rfl
        have t3 : (((1 : Nat) : Int) == 1) = true := rfl
        simp only [show UInt8.ofNat (48 + 0) = 48 from rfl, show UInt8.ofNat (48 + 1) = 49 from rfl] at SA
        clear HG
        go_wp2_with fail
        go_loop [6, 7] (fun s6 s7 => ∃ i : Nat, s7 = .int .i64 (i : Int) ∧ i ≤ cs.length ∧ findC cs G i = none ∧ s6 = .bool (longerC cs G i)) (fun _ s7 => cs.length - (intOf s7).toNat)
        case atStart => exact ⟨0, rfl, Nat.zero_le _, rfl, rfl⟩
        case round =>
          obtain ⟨i, rfl, hi, hfi, rfl⟩ := hrel
          by_cases hlt : i < cs.length
          · have u1 : decide ((i : Int) < (cs.length : Int)) = true := decide_eq_true (by omega)
            have u2 : decide (i < cs.length) = true := decide_eq_true hlt
            obtain ⟨IK, IC⟩ := (hc.frame h1.row.frame).at i hlt
            have hf' : findC cs G (i + 1) = if cs.getD i [] = G then some i else none := by rw [findC, hfi]
            have hl' : longerC cs G (i + 1) = (longerC cs G i || (decide (G.length < (cs.getD i []).length) && decide ((cs.getD i []).take G.length = G))) := rfl
            have hx15 := h15 i
            by_cases he : cs.getD i [] = G
            · have u3 : (cs.getD i [] == G) = true := by rw [beq_iff_eq]; exact he
              have hRR := Lib.hid (show R = .ok (i, q + 1) by
                rw [← hR, findC_some cs G cs.length i hlt he (fun j hj => (findC_none cs G i).1 hfi j hj)])
              clear hR hf' hl' he hfi
              generalize cs.getD i [] = x at *
              go_wp2_with fail
              go_ret
              rw [hRR.out]
              exact ⟨rfl, v1, h1⟩
            · have u3 : (cs.getD i [] == G) = false := by rw [beq_eq_false_iff_ne]; exact he
              rw [if_neg he] at hf'
              have HF := Lib.hid hf'
              have HL := Lib.hid hl'
              clear he hf' hl' hfi
              generalize cs.getD i [] = x at *
              generalize longerC cs G i = lg at *
              cases lg with
              | true =>
                go_wp2_with fail
                go_round
                case rel => exact ⟨i + 1, by go_num, by omega, HF.out, by rw [HL.out]; rfl⟩
                case measure => simp [intOf]; omega
              | false =>
                by_cases hgx : G.length < x.length
                · have u4 : decide ((G.length : Int) < (x.length : Int)) = true := decide_eq_true (by omega)
                  have u4' : decide (G.length < x.length) = true := decide_eq_true hgx
                  go_wp2_with fail
                  go_round
                  case rel => exact ⟨i + 1, by go_num, by omega, HF.out, by rw [HL.out, u4', extract_take, hGl]; simp only [Bool.false_or, Bool.true_and]; congr 1; rw [Bool.eq_iff_iff, beq_iff_eq, decide_eq_true_eq]⟩
                  case measure => simp [intOf]; omega
                · have u4 : decide ((G.length : Int) < (x.length : Int)) = false := decide_eq_false (by omega)
                  have u4' : decide (G.length < x.length) = false := decide_eq_false hgx
                  have HL2 := Lib.hid (show longerC cs G (i + 1) = false by rw [HL.out, u4']; rfl)
                  go_wp2_with fail
                  go_round
                  case rel => exact ⟨i + 1, by go_num, by omega, HF.out, by rw [HL2.out]⟩
                  case measure => simp [intOf]; omega
          · obtain rfl : i = cs.length := by omega
            have u1 : decide ((cs.length : Int) < (cs.length : Int)) = false := decide_eq_false (by omega)
            have u2 : decide (cs.length < cs.length) = false := decide_eq_false (by omega)
            rw [hfi] at hR
            have hR2 : (if longerC cs G cs.length then signC d cs (15 - G.length) G (q + 1) else .error 4) = R := hR
            have HLI := Lib.hid (longerC_iff cs G cs.length)
            clear hR hfi
            generalize longerC cs G cs.length = lg at *
            cases lg with
            | true =>
              obtain ⟨j, hj, hj2, -⟩ := HLI.out.1 rfl
              have hj3 := h15 j
              have HR2 := Lib.hid hR2
              clear hR2 HLI
              go_wp2_with fail
              go_roundw
              case rel => exact ⟨G, q + 1, rfl, by omega, HR2.out, v1, h1⟩
              case measure =>
                show 15 - G.length < 15 - got.length
                omega
            | false =>
              have HR2 := Lib.hid (show Except.error 4 = R from hR2)
              clear hR2 HLI
              go_wp2_with fail
              refine (stop_any ⟨v1, h1⟩ 4 4 rfl (by decide)).mono ?_
              rintro e w2 ⟨rfl, h2⟩
              go_wp2_with fail
              go_ret
              rw [← HR2.out]
              exact ⟨rfl, by decide, by decide, _, h2⟩
    · rw [if_neg hq] at hR
      have hqe : q = 8 * d.length := by omega
      rw [bitN_out (by omega)] at C
      have SA := fun W => Go.run_string_add_lists (P := Try.prog) W got [48] (by omega) (by decide)
      have HRR := Lib.hid hR
      clear hR hI
      have t2 : (((0 : Nat) : Int) == 1) = false := rfl
      go_wp2_with fail
      refine C.mono ?_
      rintro e w1 ⟨rfl, v1, h1⟩
      obtain ⟨-, -, -, -, c4⟩ := five_cells h1.blk
      have t3 : (((stopN 0 3 : Nat) : Int) != 0) = true := rfl
      clear C hql hq
      go_wp2_with fail
      go_ret
      rw [← HRR.out]
      exact ⟨rfl, by decide, by decide, _, v1, h1⟩

end
end Go.Proofs.Ytaapnjhkflpiiaa
namespace Go.Proofs.Ytaapnjhkflpiiaa
open Go.RowKit Go.Mix

/-- Numbers that are kept. -/
structure NumsIn (S : Nat → Prop) (w : World) (a : Option Addr) (cap : Nat) (l : List Nat) : Prop where
  cells : Cells w a (icells l)
  le : l.length ≤ cap
  off : ∀ x, a = some x → S x.block
theorem NumsIn.frame {S : Nat → Prop} {w0 w : World} {a : Option Addr} {cap : Nat} {l : List Nat} (h : NumsIn S w0 a cap l) (f : FrameS S w0 w) : NumsIn S w a cap l := ⟨h.cells.frame f h.off, h.le, h.off⟩

theorem nums_lit {w : World} {g : Nat} {C : Array Value} {t : TypeId} {l : List Nat} (hg : w.heap[g]? = some (.cells C t (0, 0))) (hC : C.toList = icells l) : Nums w (some ⟨g, 0, none⟩) l.length l := by
  have hc : Cells w (some ⟨g, 0, none⟩) (icells l) := by
    unfold Cells
    refine And.intro (fun h => nomatch h) fun j hj => ?_
    rw [elt_own, cell_of_row w g j C _ _ hg, ← Array.getElem?_toList, hC, List.getElem?_eq_getElem hj]
  exact ⟨hc, Nat.le_refl _, fun h => nomatch h⟩

section
variable {S : Nat → Prop} {w0 w w' : World} {P : Nat} {a : Option Addr} {cap : Nat} {d : List UInt8} {most : Int} {p : Nat} {out : List UInt8} {bad : Nat}

/-- All that there is may be kept, but the struct and its bytes; new memory has been made since. -/
theorem RefS.holdNew (h : RefS S w0 w P a cap d most p out bad) (gw : Below w.heap.size w w') : ∃ T : Nat → Prop, (∀ k, S k → T k) ∧ RefS T w' w' P a cap d most p out bad ∧
    (∀ k C t fr, w.heap[k]? = some (.cells C t fr) → k ≠ P → t ≠ 5 → T k) ∧ (∀ k, w.heap.size ≤ k → k < w'.heap.size → T k) ∧
    (∀ w2 p' out' bad', RefS T w' w2 P a cap d most p' out' bad' → RefS S w0 w2 P a cap d most p' out' bad') := by
  obtain ⟨v, h⟩ := h
  have hF := h.row.frame
  have hF' := hF.below gw
  have hPl := lt_of_block h.blk
  have hle := gw.size
  have hST : ∀ k, S k → k < w'.heap.size ∧ k ≠ P ∧ v.ownBlock ≠ some k := fun k hk => ⟨hF'.lt hk, fun e => h.off (e ▸ hk), fun e => h.row.off k e hk⟩
  have h' := h.later gw
  have hB : ∀ w2, FrameS (fun k => k < w'.heap.size ∧ k ≠ P ∧ v.ownBlock ≠ some k) w' w2 → FrameS S w0 w2 := fun w2 hf => hF'.trans (hf.sub hST)
  refine ⟨fun k => k < w'.heap.size ∧ k ≠ P ∧ v.ownBlock ≠ some k, hST, ⟨v, h'.blk, h'.row.rebase (FrameS.refl fun k hk => hk.1) (fun g hg hk => hk.2.2 hg), fun hk => hk.2.1 rfl, h.few, h.le, h.badLe⟩, ?_, ?_, ?_⟩
  · intro k C t fr hk hne ht
    exact ⟨Nat.lt_of_lt_of_le (lt_of_block hk) hle, hne, h.row.other hk ht⟩
  · intro k h1 h2
    exact ⟨h2, by omega, fun e => by have := h.row.lt k e; omega⟩
  · rintro w2 p' out' bad' ⟨v', h2⟩
    exact ⟨v', h2.blk, h2.row.rebase (hB w2 h2.row.frame) (fun g hg hk => h2.row.off g hg (hST g hk)), h.off, h2.few, h2.le, h2.badLe⟩

def refLeft (P L : Nat) (w : World) : Nat := if intOf ((w.cell? ⟨P, 4, none⟩).getD undef) = 0 then L + 1 - (intOf ((w.cell? ⟨P, 1, none⟩).getD undef)).toNat else 0
theorem RefS.left (h : RefS S w0 w P a cap d most p out bad) (L : Nat) : refLeft P L w = if bad = 0 then L + 1 - p else 0 := by
  obtain ⟨v, h⟩ := h
  obtain ⟨-, c1, -, -, c4⟩ := five_cells h.blk
  unfold refLeft
  rw [c1, c4]
  simp [intOf]

/-- What is left behind a part: the stream that came, or the error. -/
def RefOut (S : Nat → Prop) (w0 w' : World) (P : Nat) (a : Option Addr) (cap : Nat) (d : List UInt8) (most : Int) : Except Nat (Nat × List UInt8) → Prop
  | .ok x => RefS S w0 w' P a cap d most x.1 x.2 0
  | .error k => k ≠ 0 ∧ ∃ q o, RefS S w0 w' P a cap d most q o k
end

def TL : List Nat := (tabTo 3 4 [0, 0, 1, 2, 3, 4, 5] 7).1
def DL : List Nat := (tabTo 1 2 [0, 0, 1, 2, 3, 4, 5, 6, 7, 8, 9, 10, 11, 12, 13] 15).1
theorem TL_len : TL.length = 28 := by decide
theorem DL_len : DL.length = 30 := by decide
theorem TL_at (x : Nat) (h1 : 257 ≤ x) (h2 : x < 285) : TL.getD (x - 257) 0 = if x < 265 then x - 254 else 3 + (4 + (x - 257) % 4) * 2 ^ ((x - 257) / 4 - 1) := by
  obtain ⟨y, rfl⟩ : ∃ y, x = 257 + y := ⟨x - 257, by omega⟩
  have : ∀ y, y < 28 → TL.getD (257 + y - 257) 0 = if 257 + y < 265 then 257 + y - 254 else 3 + (4 + (257 + y - 257) % 4) * 2 ^ ((257 + y - 257) / 4 - 1) := by decide
  exact this y (by omega)
theorem TL_le (x : Nat) (h2 : x < 28) : TL.getD x 0 ≤ 258 := by
  have : ∀ y, y < 28 → TL.getD y 0 ≤ 258 := by decide
  exact this x h2
theorem DL_at (x : Nat) (h2 : x < 30) : DL.getD x 0 = if x < 4 then x + 1 else 1 + (2 + x % 2) * 2 ^ (x / 2 - 1) := by
  have : ∀ y, y < 30 → DL.getD y 0 = if y < 4 then y + 1 else 1 + (2 + y % 2) * 2 ^ (y / 2 - 1) := by decide
  exact this x h2
theorem DL_le (x : Nat) (h2 : x < 30) : DL.getD x 0 ≤ 30000 := by
  have : ∀ y, y < 30 → DL.getD y 0 ≤ 30000 := by decide
  exact this x h2

theorem signC_lt {d : List UInt8} {cs : List (List UInt8)} : ∀ {f : Nat} {got : List UInt8} {p x q : Nat}, signC d cs f got p = .ok (x, q) → x < cs.length ∧ p < q ∧ q ≤ 8 * d.length := by
  intro f
  induction f with
  | zero => intro got p x q h; simp [signC] at h
  | succ f ih =>
    intro got p x q h
    rw [signC] at h
    split at h
    · split at h
      · rename_i i hi
        injection h with h
        injection h with h1 h2
        have : ∀ n j, findC cs (got ++ [UInt8.ofNat (48 + bitAt d p)]) n = some j → j < n := by
          intro n
          induction n with
          | zero => intro j hj; simp [findC] at hj
          | succ n ih2 =>
            intro j hj
            rw [findC] at hj
            split at hj
            · rename_i j2 hj2
              injection hj with hj
              have := ih2 j2 hj2
              omega
            · split at hj
              · injection hj with hj; omega
              · cases hj
        have := this _ _ hi
        omega
      · split at h
        · have := ih h; omega
        · cases h
    · cases h

theorem putN_put (most : Int) (o : List UInt8) (c : UInt8) : (∃ o2, putR most o c = .ok o2 ∧ putN most o 0 c = (o2, 0)) ∨ (putR most o c = .error 2 ∧ putN most o 0 c = (o, 2)) := by
  unfold putR putN
  by_cases h : most ≤ (o.length : Int)
  · exact .inr ⟨by rw [if_pos h], by rw [if_pos rfl, if_pos h]⟩
  · exact .inl ⟨_, by rw [if_neg h], by rw [if_pos rfl, if_neg h]⟩

end Go.Proofs.Ytaapnjhkflpiiaa
