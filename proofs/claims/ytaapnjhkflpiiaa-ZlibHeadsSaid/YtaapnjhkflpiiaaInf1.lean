/-
  The walks of package inflate: fail, bit, number, below.
-/
import Derived.Test.YtaapnjhkflpiiaaOwn
import Derived.Test.YtaapnjhkflpiiaaInfPure
import Derived.Deep.QuietTactic
import Derived.BigQuiet
import Derived.WalkSmall
namespace Go.Proofs.Ytaapnjhkflpiiaa
open Go.RowKit Go.Mix

/-- What is thrown. -/
def thrown (n : Nat) : List PanicEntry := [{ v := .iface 49 (.agg #[.int .i64 (n : Int)]), recovered := false }]

theorem fail_any (n : Nat) (ni : Int) (w : World) (hn : ni = (n : Int)) :
    Calls Try.prog 41 #[.int .i64 ni] w fun e w' => e = .panicked (thrown n) ∧ w = w' := by
  subst hn
  go_enter Try.func41, Try.ntmps41
  go_wp2
  exact ⟨rfl, rfl, rfl⟩

theorem four_cells {w : World} {P : Nat} {x y z u : Value} {t : TypeId} {fr : Nat × Nat} (h : w.heap[P]? = some (.cells #[x, y, z, u] t fr)) :
    w.cell? ⟨P, 0, none⟩ = some x ∧ w.cell? ⟨P, 1, none⟩ = some y ∧ w.cell? ⟨P, 2, none⟩ = some z ∧ w.cell? ⟨P, 3, none⟩ = some u := by
  simp [World.cell?, h]
theorem four_free {w : World} {P : Nat} {x y z u : Value} {t : TypeId} (h : w.heap[P]? = some (.cells #[x, y, z, u] t (0, 0))) (o : Nat) : w.frozen? ⟨P, o, none⟩ = false := by
  simp [World.frozen?, h]
theorem four_set {w : World} {P : Nat} {x y z u v : Value} {t : TypeId} {fr : Nat × Nat} (h : w.heap[P]? = some (.cells #[x, y, z, u] t fr)) :
    (w.setCell ⟨P, 1, none⟩ v).heap[P]? = some (.cells #[x, v, z, u] t fr) ∧ (w.setCell ⟨P, 2, none⟩ v).heap[P]? = some (.cells #[x, y, v, u] t fr) := by
  have hlt := lt_of_block h
  have h' : w.heap[P] = .cells #[x, y, z, u] t fr := by simpa [Array.getElem?_eq_getElem hlt] using h
  constructor
  · show (w.heap.modify P _)[P]? = _
    rw [Array.getElem?_eq_getElem (by simpa using hlt), Array.getElem_modify_self, h']; rfl
  · show (w.heap.modify P _)[P]? = _
    rw [Array.getElem?_eq_getElem (by simpa using hlt), Array.getElem_modify_self, h']; rfl

/-- Bytes that S keeps. -/
structure Held (S : Nat → Prop) (w : World) (a : Option Addr) (cap : Nat) (l : List UInt8) : Prop where
  sl : Sl w a cap l
  off : ∀ x, a = some x → l ≠ [] → S x.block

theorem Held.frame {S : Nat → Prop} {w0 w : World} {a : Option Addr} {cap : Nat} {l : List UInt8} (h : Held S w0 a cap l) (f : FrameS S w0 w) : Held S w a cap l := by
  refine ⟨⟨?_, h.sl.le, h.sl.max, h.sl.non⟩, h.off⟩
  by_cases hl : l = []
  · exact .inl hl
  rcases h.sl.bs with h1 | ⟨b, off, rfl, hc⟩
  · exact .inl h1
  · exact .inr ⟨b, off, rfl, fun j hj => by rw [← hc j hj]; exact World.cell?_of_block (a := ⟨b, off + j, none⟩) (f.keep b (h.off _ rfl hl)).2⟩

/-- What inflate's struct is: the bytes d are read up to bit p; out has come. -/
structure InfAt (S : Nat → Prop) (w0 w : World) (P : Nat) (a : Option Addr) (cap : Nat) (d : List UInt8) (most : Int) (p : Nat) (out : List UInt8) (v : Value) : Prop where
  blk : w.heap[P]? = some (.cells #[.slice a d.length cap, .int .i64 (p : Int), v, .int .i64 most] 55 (0, 0))
  row : RowB S w0 w v out
  off : ¬ S P
  few : out.length ≤ 1000000

section
variable {S : Nat → Prop} {w0 w w' : World} {P : Nat} {a : Option Addr} {cap : Nat} {d : List UInt8} {most : Int} {p : Nat} {out : List UInt8} {v : Value}

theorem InfAt.later (h : InfAt S w0 w P a cap d most p out v) (g : Below w.heap.size w w') : InfAt S w0 w' P a cap d most p out v := ⟨block_below h.blk g, h.row.later g, h.off, h.few⟩

theorem InfAt.setAt (h : InfAt S w0 w P a cap d most p out v) (q : Nat) (z : Int) (hz : z = (q : Int)) : InfAt S w0 (w.setCell ⟨P, 1, none⟩ (.int .i64 z)) P a cap d most q out v := by
  subst hz
  exact ⟨(four_set h.blk).1, h.row.set_other (p := ⟨P, 1, none⟩) (h.row.other h.blk (by decide)) h.off _, h.off, h.few⟩
end

theorem bit_read (x : UInt8) (r : Nat) : bits .and .i64 (wrap64 ((x.toNat : Int) / 2 ^ r)) 1 = ((x.toNat / 2 ^ r % 2 : Nat) : Int) := by
  have h := x.toNat_lt
  have h1 : x.toNat / 2 ^ r ≤ x.toNat := Nat.div_le_self _ _
  have e : (x.toNat : Int) / 2 ^ r = ((x.toNat / 2 ^ r : Nat) : Int) := by rw [Int.natCast_ediv, Int.natCast_pow]; rfl
  rw [e]
  generalize x.toNat / 2 ^ r = z at *
  have e1 : wrap64 (z : Int) = (z : Int) := IntWalk.wrap64_in _ ⟨by omega, by omega⟩
  rw [e1, show (1 : Int) = ((1 : Nat) : Int) from rfl, (i64_bits_nat _ 1 (by omega) (by decide)).1, Nat.and_one_is_mod]

/-- What is asked of bytes that are read. -/
structure Fits (S : Nat → Prop) (w0 : World) (a : Option Addr) (cap : Nat) (d : List UInt8) (most : Int) : Prop where
  held : Held S w0 a cap d
  small : d.length ≤ 100000000
  room : most ≤ 1000000

set_option maxRecDepth 100000 in
set_option maxHeartbeats 1000000 in
theorem bit_any {S : Nat → Prop} {w0 w : World} {P : Nat} {a : Option Addr} {cap : Nat} {d : List UInt8} {most : Int} {p : Nat} {out : List UInt8} {v : Value} (hd : Fits S w0 a cap d most) (h : InfAt S w0 w P a cap d most p out v) (hp : p ≤ 8 * d.length) :
    Calls Try.prog 35 #[.pointer (some ⟨P, 0, none⟩)] w fun e w' =>
      (p < 8 * d.length ∧ e = .returned (.int .i64 (bitAt d p : Nat)) ∧ InfAt S w0 w' P a cap d most (p + 1) out v) ∨ (¬ p < 8 * d.length ∧ e = .panicked (thrown 3) ∧ FrameS S w0 w') := by
  have hsm := hd.small
  have hdw := (hd.held.frame h.row.frame).sl
  obtain ⟨c0, c1, -, -⟩ := four_cells h.blk
  have f0 := four_free h.blk
  have w8 := Lib.hid (show IntKind.i64.wrap (8 * (d.length : Int)) = 8 * (d.length : Int) from IntWalk.i64_in _ (by omega))
  by_cases hlt : p < 8 * d.length
  · have ht : decide (8 * (d.length : Int) ≤ (p : Int)) = false := decide_eq_false (by omega)
    have hk : p / 8 < d.length := by omega
    have hr8 : p % 8 < 8 := Nat.mod_lt _ (by decide)
    obtain ⟨IK, IC⟩ := hdw.at ((p / 8 : Nat) : Int) (p / 8) rfl hk
    have hbit : bitAt d p = d[p / 8].toNat / 2 ^ (p % 8) % 2 := by
      unfold bitAt
      rw [List.getD_eq_getElem?_getD, List.getElem?_eq_getElem hk]; rfl
    have hrd := bit_read d[p / 8] (p % 8)
    have v1 := Lib.hid (show IntKind.i64.wrap ((p : Int) / 8) = ((p / 8 : Nat) : Int) from IntWalk.i64_in _ (by omega))
    have v2 := Lib.hid (show (p : Int).tmod 8 = ((p % 8 : Nat) : Int) from Int.tmod_eq_emod_of_nonneg (by omega))
    have h8 := d[p / 8].toNat_lt
    rw [← hbit] at hrd
    generalize bitAt d p = y at *
    generalize d[p / 8] = x at *
    clear hbit
    generalize p / 8 = q at *
    generalize p % 8 = r at *
    have RD := Lib.hid hrd
    clear hrd
    have w8' := w8.out
    go_enter Try.func35, Try.ntmps35
    go_wp2_with fail
    go_quiet (fail)
    generalize nq = n1 at *
    clear w8'
    go_wp2_with fail
    have v1' := v1.out
    have v2' := v2.out
    go_quiet (fail)
    have gx : Below w.heap.size w ((w.drewN n1).drewN nq) := below_drewN (below_drewN (Below.refl _ _) _) _
    have hx := h.later gx
    clear c0 c1 f0 v1' v2'
    generalize (w.drewN n1).drewN nq = wx at *
    obtain ⟨c0, c1, -, -⟩ := four_cells hx.blk
    have f0 := four_free hx.blk
    have hP2 := hx.setAt (p + 1) ((p : Int) + 1) (by omega)
    rw [RD.out]
    go_wp2_with fail
    go_ret
    exact .inl ⟨hlt, rfl, hP2⟩
  · have ht : decide (8 * (d.length : Int) ≤ (p : Int)) = true := decide_eq_true (by omega)
    have w8' := w8.out
    have hf := h.row.frame
    go_enter Try.func35, Try.ntmps35
    go_wp2_with fail
    go_quiet (fail)
    clear w8'
    go_wp2_with fail
    refine (fail_any 3 _ _ rfl).mono ?_
    rintro e w' ⟨rfl, rfl⟩
    go_wp2_with fail
    exact ⟨rfl, .inr ⟨hlt, rfl, hf.below (below_drewN (Below.refl _ _) _)⟩⟩

/-- How a part of inflate ends: with what was read, or by a panic that bears the error. -/
def Outs {α : Type} (r : Except Nat α) (F : World → Prop) (G : α → Ending → World → Prop) (e : Ending) (w' : World) : Prop :=
  match r with
  | .ok x => G x e w'
  | .error n => e = .panicked (thrown n) ∧ F w'

theorem Outs.err {α : Type} {P : Program} {f : FuncId} {args : Array Value} {w : World} {r : Except Nat α} {F : World → Prop} {G : α → Ending → World → Prop} {n : Nat} (h : Calls P f args w (Outs r F G)) (hr : r = .error n) :
    Calls P f args w fun e w' => e = .panicked (thrown n) ∧ F w' := by subst hr; exact h
theorem Outs.good {α : Type} {P : Program} {f : FuncId} {args : Array Value} {w : World} {r : Except Nat α} {F : World → Prop} {G : α → Ending → World → Prop} {x : α} (h : Calls P f args w (Outs r F G)) (hr : r = .ok x) :
    Calls P f args w (G x) := by subst hr; exact h
/-- What the ends must be. -/
theorem Outs.of_err {α : Type} {r : Except Nat α} {F : World → Prop} {G : α → Ending → World → Prop} {n : Nat} {w' : World} (hr : r = .error n) (h : F w') : Outs r F G (.panicked (thrown n)) w' := by subst hr; exact ⟨rfl, h⟩
theorem Outs.of_ok {α : Type} {r : Except Nat α} {F : World → Prop} {G : α → Ending → World → Prop} {x : α} {e : Ending} {w' : World} (hr : r = .ok x) (h : G x e w') : Outs r F G e w' := by subst hr; exact h

theorem or_shift (k b j : Nat) (hk : k < 2 ^ j) (hb : b < 2) (hj : j ≤ 16) : bits .or .i64 (k : Int) (wrap64 ((b : Int) * 2 ^ j)) = ((k + b * 2 ^ j : Nat) : Int) := by
  have h1 : b * 2 ^ j ≤ 1 * 2 ^ j := Nat.mul_le_mul_right _ (by omega)
  have h2 : 2 ^ j ≤ 2 ^ 16 := Nat.pow_le_pow_right (by decide) hj
  have e : (b : Int) * 2 ^ j = ((b * 2 ^ j : Nat) : Int) := by rw [Int.natCast_mul, Int.natCast_pow]; rfl
  have e0 : b * 2 ^ j = b <<< j := by rw [Nat.shiftLeft_eq]
  have h3 : k ||| b * 2 ^ j = k + b * 2 ^ j := by rw [e0, Nat.or_comm, ← Nat.shiftLeft_add_eq_or_of_lt hk, Nat.add_comm]
  rw [e]
  generalize b * 2 ^ j = z at *
  have e1 : wrap64 (z : Int) = (z : Int) := IntWalk.wrap64_in _ ⟨by omega, by omega⟩
  rw [e1, (i64_bits_nat k z (by omega) (by omega)).2.1, h3]

section
variable {S : Nat → Prop} {w0 w : World} {P : Nat} {a : Option Addr} {cap : Nat} {d : List UInt8} {most : Int} {p : Nat} {out : List UInt8} {v : Value}

set_option maxRecDepth 100000 in
set_option maxHeartbeats 1000000 in
theorem numberI_any (hd : Fits S w0 a cap d most) (h : InfAt S w0 w P a cap d most p out v) (hp : p ≤ 8 * d.length) (n : Nat) (ni : Int) (hni : ni = (n : Int)) (hn : n ≤ 16) :
    Calls Try.prog 36 #[.pointer (some ⟨P, 0, none⟩), .int .i64 ni] w
      (Outs (numR d n p) (FrameS S w0) fun x e w' => e = .returned (.int .i64 (x.1 : Nat)) ∧ InfAt S w0 w' P a cap d most x.2 out v) := by
  subst hni
  have HR := Lib.hid (show numR d n p = if p + n ≤ 8 * d.length then .ok (numAt d p n, p + n) else .error 3 from rfl)
  generalize numR d n p = R at *
  go_enter Try.func36, Try.ntmps36
  go_wp2_with fail
  go_loopw [5, 8] (fun k i wr => ∃ j : Nat, i = .int .i64 (j : Int) ∧ k = .int .i64 (numAt d p j : Nat) ∧ j ≤ n ∧ p + j ≤ 8 * d.length ∧ InfAt S w0 wr P a cap d most (p + j) out v) (fun _ i _ => n - (intOf i).toNat)
  case atStart => exact ⟨0, rfl, rfl, by omega, hp, h⟩
  case round =>
    obtain ⟨j, rfl, rfl, hj, hpj, hI⟩ := hrel
    have hlt := numAt_lt d p j
    by_cases hjn : j < n
    · have ht : decide ((j : Int) < (n : Int)) = true := decide_eq_true (by omega)
      have hb := bitAt_lt d (p + j)
      have hnext : numAt d p (j + 1) = numAt d p j + bitAt d (p + j) * 2 ^ j := rfl
      have C := bit_any hd hI hpj
      generalize bitAt d (p + j) = b at *
      generalize numAt d p j = k at *
      have hor := or_shift k b j hlt hb (by omega)
      have HOR := Lib.hid hor
      have HN := Lib.hid hnext
      have HC := Lib.hid C
      clear hnext hor C hlt
      go_wp2_with fail
      refine HC.out.mono ?_
      rintro e w1 (⟨hpl, rfl, hI1⟩ | ⟨hpl, rfl, hF⟩)
      · go_wp2_with fail
        rw [HOR.out, ← HN.out]
        go_roundw
        case rel => exact ⟨j + 1, by go_num, rfl, by omega, by omega, hI1⟩
        case measure => simp [intOf]; omega
      · go_wp2_with fail
        refine ⟨rfl, ?_⟩
        rw [HR.out, if_neg (by omega)]
        exact ⟨rfl, hF⟩
    · obtain rfl : j = n := by omega
      have ht : decide ((j : Int) < (j : Int)) = false := decide_eq_false (by omega)
      go_wp2_with fail
      go_ret
      rw [HR.out, if_pos hpj]
      exact ⟨rfl, hI⟩

def belowR (d : List UInt8) (n m p : Nat) : Except Nat (Nat × Nat) := match numR d n p with
  | .error e => .error e
  | .ok x => if m ≤ x.1 then .error 4 else .ok x

set_option maxRecDepth 100000 in
theorem below_any (hd : Fits S w0 a cap d most) (h : InfAt S w0 w P a cap d most p out v) (hp : p ≤ 8 * d.length) (n m : Nat) (ni mi : Int) (hni : ni = (n : Int)) (hmi : mi = (m : Int)) (hn : n ≤ 16) :
    Calls Try.prog 62 #[.pointer (some ⟨P, 0, none⟩), .int .i64 ni, .int .i64 mi] w
      (Outs (belowR d n m p) (FrameS S w0) fun x e w' => e = .returned (.int .i64 (x.1 : Nat)) ∧ InfAt S w0 w' P a cap d most x.2 out v) := by
  subst hmi hni
  have C := numberI_any hd h hp n _ rfl hn
  have HB := Lib.hid (show belowR d n m p = match numR d n p with | .error e => .error e | .ok x => if m ≤ x.1 then .error 4 else .ok x from rfl)
  cases hr : numR d n p with
  | error k =>
    have HC := Lib.hid (Outs.err C hr)
    rw [hr] at HB
    clear C hr
    go_enter Try.func62, Try.ntmps62
    go_wp2_with fail
    refine HC.out.mono ?_
    rintro e w1 ⟨rfl, hF⟩
    go_wp2_with fail
    exact ⟨rfl, Outs.of_err HB.out hF⟩
  | ok x =>
    obtain ⟨x, q⟩ := x
    have HC := Lib.hid (Outs.good C hr)
    rw [hr] at HB
    clear C hr
    by_cases hm : m ≤ x
    · have ht : decide ((m : Int) ≤ (x : Int)) = true := decide_eq_true (by omega)
      have ht2 : decide (m ≤ x) = true := decide_eq_true (by omega)
      have HB2 := Lib.hid (HB.out.trans (if_pos hm))
      go_enter Try.func62, Try.ntmps62
      go_wp2_with fail
      refine HC.out.mono ?_
      rintro e w1 ⟨rfl, hI⟩
      have hF := hI.row.frame
      go_wp2_with fail
      refine (fail_any 4 _ _ rfl).mono ?_
      rintro e w' ⟨rfl, rfl⟩
      go_wp2_with fail
      exact ⟨rfl, Outs.of_err HB2.out hF⟩
    · have ht : decide ((m : Int) ≤ (x : Int)) = false := decide_eq_false (by omega)
      have ht2 : decide (m ≤ x) = false := decide_eq_false (by omega)
      have HB2 := Lib.hid (HB.out.trans (if_neg hm))
      go_enter Try.func62, Try.ntmps62
      go_wp2_with fail
      refine HC.out.mono ?_
      rintro e w1 ⟨rfl, hI⟩
      go_wp2_with fail
      go_ret
      exact Outs.of_ok HB2.out ⟨rfl, hI⟩
end

end Go.Proofs.Ytaapnjhkflpiiaa
