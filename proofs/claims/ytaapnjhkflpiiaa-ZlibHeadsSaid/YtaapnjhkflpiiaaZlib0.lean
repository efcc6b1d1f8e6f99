/-
  Plain Lean: what a zlib frame is. The walks of zlib.four and the document's Tail.
  The walks of zlib.Wrap and zlib.Open.
  The walk of zlib.Open.
  zlib: known; plain laws of frames.
-/
import Derived.Test.YtaapnjhkflpiiaaInf13
import Derived.Test.YtaapnjhkflpiiaaAdler
import Derived.Test.YtaapnjhkflpiiaaBackPure
import Derived.Test.YtaapnjhkflpiiaaAppE
import Derived.Test.YtaapnjhkflpiiaaArrEq
import Derived.Laws.BitsAllLaws
namespace Go.Proofs.Ytaapnjhkflpiiaa
open Go.RowKit Go.Mix

def fourOf (n : Nat) : List UInt8 := [UInt8.ofNat (n / 16777216), UInt8.ofNat (n / 65536 % 256), UInt8.ofNat (n / 256 % 256), UInt8.ofNat (n % 256)]
def tailOf (x : List UInt8) : List UInt8 := fourOf (adler 1 x)
def headBad (x y : Nat) : Bool := decide (x % 16 ≠ 8) || decide (7 < x / 16) || decide (y / 32 % 2 = 1) || decide ((256 * x + y) % 31 ≠ 0)
/-- What a frame's bytes are opened as: the bytes, how many were taken, the error. -/
def openOf (d : List UInt8) (most : Int) : List UInt8 × Nat × Nat :=
  if d.length < 2 then ([], 0, 3)
  else if headBad (d.getD 0 0).toNat (d.getD 1 0).toNat = true then ([], 0, 4)
  else if (rawOf (d.drop 2) most).2.2 ≠ 0 then ([], 0, (rawOf (d.drop 2) most).2.2)
  else if (d.drop (2 + (rawOf (d.drop 2) most).2.1)).length < 4 then ([], 0, 3)
  else if (d.drop (2 + (rawOf (d.drop 2) most).2.1)).take 4 ≠ tailOf (rawOf (d.drop 2) most).1 then ([], 0, 5)
  else ((rawOf (d.drop 2) most).1, (rawOf (d.drop 2) most).2.1 + 6, 0)
def wrapOf (b : List UInt8) : List UInt8 := [120, 156] ++ rawPackOf b ++ tailOf b

abbrev fourC (n : Nat) : Array Value := #[.int .u8 ((n / 16777216 : Nat) : Int), .int .u8 ((n / 65536 % 256 : Nat) : Int), .int .u8 ((n / 256 % 256 : Nat) : Int), .int .u8 ((n % 256 : Nat) : Int)]
theorem fourC_cells (n : Nat) (hn : n < 4294967296) : (fourC n).toList = bcells (fourOf n) := by
  simp [bcells, fourOf]; omega

theorem four_any (n : Nat) (ni : Int) (hni : ni = (n : Int)) (hn : n < 4294967296) (w : World) :
    Calls Try.prog 50 #[.int .u32 ni] w fun e w' => e = .returned (.agg (fourC n)) ∧ Below w.heap.size w w' := by
  subst hni
  have e1 : ((n / 16777216 : Nat) : Int) = (n : Int) / 16777216 := by omega
  have e2 : ((n / 65536 % 256 : Nat) : Int) = (n : Int) / 65536 % 256 := by omega
  have e3 : ((n / 256 % 256 : Nat) : Int) = (n : Int) / 256 % 256 := by omega
  have e4 : ((n % 256 : Nat) : Int) = (n : Int) % 256 := by omega
  have E := Lib.hid (And.intro e1 (And.intro e2 (And.intro e3 e4)))
  clear e1 e2 e3 e4
  go_enter Try.func50, Try.ntmps50
  go_wp2_with fail
  refine bodyPost_ret (v := .agg #[.int .u8 ((n : Int) / 16777216), .int .u8 ((n : Int) / 65536 % 256), .int .u8 ((n : Int) / 256 % 256), .int .u8 ((n : Int) % 256)]) (by simp [results, Try.results50, go_sem]) rfl ⟨?_, (Below.refl _ _).alloc (Nat.le_refl _) _⟩
  obtain ⟨e1, e2, e3, e4⟩ := E.out
  unfold fourC
  rw [e1, e2, e3, e4]

theorem tail_any {w : World} {a : Option Addr} {cap : Nat} {x : List UInt8} (hs : Sl w a cap x) (hl : x.length ≤ 1000000) :
    Calls Try.prog 31 #[.slice a x.length cap] w fun e w' => ∃ a2 c2, e = .returned (.slice a2 (tailOf x).length c2) ∧ Sl w' a2 c2 (tailOf x) ∧ Below w.heap.size w w' := by
  have hlt := adler_lt 1 x (by decide)
  have C1 := Lib.hid (refAdler_any a cap x 1 w (by decide) (by omega) hs.bs)
  have HT := Lib.hid (show tailOf x = fourOf (adler 1 x) from rfl)
  generalize tailOf x = t at *
  generalize adler 1 x = n at *
  go_enter Try.func31, Try.ntmps31
  go_wp2_with fail
  refine Calls.mono C1.out ?_
  rintro e w1 ⟨rfl, rfl⟩
  go_wp2_with fail
  go_ret
  have hc := fourC_cells n hlt
  have e1 : ((n / 16777216 : Nat) : Int) = (n : Int) / 16777216 := by omega
  have e2 : ((n / 65536 % 256 : Nat) : Int) = (n : Int) / 65536 % 256 := by omega
  have e3 : ((n / 256 % 256 : Nat) : Int) = (n : Int) / 256 % 256 := by omega
  have e4 : ((n % 256 : Nat) : Int) = (n : Int) % 256 := by omega
  unfold fourC at hc
  rw [e1, e2, e3, e4] at hc
  have ht := HT.out
  refine ⟨some ⟨w.heap.size, 0, none⟩, 4, by rw [ht]; rfl, ?_, (Below.refl _ _).alloc (Nat.le_refl _) _⟩
  rw [ht]
  refine ⟨.block (heap_alloc_last _ _ _ rfl) ?_, by show 4 ≤ 4; omega, by decide, by simp⟩
  rw [hc, List.take_of_length_le (by rw [bcells_length]; exact Nat.le_refl _)]
  rfl

theorem zadler_any {w : World} {a : Option Addr} {cap : Nat} {x : List UInt8} (hs : Sl w a cap x) (hl : x.length ≤ 1000000) :
    Calls Try.prog 51 #[.slice a x.length cap] w fun e w' => e = .returned (.int .u32 (adler 1 x : Nat)) ∧ w = w' := adler_any a cap x w (by omega) hs.bs

end Go.Proofs.Ytaapnjhkflpiiaa
namespace Go.Proofs.Ytaapnjhkflpiiaa
open Go.RowKit Go.Mix

theorem Row.lit {S : Nat → Prop} {e : TypeId} {w0 w : World} {g n : Nat} {C : Array Value} {xs : List Value} (hF : FrameS S w0 w) (hg : w.heap[g]? = some (.cells C e (0, 0))) (hC : C.toList = xs) (hn : xs.length = n) (hm : n ≤ maxLen) (hS : ¬ S g) :
    Row S e w0 w (.slice (some ⟨g, 0, none⟩) n n) xs := by
  refine ⟨⟨by omega, .inr ⟨g, n, C, by rw [hn], Nat.zero_le _, hg, by omega, hm, ?_, ?_⟩⟩, fun k hk => ?_, hF⟩
  · rw [← hn, ← hC]; simp
  · rw [hC, List.take_of_length_le (by omega)]
  · injection hk with hk
    subst hk
    exact hS

theorem four_sl {w : World} {A n : Nat} {t : TypeId} {fr : Nat × Nat} (hn : n < 4294967296) (h : w.heap[A]? = some (.cells #[.int .u8 ((n : Int) / 16777216), .int .u8 ((n : Int) / 65536 % 256), .int .u8 ((n : Int) / 256 % 256), .int .u8 ((n : Int) % 256)] t fr)) :
    Sl w (some ⟨A, 0, none⟩) 4 (fourOf n) := by
  have hc := fourC_cells n hn
  have e1 : ((n / 16777216 : Nat) : Int) = (n : Int) / 16777216 := by omega
  have e2 : ((n / 65536 % 256 : Nat) : Int) = (n : Int) / 65536 % 256 := by omega
  have e3 : ((n / 256 % 256 : Nat) : Int) = (n : Int) / 256 % 256 := by omega
  have e4 : ((n % 256 : Nat) : Int) = (n : Int) % 256 := by omega
  unfold fourC at hc
  rw [e1, e2, e3, e4] at hc
  refine ⟨.block h ?_, by show 4 ≤ 4; omega, by decide, by simp⟩
  rw [hc, List.take_of_length_le (by rw [bcells_length]; exact Nat.le_refl _)]
  rfl

theorem c_head : (#[Value.int .u8 120, .int .u8 156] : Array Value).toList = bcells [120, 156] := rfl

set_option maxRecDepth 100000 in
set_option maxHeartbeats 1000000 in
theorem wrap_any {w : World} {a : Option Addr} {cap : Nat} {b : List UInt8} (hs : Sl w a cap b) (hl : b.length ≤ 1000000) :
    Calls Try.prog 32 #[.slice a b.length cap] w fun e w' => ∃ v, e = .returned v ∧ RowB (· < w.heap.size) w w' v (wrapOf b) := by
  have hlt := adler_lt 1 b (by decide)
  have C1 := Lib.hid (zadler_any hs hl)
  have HW := Lib.hid (show wrapOf b = [120, 156] ++ rawPackOf b ++ fourOf (adler 1 b) from rfl)
  have hpl : (rawPackOf b).length ≤ 2000000 := by
    have h1 : (rawPackOf b).length ≤ (storedOf b).length := by
      unfold rawPackOf; split
      · assumption
      · exact Nat.le_refl _
    have h2 := storedOf_len b
    omega
  have C2 := Lib.hid (fun (W : World) (h : Sl W a cap b) => rawpack_ret h hl)
  generalize wrapOf b = R at *
  generalize rawPackOf b = q at *
  generalize adler 1 b = n at *
  go_enter Try.func32, Try.ntmps32
  go_wp2_with fail
  refine Calls.mono C1.out ?_
  rintro e w1 ⟨rfl, rfl⟩
  go_wp2_with fail
  refine (four_any n _ rfl hlt _).mono ?_
  rintro e w2 ⟨rfl, g2⟩
  have hs2 := hs.below g2
  go_wp2_with fail
  have hsz := g2.size
  have e1 : ((n / 16777216 : Nat) : Int) = (n : Int) / 16777216 := by omega
  have e2 : ((n / 65536 % 256 : Nat) : Int) = (n : Int) / 65536 % 256 := by omega
  have e3 : ((n / 256 % 256 : Nat) : Int) = (n : Int) / 256 % 256 := by omega
  have e4 : ((n % 256 : Nat) : Int) = (n : Int) % 256 := by omega
  have hA : ((w2.alloc (.cells (fourC n) 44)).alloc (.cells #[.int .u8 120, .int .u8 156] 5)).heap[w2.heap.size]? = some (.cells (fourC n) 44 (0, 0)) :=
    (((Below.refl (w2.alloc (.cells (fourC n) 44)).heap.size _).alloc (Nat.le_refl _) _).block w2.heap.size (by simp)).trans (heap_alloc_last _ _ _ rfl)
  have hB : ((w2.alloc (.cells (fourC n) 44)).alloc (.cells #[.int .u8 120, .int .u8 156] 5)).heap[w2.heap.size + 1]? = some (.cells #[.int .u8 120, .int .u8 156] 5 (0, 0)) := heap_alloc_last _ _ _ (by simp)
  have g3 : Below w2.heap.size w2 ((w2.alloc (.cells (fourC n) 44)).alloc (.cells #[.int .u8 120, .int .u8 156] 5)) := ((Below.refl _ _).alloc (Nat.le_refl _) _).alloc (by simp) _
  unfold fourC at hA hB g3
  rw [e1, e2, e3, e4] at hA hB g3
  clear e1 e2 e3 e4
  generalize (w2.alloc (.cells #[.int .u8 ((n : Int) / 16777216), .int .u8 ((n : Int) / 65536 % 256), .int .u8 ((n : Int) / 256 % 256), .int .u8 ((n : Int) % 256)] 44)).alloc (.cells #[.int .u8 120, .int .u8 156] 5) = w3 at *
  have hF3 : FrameS (· < w.heap.size) w w3 := (FrameS.refl (fun k hk => hk)).below (g2.trans (g3.mono hsz))
  have hr3 : RowB (· < w.heap.size) w w3 (.slice (some ⟨w2.heap.size + 1, 0, none⟩) 2 2) [120, 156] := Row.lit hF3 hB c_head (by simp [bcells]) (by decide) (by show ¬ _ < _; omega)
  have hs3 := hs2.below g3
  have hlA := lt_of_block hA
  refine Calls.mono (C2.out _ hs3) ?_
  rintro e w4 ⟨a4, c4, rfl, h4, g4⟩
  have hr4 := hr3.later g4
  have hA4 := (g4.block _ hlA).trans hA
  have hneA : some w2.heap.size ≠ (Value.slice (some ⟨w2.heap.size + 1, 0, none⟩) 2 2).ownBlock := by simp [Value.ownBlock]
  have hlA4 := lt_of_block hA4
  clear hs2 hs3 hr3 hB g2 g3 g4 hA hlA hF3
  go_wp2_with (first
    | (at_builtin; refine wpList_append_b rfl (.tmp 8) (.tmp 10) rfl _ [120, 156] rfl hr4 a4 c4 q rfl h4 (by show 2 + _ ≤ _; omega) ?_; intro v5 w5 hb5 hgr5; have hA5 := (hgr5.block _ hlA4 hneA).trans hA4)
    | (at_builtin; refine wpList_append_b rfl (.tmp 12) (.tmp 13) rfl v5 _ rfl hb5 (some ⟨w2.heap.size, 0, none⟩) 4 (fourOf n) rfl (four_sl hlt hA5) (by rw [List.length_append]; show 2 + _ + 4 ≤ _; omega) ?_; intro v6 w6 hb6 hgr6))
  go_ret
  exact ⟨v6, rfl, by rw [HW.out]; exact hb6⟩

end Go.Proofs.Ytaapnjhkflpiiaa
namespace Go.Proofs.Ytaapnjhkflpiiaa
open Go.RowKit Go.Mix

def OpenEnds (d : List UInt8) (most : Int) (w : World) (e : Ending) (w' : World) : Prop :=
  ∃ a2 c2, e = .returned (.tuple #[.slice a2 (openOf d most).1.length c2, .int .i64 ((openOf d most).2.1 : Nat), .int .i64 ((openOf d most).2.2 : Nat)]) ∧ Sl w' a2 c2 (openOf d most).1 ∧ Below w.heap.size w w'

theorem OpenEnds.err {d : List UInt8} {most : Int} {w w' : World} {n : Nat} {e : Ending} (h : openOf d most = ([], 0, n)) (he : e = .returned (.tuple #[.slice none 0 0, .int .i64 0, .int .i64 (n : Int)])) (g : Below w.heap.size w w') : OpenEnds d most w e w' := by
  unfold OpenEnds
  rw [h]
  exact ⟨none, 0, he, ⟨.inl rfl, Nat.le_refl _, by decide, fun _ => rfl⟩, g⟩

theorem head_15 (x : Nat) (hx : x < 256) : bits .and .u8 (x : Int) 15 = ((x % 16 : Nat) : Int) := by
  rw [show (15 : Int) = ((15 : Nat) : Int) from rfl, u8_and_nat x 15 hx (by decide)]
  congr 1
  exact Nat.and_two_pow_sub_one_eq_mod x 4
theorem head_32 (y : Nat) (hy : y < 256) : bits .and .u8 (y : Int) 32 = ((y / 32 % 2 * 32 : Nat) : Int) := by
  rw [show (32 : Int) = ((32 : Nat) : Int) from rfl, u8_and_nat y 32 hy (by decide)]
  have : ∀ y, y < 256 → y &&& 32 = y / 32 % 2 * 32 := by decide +kernel
  rw [this y hy]

theorem head_or (x y : Nat) (hx : x < 256) (hy : y < 256) : bits .or .i64 ((x : Int) * 256) (y : Int) = ((256 * x + y : Nat) : Int) := by
  have e : (x : Int) * 256 = ((x * 256 : Nat) : Int) := by omega
  have h3 : x * 256 ||| y = 256 * x + y := by
    rw [show x * 256 = x <<< 8 by rw [Nat.shiftLeft_eq], ← Nat.shiftLeft_add_eq_or_of_lt (i := 8) (b := y) (by omega), Nat.shiftLeft_eq, Nat.mul_comm]
  rw [e, (i64_bits_nat (x * 256) y (by omega) (by omega)).2.1, h3]

theorem arr4 : Go.WideMaps.ArrKey Try.prog 44 5 4 := ⟨Try.underlying44, by kernel_rfl, by kernel_rfl, by kernel_rfl⟩

/-- Four bytes ahead, as an array. -/
theorem four_at {w : World} {a : Option Addr} {cap : Nat} {b : List UInt8} (hs : Sl w a cap b) (h4 : 4 ≤ b.length) :
    ∃ (bb off : Nat) (x y z u : UInt8), b.take 4 = [x, y, z, u] ∧
      (∀ w : World, (Instr.arrayAt 44 (.slice a b.length cap)).run Try.prog w = .ok (.pointer (some ⟨bb, off, none⟩)) w) ∧
      w.cell? ⟨bb, off, none⟩ = some (.int .u8 (x.toNat : Int)) ∧ w.cell? ⟨bb, off + 1, none⟩ = some (.int .u8 (y.toNat : Int)) ∧ w.cell? ⟨bb, off + 2, none⟩ = some (.int .u8 (z.toNat : Int)) ∧ w.cell? ⟨bb, off + 3, none⟩ = some (.int .u8 (u.toNat : Int)) := by
  obtain ⟨bb, off, rfl, hc⟩ : ∃ bb off, a = some ⟨bb, off, none⟩ ∧ ∀ j (h : j < b.length), w.cell? ⟨bb, off + j, none⟩ = some (.int .u8 (b[j].toNat : Int)) := by
    rcases hs.bs with rfl | h
    · simp at h4
    · exact h
  refine ⟨bb, off, b[0], b[1], b[2], b[3], ?_, fun w => run_arrayAt w _ 5 4 _ _ _ Try.underlying44 (by omega), hc 0 (by omega), hc 1 (by omega), hc 2 (by omega), hc 3 (by omega)⟩
  match b, h4 with
  | b0 :: b1 :: b2 :: b3 :: _, _ => rfl

set_option maxRecDepth 100000 in
set_option maxHeartbeats 2000000 in
theorem open_any {w : World} {a : Option Addr} {cap : Nat} {d : List UInt8} (most : Int) (hs : Sl w a cap d) (hl : d.length ≤ 1000000) (hroom : most ≤ 1000000) :
    Calls Try.prog 28 #[.slice a d.length cap, .int .i64 most] w (OpenEnds d most w) := by
  have hE0 : openOf d most = if d.length < 2 then ([], 0, 3) else if headBad (d.getD 0 0).toNat (d.getD 1 0).toNat = true then ([], 0, 4) else if (rawOf (d.drop 2) most).2.2 ≠ 0 then ([], 0, (rawOf (d.drop 2) most).2.2)
      else if (d.drop (2 + (rawOf (d.drop 2) most).2.1)).length < 4 then ([], 0, 3) else if (d.drop (2 + (rawOf (d.drop 2) most).2.1)).take 4 ≠ tailOf (rawOf (d.drop 2) most).1 then ([], 0, 5)
      else ((rawOf (d.drop 2) most).1, (rawOf (d.drop 2) most).2.1 + 6, 0) := rfl
  by_cases h2 : d.length < 2
  · have t1 : decide (d.length < 2) = true := decide_eq_true h2
    have t2 : decide ((d.length : Int) < 2) = true := decide_eq_true (by omega)
    rw [if_pos h2] at hE0
    have HE := Lib.hid hE0
    clear hE0
    go_enter Try.func28, Try.ntmps28
    go_wp2_with fail
    go_ret3
    exact OpenEnds.err HE.out rfl (Below.refl _ _)
  · have t1 : decide (d.length < 2) = false := decide_eq_false h2
    have t2 : decide ((d.length : Int) < 2) = false := decide_eq_false (by omega)
    rw [if_neg h2] at hE0
    have hx := (d.getD 0 0).toNat_lt
    have hy := (d.getD 1 0).toNat_lt
    obtain ⟨IK0, IC0⟩ := hs.at 0 0 rfl (by omega)
    obtain ⟨IK1, IC1⟩ := hs.at 1 1 rfl (by omega)
    have ex : d[0]'(by omega) = d.getD 0 0 := by rw [List.getD_eq_getElem?_getD, List.getElem?_eq_getElem]; rfl
    have ey : d[1]'(by omega) = d.getD 1 0 := by rw [List.getD_eq_getElem?_getD, List.getElem?_eq_getElem]; rfl
    rw [ex] at IC0
    rw [ey] at IC1
    clear ex ey
    generalize (d.getD 0 0).toNat = x at *
    generalize (d.getD 1 0).toNat = y at *
    have a15 := head_15 x (by omega)
    have a32 := head_32 y (by omega)
    obtain ⟨r, hr⟩ : ∃ r, r = x % 16 := ⟨_, rfl⟩
    obtain ⟨s, hs32⟩ : ∃ s, s = y / 32 % 2 * 32 := ⟨_, rfl⟩
    rw [← hr] at a15
    rw [← hs32] at a32
    have HR := Lib.hid (And.intro hr hs32)
    clear hr hs32
    obtain ⟨B, hB⟩ : ∃ B, B = headBad x y := ⟨_, rfl⟩
    rw [← hB] at hE0
    have HB := Lib.hid hB
    have HE := Lib.hid hE0
    clear hB hE0
    go_enter Try.func28, Try.ntmps28
    go_upto_region 3 with (fail)
    go_cut [46] from 14 to 75 (fun t wx => t = .bool B ∧ Below w.heap.size w wx)
    case first =>
      by_cases c1 : x % 16 = 8
      · have u1 : ((r : Int) != 8) = false := by rw [bne_eq_false_iff_eq, HR.out.1]; omega
        by_cases c2 : 7 < x / 16
        · have u2 : decide (7 < (x : Int) / 16) = true := decide_eq_true (by omega)
          have HBB := Lib.hid (show B = true by rw [HB.out]; unfold headBad; simp [c2])
          clear c1 c2
          go_quiet (fail)
          go_wp2_with fail
          go_meet
          exact ⟨by rw [HBB.out], below_drewN (Below.refl _ _) _⟩
        · have u2 : decide (7 < (x : Int) / 16) = false := decide_eq_false (by omega)
          by_cases c3 : y / 32 % 2 = 1
          · have u3 : ((s : Int) != 0) = true := by rw [bne_iff_ne, HR.out.2]; omega
            have HBB := Lib.hid (show B = true by rw [HB.out]; unfold headBad; simp [c3])
            clear c1 c2 c3
            go_quiet (fail)
            go_wp2_with fail
            go_meet
            exact ⟨by rw [HBB.out], below_drewN (Below.refl _ _) _⟩
          · have u3 : ((s : Int) != 0) = false := by rw [bne_eq_false_iff_eq, HR.out.2]; omega
            have HBB := Lib.hid (show B = decide ((256 * x + y) % 31 ≠ 0) by rw [HB.out]; unfold headBad; simp [c1, c2, c3])
            clear c1 c2 c3
            have u4 : ((bits .or .i64 ((x : Int) * 256) (y : Int)).tmod 31 != 0) = B := by
              rw [head_or x y (by omega) (by omega), Int.tmod_eq_emod_of_nonneg (by omega), HBB.out, Bool.eq_iff_iff, bne_iff_ne, decide_eq_true_eq]
              omega
            go_quiet (fail)
            go_wp2_with fail
            go_meet
            exact ⟨rfl, below_drewN (Below.refl _ _) _⟩
      · have u1 : ((r : Int) != 8) = true := by rw [bne_iff_ne, HR.out.1]; omega
        have HBB := Lib.hid (show B = true by rw [HB.out]; unfold headBad; simp [c1])
        clear c1
        go_quiet (fail)
        go_wp2_with fail
        go_meet
        exact ⟨by rw [HBB.out], below_drewN (Below.refl _ _) _⟩
    case rest =>
      obtain ⟨rfl, g0⟩ := hcut
      cases hBB : B with
      | true =>
        have hE := HE.out
        rw [if_pos hBB] at hE
        have HE2 := Lib.hid hE
        clear hE HE IK0 IC0 IK1 IC1
        subst hBB
        go_wp2_with fail
        go_ret3
        exact OpenEnds.err HE2.out rfl g0
      | false =>
        have hE := HE.out
        rw [if_neg (by rw [hBB]; decide)] at hE
        obtain ⟨a2, l2, cap2, hl2, hs2, hsl2⟩ := hs.from 2 2 rfl (by omega)
        rw [← hl2] at hE
        have hll : l2.length + 2 = d.length := by rw [hl2, List.length_drop]; omega
        obtain ⟨x2, n2, e2, hR⟩ : ∃ x2 n2 e2, rawOf l2 most = (x2, n2, e2) := ⟨_, _, _, rfl⟩
        have hn2 : n2 ≤ l2.length := by
          rcases rawOf_cases l2 most with ⟨q, y, h1, h2, h3, h4⟩ | ⟨e, h1, h2, h3, h4⟩
          · rw [hR] at h2; simp only [Prod.mk.injEq] at h2; omega
          · rw [hR] at h2; simp only [Prod.mk.injEq] at h2; omega
        have hx2 : x2.length ≤ 1000000 := by
          have := rawOf_len l2 most
          rw [hR] at this
          simp only at this
          omega
        rw [hR] at hE
        simp only at hE
        have HE2 := Lib.hid hE
        have HRW := Lib.hid hR
        have hs20 := hs2.below g0
        have hs0 := hs.below g0
        have hl2s : l2.length ≤ 1000000 := by omega
        have HLL := Lib.hid hll
        clear hE HE hR IK0 IC0 IK1 IC1 hs2 hs hl2 hll
        subst hBB
        go_wp2_with fail
        have hll := HLL.out
        refine (raw_sl HRW.out hs20 (by omega) hroom).mono ?_
        rintro e w1 ⟨a3, c3, rfl, h3, g1⟩
        have hs1 := hs0.below g1
        have G1 := g0.trans (g1.mono g0.size)
        clear hs0 hs20 hsl2
        by_cases he : e2 = 0
        · have u1 : ((e2 : Int) != 0) = false := by rw [bne_eq_false_iff_eq]; omega
          have hE := HE2.out
          rw [if_neg (by omega)] at hE
          obtain ⟨a4, l4, cap4, hl4, hs4, hsl4⟩ := hs1.from (2 + (n2 : Int)) (2 + n2) (by omega) (by omega)
          rw [← hl4] at hE
          clear he hl4 hll
          by_cases h4 : l4.length < 4
          · have u2 : decide (l4.length < 4) = true := decide_eq_true h4
            have u3 : decide ((l4.length : Int) < 4) = true := decide_eq_true (by omega)
            rw [if_pos h4] at hE
            have HE3 := Lib.hid hE
            clear hE HE2
            go_wp2_with fail
            go_ret3
            exact OpenEnds.err HE3.out rfl G1
          · have u2 : decide (l4.length < 4) = false := decide_eq_false h4
            have u3 : decide ((l4.length : Int) < 4) = false := decide_eq_false (by omega)
            rw [if_neg h4] at hE
            have HE3 := Lib.hid hE
            obtain ⟨bb, off, b0, b1, b2, b3, ht, har, k0, k1, k2, k3⟩ := four_at hs4 (by omega)
            have HT := Lib.hid ht
            have hz := adler_lt 1 x2 (by decide)
            have CA := Lib.hid (fun W (h : Sl W a3 c3 x2) => zadler_any h hx2)
            clear hE HE2 ht
            have HTT := Lib.hid (show tailOf x2 = fourOf (adler 1 x2) from rfl)
            generalize adler 1 x2 = nn at *
            go_upto_region 11 with (fail)
            have q0 : ∀ x : Later w1, x.1.cell? ⟨bb, off, none⟩ = some (.int .u8 (b0.toNat : Int)) := fun x => (x.2.cell (p := ⟨bb, off, none⟩) (lt_of_cell k0)).trans k0
            have q1 : ∀ x : Later w1, x.1.cell? ⟨bb, off + 1, none⟩ = some (.int .u8 (b1.toNat : Int)) := fun x => (x.2.cell (p := ⟨bb, off + 1, none⟩) (lt_of_cell k1)).trans k1
            have q2 : ∀ x : Later w1, x.1.cell? ⟨bb, off + 2, none⟩ = some (.int .u8 (b2.toNat : Int)) := fun x => (x.2.cell (p := ⟨bb, off + 2, none⟩) (lt_of_cell k2)).trans k2
            have q3 : ∀ x : Later w1, x.1.cell? ⟨bb, off + 3, none⟩ = some (.int .u8 (b3.toNat : Int)) := fun x => (x.2.cell (p := ⟨bb, off + 3, none⟩) (lt_of_cell k3)).trans k3
            clear k0 k1 k2 k3
            refine wp_region_mix [(0, 0), (3, 0), (4, 0), (5, 0), (1, 1), (2, 1), (6, 0)] (by kernel_rfl) (by kernel_rfl) ?_
            iterate 4 (refine mix_calm rfl (fun K hK => ?_); go_simp; (refine hK _ ?_; clear hK K))
            clear q0 q1 q2 q3
            refine mix_loud rfl rfl (fun w5 hw5 K hK => ?_)
            go_wp2_with fail
            refine Calls.mono (CA.out _ (h3.below hw5)) ?_
            rintro e w' ⟨rfl, rfl⟩
            go_wp2_with fail
            refine hK _ _ (Grow.refl _) ?_
            clear hK K
            refine mix_loud rfl rfl (fun w6 hw6 K hK => ?_)
            go_wp2_with fail
            refine (four_any nn _ rfl hz _).mono ?_
            rintro e w7 ⟨rfl, g7⟩
            go_wp2_with fail
            refine hK _ _ g7 ?_
            clear hK K
            have hg7 : Grow w1 w7 := (hw5.trans hw6).trans g7
            have hq := fun W : World => eql_arr arr4 Try.underlying5 (fourOf nn) [b0, b1, b2, b3] rfl rfl (fourC nn) #[.int .u8 (b0.toNat : Int), .int .u8 (b1.toNat : Int), .int .u8 (b2.toNat : Int), .int .u8 (b3.toNat : Int)] (fourC_cells nn hz) rfl W
            obtain ⟨D, hD⟩ : ∃ D, D = decide (fourOf nn = [b0, b1, b2, b3]) := ⟨_, rfl⟩
            rw [← hD] at hq
            have HD := Lib.hid hD
            clear hD
            refine mix_calm rfl (fun K hK => ?_); go_simp; (refine hK _ ?_; clear hK K)
            refine mix_nil fun w8 hw8 => ?_
            have h38 := h3.below (hg7.trans hw8)
            have G8 : Below w.heap.size w w8 := G1.trans ((hg7.trans hw8 : Below w1.heap.size w1 w8).mono G1.size)
            clear hq CA h3 hs4 hsl4 har hw5 hw6 g7 hg7 hw8 G1 hs1
            have hE := HE3.out
            rw [HT.out, HTT.out] at hE
            cases hDD : D with
            | true =>
              have heq : fourOf nn = [b0, b1, b2, b3] := by have := HD.out; rw [hDD] at this; exact of_decide_eq_true this.symm
              rw [if_neg (by rw [heq]; exact fun h => h rfl)] at hE
              have HE4 := Lib.hid hE
              clear hE HE3 heq HD
              subst hDD
              go_wp2_with fail
              go_ret3
              unfold OpenEnds
              rw [HE4.out]
              exact ⟨a3, c3, rfl, h38, G8⟩
            | false =>
              have hne : [b0, b1, b2, b3] ≠ fourOf nn := by
                have := HD.out
                rw [hDD] at this
                exact fun h => of_decide_eq_false this.symm h.symm
              rw [if_pos hne] at hE
              have HE4 := Lib.hid hE
              clear hE HE3 hne HD
              subst hDD
              go_wp2_with fail
              go_ret3
              exact OpenEnds.err HE4.out rfl G8
        · have u1 : ((e2 : Int) != 0) = true := by rw [bne_iff_ne]; omega
          have hE := HE2.out
          rw [if_pos he] at hE
          have HE3 := Lib.hid hE
          clear hE HE2 he hll
          go_wp2_with fail
          go_ret3
          exact OpenEnds.err HE3.out rfl G1

end Go.Proofs.Ytaapnjhkflpiiaa
namespace Go.Proofs.Ytaapnjhkflpiiaa
open Go.RowKit Go.Mix

theorem zopen_sl {d : List UInt8} {most : Int} {x : List UInt8} {n e : Nat} (hE : openOf d most = (x, n, e)) {w : World} {a : Option Addr} {cap : Nat} (hs : Sl w a cap d) (hl : d.length ≤ 1000000) (hroom : most ≤ 1000000) :
    Calls Try.prog 28 #[.slice a d.length cap, .int .i64 most] w fun en w' =>
      ∃ a2 c2, en = .returned (.tuple #[.slice a2 x.length c2, .int .i64 (n : Int), .int .i64 (e : Int)]) ∧ Sl w' a2 c2 x ∧ Below w.heap.size w w' := by
  refine (open_any most hs hl hroom).mono fun en w' h => ?_
  unfold OpenEnds at h
  rw [hE] at h
  exact h

set_option maxRecDepth 100000 in
set_option maxHeartbeats 1000000 in
theorem known05_any (w : World) :
    Calls Try.prog 30 #[] w fun e w' => e = .returned (.bool true) ∧ Below w.heap.size w w' := by
  have e1 : openOf [120, 156, 75, 4, 0, 0, 98, 0, 98] 9 = ([97], 9, 0) := by decide +kernel
  have e2 : openOf [120, 156, 75, 4, 0, 0, 98, 0, 99] 9 = ([], 0, 5) := by decide +kernel
  have E1 := Lib.hid e1
  have E2 := Lib.hid e2
  clear e1 e2
  go_enter Try.func30, Try.ntmps30
  go_wp2_with fail
  have hs : Sl (w.alloc (.cells #[.int .u8 120, .int .u8 156, .int .u8 75, .int .u8 4, .int .u8 0, .int .u8 0, .int .u8 98, .int .u8 0, .int .u8 98] 5)) (some ⟨w.heap.size, 0, none⟩) 9 [120, 156, 75, 4, 0, 0, 98, 0, 98] := ⟨.block (heap_alloc_last _ _ _ rfl) rfl, by decide, by decide, by simp⟩
  have C1 := zopen_sl E1.out hs (by simp) (by decide)
  rw [show ([120, 156, 75, 4, 0, 0, 98, 0, 98] : List UInt8).length = 9 from rfl] at C1
  refine C1.mono ?_
  clear C1
  rintro e w1 ⟨a1, c1, rfl, h1, g1⟩
  have G1 : Below w.heap.size w w1 := ((Below.refl _ _).alloc (Nat.le_refl _) _).trans (g1.mono (by simp))
  clear g1 hs
  rw [show ([97] : List UInt8).length = 1 from rfl]
  go_wp2_with fail
  have hs : Sl (w1.alloc (.cells #[.int .u8 120, .int .u8 156, .int .u8 75, .int .u8 4, .int .u8 0, .int .u8 0, .int .u8 98, .int .u8 0, .int .u8 99] 5)) (some ⟨w1.heap.size, 0, none⟩) 9 [120, 156, 75, 4, 0, 0, 98, 0, 99] := ⟨.block (heap_alloc_last _ _ _ rfl) rfl, by decide, by decide, by simp⟩
  have C2 := zopen_sl E2.out hs (by simp) (by decide)
  rw [show ([120, 156, 75, 4, 0, 0, 98, 0, 99] : List UInt8).length = 9 from rfl] at C2
  refine C2.mono ?_
  clear C2
  rintro e w2 ⟨a2, c2, rfl, h2, g2⟩
  have g12 : Below w1.heap.size w1 w2 := ((Below.refl _ _).alloc (Nat.le_refl _) _).trans (g2.mono (by simp))
  have t1 := (h1.below g12).str
  have G2 := G1.trans (g12.mono G1.size)
  rw [show ([97] : List UInt8).length = 1 from rfl] at t1
  clear g2 hs h1 G1 g12 h2
  go_wp2_with fail
  go_ret
  exact ⟨rfl, G2⟩

theorem tail_len (x : List UInt8) : (tailOf x).length = 4 := rfl
theorem raw_roomier {d : List UInt8} {m m' : Int} {x : List UInt8} {n : Nat} (h : rawOf d m = (x, n, 0)) (hm : (x.length : Int) ≤ m') : rawOf d m' = (x, n, 0) := by
  rcases rawOf_cases d m with ⟨q, y, h1, h2, h3, h4⟩ | ⟨e, _, h2, h3, _⟩
  · rw [h2] at h
    simp only [Prod.mk.injEq] at h
    obtain ⟨rfl, rfl, -⟩ := h
    have r1 := rawGo_rm d m m' (8 * d.length + 1) 0 [] (by simp)
    rw [h1] at r1
    rw [rawOf_end, r1.1 (by simp only; omega)]
    rfl
  · rw [h2] at h
    simp only [Prod.mk.injEq] at h
    omega

/-- A frame is opened. -/
theorem open_frame (h0 h1 : UInt8) (p t : List UInt8) (x more : List UInt8) (most : Int) (hb : headBad h0.toNat h1.toNat = false) (ht : t.length = 4) (hr : rawOf (p ++ (t ++ more)) most = (x, p.length, 0)) :
    openOf ([h0, h1] ++ p ++ t ++ more) most = if t = tailOf x then (x, p.length + 6, 0) else ([], 0, 5) := by
  have hd2 : ([h0, h1] ++ p ++ t ++ more).drop 2 = p ++ (t ++ more) := by simp
  have hdn : ([h0, h1] ++ p ++ t ++ more).drop (2 + p.length) = t ++ more := by
    rw [← List.drop_drop, hd2, List.drop_left]
  unfold openOf
  rw [if_neg (by simp)]
  have g0 : ([h0, h1] ++ p ++ t ++ more).getD 0 0 = h0 := rfl
  have g1 : ([h0, h1] ++ p ++ t ++ more).getD 1 0 = h1 := rfl
  rw [g0, g1, hb, if_neg (by decide), hd2, hr]
  dsimp only
  rw [if_neg (by decide), hdn, if_neg (by rw [List.length_append]; omega), show (t ++ more).take 4 = t by rw [← ht, List.take_left]]
  by_cases h : t = tailOf x
  · rw [if_neg (fun h2 => h2 h), if_pos h]
  · rw [if_pos h, if_neg h]

/-- A frame of ours that is cut off. -/
theorem open_cut (b : List UInt8) (k : Nat) (hk : k < (wrapOf b).length) : openOf ((wrapOf b).take k) (b.length : Int) = ([], 0, 3) := by
  obtain ⟨p, hp⟩ : ∃ p, p = rawPackOf b := ⟨_, rfl⟩
  have hr := rawOf_pack b (b.length : Int) (Int.le_refl _)
  rw [← hp] at hr
  obtain ⟨-, -, E1, E2, -⟩ := more_pure p (b.length : Int) b p.length hr
  rw [List.take_length] at E1
  have hw : wrapOf b = [120, 156] ++ (p ++ tailOf b) := by unfold wrapOf; rw [← hp, List.append_assoc]
  have hwl : (wrapOf b).length = 2 + (p.length + 4) := by rw [hw, List.length_append, List.length_append, tail_len]; rfl
  unfold openOf
  have hlen : ((wrapOf b).take k).length = k := by rw [List.length_take]; omega
  rw [hlen]
  by_cases h2 : k < 2
  · rw [if_pos h2]
  · rw [if_neg h2]
    obtain ⟨j, rfl⟩ : ∃ j, k = j + 2 := ⟨k - 2, by omega⟩
    have ht : (wrapOf b).take (j + 2) = 120 :: 156 :: (p ++ tailOf b).take j := by rw [hw]; rfl
    rw [ht]
    have g0 : (120 :: 156 :: (p ++ tailOf b).take j : List UInt8).getD 0 0 = 120 := rfl
    have g1 : (120 :: 156 :: (p ++ tailOf b).take j : List UInt8).getD 1 0 = 156 := rfl
    have hd2 : (120 :: 156 :: (p ++ tailOf b).take j : List UInt8).drop 2 = (p ++ tailOf b).take j := rfl
    rw [g0, g1, hd2, if_neg (by decide)]
    by_cases hj : j < p.length
    · have h3 : (p ++ tailOf b).take j = p.take j := List.take_append_of_le_length (by omega)
      rw [h3, E2 j hj]
      rfl
    · have h3 : (p ++ tailOf b).take j = p ++ (tailOf b).take (j - p.length) := by rw [List.take_append, List.take_of_length_le (by omega)]
      rw [h3, E1]
      dsimp only
      rw [if_neg (by decide)]
      have h4 : ((120 :: 156 :: (p ++ (tailOf b).take (j - p.length)) : List UInt8).drop (2 + p.length)).length < 4 := by
        rw [List.length_drop, List.length_cons, List.length_cons, List.length_append, List.length_take, tail_len]
        omega
      rw [if_pos h4]

/-- With room for one byte fewer. -/
theorem open_less (b : List UInt8) (hb : b ≠ []) : openOf (wrapOf b) ((b.length : Int) - 1) = ([], 0, 2) := by
  obtain ⟨p, hp⟩ : ∃ p, p = rawPackOf b := ⟨_, rfl⟩
  have hr := rawOf_pack b (b.length : Int) (Int.le_refl _)
  rw [← hp] at hr
  obtain ⟨-, -, E1, -, -⟩ := more_pure p (b.length : Int) b p.length hr
  rw [List.take_length] at E1
  have hw : wrapOf b = 120 :: 156 :: (p ++ tailOf b) := by unfold wrapOf; rw [← hp, List.append_assoc]; rfl
  obtain ⟨-, -, -, -, E3⟩ := more_pure (p ++ tailOf b) (b.length : Int) b p.length (E1 _)
  rw [if_neg hb] at E3
  unfold openOf
  rw [hw]
  have g0 : (120 :: 156 :: (p ++ tailOf b) : List UInt8).getD 0 0 = 120 := rfl
  have g1 : (120 :: 156 :: (p ++ tailOf b) : List UInt8).getD 1 0 = 156 := rfl
  have hd2 : (120 :: 156 :: (p ++ tailOf b) : List UInt8).drop 2 = p ++ tailOf b := rfl
  rw [if_neg (by simp), g0, g1, hd2, if_neg (by decide), E3]
  rfl

/-- A frame of ours, with another sum, whatever stands behind. -/
theorem open_wrap (b t more : List UInt8) (ht : t.length = 4) : openOf ([120, 156] ++ rawPackOf b ++ t ++ more) (b.length : Int) = if t = tailOf b then (b, (rawPackOf b).length + 6, 0) else ([], 0, 5) := by
  have hr := rawOf_pack b (b.length : Int) (Int.le_refl _)
  obtain ⟨-, -, E1, -, -⟩ := more_pure (rawPackOf b) (b.length : Int) b _ hr
  rw [List.take_length] at E1
  exact open_frame 120 156 (rawPackOf b) t b more _ (by decide) ht (E1 _)

end Go.Proofs.Ytaapnjhkflpiiaa
