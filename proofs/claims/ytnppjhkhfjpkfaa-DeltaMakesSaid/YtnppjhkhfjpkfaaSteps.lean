/-
  The walks of delta's steps: insert, copy.
-/
import Derived.Test.YtnppjhkhfjpkfaaLebMake
import Derived.Test.YtnppjhkhfjpkfaaDeltaApply
import Derived.Test.YtnppjhkhfjpkfaaDeltaMakePure3
namespace Go.Proofs.Ytnppjhkhfjpkfaa
open Go.RowKit Go.Mix

/-- Block P is a struct of one slice, which holds l. -/
def StepsAt (B : Nat) (w0 w : World) (P : Nat) (l : List UInt8) : Prop := ∃ v, w.heap[P]? = some (.cells #[v] 50 (0, 0)) ∧ Buf B w0 w v l ∧ B ≤ P

theorem OwnB.other {w : World} {B P : Nat} {v : Value} {l : List UInt8} {C : Array Value} {e : TypeId} {fr : Nat × Nat} (h : OwnB w B v l) (hP : w.heap[P]? = some (.cells C e fr)) (he : e ≠ 5) : v.ownBlock ≠ some P := by
  rcases h.2 with ⟨rfl, _⟩ | ⟨g, cap, cur, rfl, _, hg, _⟩
  · simp [Value.ownBlock]
  · simp [Value.ownBlock]
    rintro rfl
    rw [hg] at hP
    simp at hP
    exact he hP.2.1.symm

theorem block_below {w w' : World} {P : Nat} {o : Obj} (h : w.heap[P]? = some o) (g : Below w.heap.size w w') : w'.heap[P]? = some o := (g.block P (lt_of_block h)).trans h

/-- The struct's cell, stored into. -/
theorem StepsAt.store {B : Nat} {w0 w : World} {P : Nat} {v v' : Value} {l : List UInt8} (hP : w.heap[P]? = some (.cells #[v] 50 (0, 0))) (hb : Buf B w0 w v' l) (hBP : B ≤ P) : StepsAt B w0 (w.setCell ⟨P, 0, none⟩ v') P l := by
  refine ⟨v', one_setCell hP, ⟨ownsRow_setCell_other hb.1 (hb.1.other hP (by decide)) _, hb.2.1.setCell hBP _, hb.2.2⟩, hBP⟩

theorem OwnB.apart {w w' : World} {B : Nat} {v v2 : Value} {l : List UInt8} (h : OwnB w B v l) (hlt : ∀ k, v2.ownBlock = some k → k < B) (hg : w.grownBy w' v2.ownBlock) : OwnB w' B v l := by
  refine World.ownsRow.kept h hg ?_
  cases hv : v.ownBlock with
  | none => exact .inl rfl
  | some k =>
    refine .inr fun e => ?_
    have h1 := (World.ownsRow.lt h k hv).1
    have h2 := hlt k e.symm
    omega

theorem OwnB.bs_of {w : World} {B : Nat} {a : Option Addr} {n c : Nat} {l : List UInt8} (h : OwnB w B (.slice a n c) l) : Bs w a l := by
  obtain ⟨a', c', e, hb, _⟩ := h.bs
  injection e with e1
  rw [e1]; exact hb

theorem StepsAt.later {B : Nat} {w0 w w' : World} {P : Nat} {l : List UInt8} (h : StepsAt B w0 w P l) (g : Below w.heap.size w w') : StepsAt B w0 w' P l := by
  obtain ⟨v, h1, h2, h3⟩ := h
  exact ⟨v, block_below h1 g, h2.later g, h3⟩

set_option maxRecDepth 100000 in
set_option maxHeartbeats 1000000 in
theorem insert_any (B P : Nat) (w0 : World) (o : List UInt8) (a : Option Addr) (cap : Nat) (l : List UInt8) (w : World) (hB : B = w0.heap.size)
    (hs : StepsAt B w0 w P o) (hb : Bs w0 a l) (hc : l.length ≤ cap) (hmax : cap ≤ 9223372036854775807) (hn : a = none → cap = 0) (hroom : o.length + 2 * l.length ≤ 140737488355328) :
    Calls Try.prog 20 #[.pointer (some ⟨P, 0, none⟩), .slice a l.length cap] w fun e w' => e = .returned (.tuple #[]) ∧ StepsAt B w0 w' P (o ++ insOf l) := by
  go_enter Try.func20, Try.ntmps20
  go_wp2_with fail
  go_loopw [1] (fun s wr => ∃ (a2 : Option Addr) (cap2 : Nat) (l2 o2 : List UInt8) (f : Nat), s = .slice a2 l2.length cap2 ∧ Bs w0 a2 l2 ∧ l2.length ≤ cap2 ∧ cap2 ≤ 9223372036854775807 ∧ (a2 = none → cap2 = 0) ∧ l2.length ≤ f ∧ o2 ++ insF f l2 = o ++ insOf l ∧ o2.length + 2 * l2.length ≤ 140737488355328 ∧ StepsAt B w0 wr P o2) (fun s _ => match s with | .slice _ n _ => n | _ => 0)
  case atStart => exact ⟨a, cap, l, o, l.length, rfl, hb, hc, hmax, hn, Nat.le_refl _, rfl, hroom, hs⟩
  case round =>
    obtain ⟨a2, cap2, l2, o2, f, rfl, hb2, hc2, hm2, hn2, hf, hgo, hr2, hs2⟩ := hrel
    by_cases h0 : l2.length = 0
    · have h0' : decide (0 < l2.length) = false := decide_eq_false (by omega)
      have e : o2 = o ++ insOf l := by rw [← hgo]; cases f with | zero => simp [insF] | succ f => rw [insF, if_pos h0]; simp
      have HE := Lib.hid e
      clear hgo e h0
      go_wp2_with fail
      go_end0
      exact ⟨rfl, by rw [← HE.out]; exact hs2⟩
    · cases f with
      | zero => omega
      | succ f =>
        rw [insF, if_neg h0] at hgo
        obtain ⟨n, hn⟩ : ∃ n, n = min l2.length 127 := ⟨_, rfl⟩
        rw [← hn] at hgo
        have h0' : decide (0 < l2.length) = true := decide_eq_true (by omega)
        have hmin : min (l2.length : Int) 127 = (n : Int) := by omega
        have hn1 : 1 ≤ n := by omega
        have hn2' : n ≤ 127 := by omega
        have hn3 : n ≤ l2.length := by omega
        obtain ⟨v, hP, hbuf, hBP⟩ := hs2
        obtain ⟨l3, hl3, hl3n, hb3, hsl3⟩ := cut_to_i (P := Try.prog) hb2 22 Try.underlying22 sizeOf_u8 cap2 n n rfl hc2 hn2 hn3
        obtain ⟨a4, l4, cap4, hl4, hb4, hc4, hcc4, hn4, hsl4⟩ := cut_from_i (P := Try.prog) hb2 22 Try.underlying22 sizeOf_u8 cap2 n n rfl hc2 hn2 hn3
        have hl4n : l4.length = l2.length - n := by rw [hl4, List.length_drop]
        rw [← hl3, ← hl4] at hgo
        have e : o2 ++ [UInt8.ofNat n] ++ l3 ++ insF f l4 = o ++ insOf l := by rw [← hgo]; simp
        have hlens : l4.length ≤ f ∧ l3.length = n ∧ n + l4.length = l2.length := by omega
        have HG := Lib.hid e
        have HL := Lib.hid hlens
        clear hgo h0 hn hl3 hl4 hl3n hl4n e hlens
        have hld : ∀ x : Later wr, x.1.cell? ⟨P, 0, none⟩ = some v := fun x => cell_of_one (block_below hP x.2)
        go_wp2_with fail
        refine wp_region_mix [(0, 3), (1, 0), (2, 0), (3, 0), (4, 0), (5, 0), (6, 0), (9, 3), (10, 3), (11, 3), (7, 1), (8, 2), (12, 2), (13, 0), (14, 0), (15, 2)] (by kernel_rfl) (by kernel_rfl) ?_
        refine mix_pure rfl (fun K hK => ?_); go_simp; (refine hK _ ?_; clear hK K)
        iterate 6 (refine mix_calm rfl (fun K hK => ?_); go_simp; (refine hK _ ?_; clear hK K))
        iterate 3 (refine mix_pure rfl (fun K hK => ?_); go_simp; (refine hK _ ?_; clear hK K))
        refine mix_loud rfl rfl (fun w1 hw1 K hK => ?_)
        go_wp2_with fail
        refine hK _ _ ((Below.refl _ _).alloc (Nat.le_refl _) _) ?_
        clear hK K
        refine mix_sync rfl rfl (fun w2 hw2 K hK => ?_)
        have hg2 := hw1.trans ((Grow.trans ((Below.refl _ _).alloc (Nat.le_refl _) _) hw2))
        have hb1 : Bs w2 (some ⟨w1.heap.size, 0, none⟩) [UInt8.ofNat n] := .block ((hw2.block _ (by simp)).trans (heap_alloc_last _ _ _ rfl)) (by simp; omega)
        have hbuf2 := hbuf.later hg2
        have hP2 := block_below hP hg2
        refine wpList_append_buf rfl (.tmp 15) (.tmp 18) rfl v o2 rfl hbuf2 _ 1 [UInt8.ofNat n] rfl hb1 (by simp) (by simp; omega) (fun v5 w5 hb5 hgr5 => ?_)
        have hP5 := (hgr5.block P (lt_of_block hP2) (Ne.symm (hbuf2.1.other hP2 (by decide)))).trans hP2
        clear hbuf2 hb1
        go_wp2_with fail
        refine mix_sync rfl rfl (fun w6 hw6 K hK => ?_)
        have hbuf6 := hb5.later hw6
        have hb36 := hb3.below ((hB ▸ hb5.2.1).trans (hw6.mono (hB ▸ hb5.le)))
        refine wpList_append_buf rfl (.tmp 19) (.tmp 22) rfl v5 _ rfl hbuf6 a2 cap2 l3 rfl hb36 hn2 (by have := HL.out; simp; omega) (fun v7 w7 hb7 hgr7 => ?_)
        have hP6 := block_below hP5 hw6
        obtain ⟨a7, cap7, hv7, -, -, -, -⟩ := hb7.1.bs
        have hP7 := (hgr7.block P (lt_of_block hP6) (Ne.symm (hbuf6.1.other hP6 (by decide)))).trans hP6
        subst hv7
        clear hbuf6 hb36
        go_wp2_with fail
        iterate 2 (refine mix_calm rfl (fun K hK => ?_); go_simp; (refine hK _ ?_; clear hK K))
        refine mix_sync rfl rfl (fun w8 hw8 K hK => ?_)
        have hP8 := block_below hP7 hw8
        have hc8 := cell_of_one hP8
        have hf8 := free_of_one hP8
        have hst := StepsAt.store hP8 (hb7.later hw8) hBP
        have e7 : (o2 ++ [UInt8.ofNat n] ++ l3).length = o2.length + (l3.length + 1) := by simp
        rw [e7] at hst
        clear e7
        go_wp2_with fail
        refine mix_nil fun w9 hw9 => ?_
        have hst9 := hst.later hw9
        clear hst hc8 hf8 hP8 hw8 hgr7 hP6 hP7 hb7 hw6 hP5 hgr5 hb5 hP2 hg2 hw2 hw1 hld hP hbuf
        go_wp2_with fail
        go_roundw
        case rel => exact ⟨a4, cap4, l4, _, f, rfl, hb4, hc4, by omega, hn4, HL.out.1, HG.out, by have := HL.out; simp; omega, hst9⟩
        case measure => have := HL.out; show l4.length < l2.length; omega
theorem byte_int (p k : Nat) : ((p : Int) / 2 ^ (8 * k) % 256) = ((byteOf p k : Nat) : Int) := by
  unfold byteOf
  rw [Int.natCast_emod, Int.natCast_ediv, Int.natCast_pow]; rfl

theorem bitsOf_len (v bit n : Nat) : (bitsOf v bit n).2.length ≤ n := by
  induction n with
  | zero => simp [bitsOf]
  | succ n ih => rw [bitsOf_eq]; simp only [List.length_append, piece_len]; have := flag_le v n; omega

theorem bitsOf_bit (v bit n : Nat) : ∃ j, j < 2 ^ n ∧ (bitsOf v bit n).1 = bit * j := by
  induction n with
  | zero => exact ⟨0, by decide, by simp [bitsOf]⟩
  | succ n ih =>
    obtain ⟨j, h1, h2⟩ := ih
    refine ⟨j + flag v n * 2 ^ n, ?_, by rw [bitsOf_eq, h2, Nat.mul_add]⟩
    have := flag_le v n
    have h3 : flag v n * 2 ^ n ≤ 1 * 2 ^ n := Nat.mul_le_mul_right _ this
    rw [Nat.pow_succ]; omega

theorem or_place (p k : Nat) (hk : k < 4) : bits .or .u8 (128 + ((bitsOf p 1 k).1 : Int)) (2 ^ k % 256) = ((128 + ((bitsOf p 1 k).1 + 2 ^ k) : Nat) : Int) := by
  obtain ⟨m, hm, h⟩ := bitsOf_bit p 1 k
  rw [h, Nat.one_mul]
  have key : ∀ k < 4, ∀ m < 2 ^ k, (128 + m) ||| 2 ^ k = 128 + (m + 2 ^ k) := by decide
  have h1 : 2 ^ k ≤ 8 := Nat.pow_le_pow_right (by decide) (show k ≤ 3 by omega)
  have h2 : (2 : Int) ^ k = ((2 ^ k : Nat) : Int) := by simp
  have h3 := key k hk m hm
  rw [h2]
  generalize 2 ^ k = q at *
  rw [show ((q : Int) % 256) = (q : Int) from by omega, show (128 + (m : Int)) = ((128 + m : Nat) : Int) from by omega, (bits_nat .u8 8 (by decide) wraps_u8 (128 + m) q (by omega) (by omega)).2, h3]

theorem or_size (n k m : Nat) (hk : k < 2) (hm : m < 16) : bits .or .u8 (128 + (m : Int) + ((bitsOf n 16 k).1 : Int)) (16 * 2 ^ k % 256) = ((128 + m + ((bitsOf n 16 k).1 + 16 * 2 ^ k) : Nat) : Int) := by
  obtain ⟨j, hj, h⟩ := bitsOf_bit n 16 k
  rw [h]
  have key : ∀ k < 2, ∀ m < 16, ∀ j < 2 ^ k, (128 + m + 16 * j) ||| (16 * 2 ^ k) = 128 + m + (16 * j + 16 * 2 ^ k) := by decide
  have h1 : 2 ^ k ≤ 2 := Nat.pow_le_pow_right (by decide) (show k ≤ 1 by omega)
  have h2 : (2 : Int) ^ k = ((2 ^ k : Nat) : Int) := by simp
  have h3 := key k hk m hm j hj
  rw [h2]
  generalize 2 ^ k = q at *
  rw [show ((16 * (q : Int)) % 256) = ((16 * q : Nat) : Int) from by omega, show (128 + (m : Int) + ((16 * j : Nat) : Int)) = ((128 + m + 16 * j : Nat) : Int) from by omega, (bits_nat .u8 8 (by decide) wraps_u8 (128 + m + 16 * j) (16 * q) (by omega) (by omega)).2, h3]

set_option maxRecDepth 100000 in
set_option maxHeartbeats 1000000 in
theorem copy_any (B P : Nat) (w0 : World) (o : List UInt8) (place size : Nat) (w : World)
    (hs : StepsAt B w0 w P o) (hp : place + size ≤ 4294967295) (hroom : o.length + 7 * size ≤ 140737488355328) :
    Calls Try.prog 19 #[.pointer (some ⟨P, 0, none⟩), .int .i64 (place : Int), .int .i64 (size : Int)] w fun e w' => e = .returned (.tuple #[]) ∧ StepsAt B w0 w' P (o ++ copOf place size) := by
  go_enter Try.func19, Try.ntmps19
  go_wp2_with fail
  go_loopw [1, 2] (fun pp ss wr => ∃ (p s f : Nat) (o2 : List UInt8), pp = .int .i64 p ∧ ss = .int .i64 s ∧ p + s ≤ 4294967295 ∧ s ≤ f ∧ o2 ++ copF f p s = o ++ copOf place size ∧ o2.length + 7 * s ≤ 140737488355328 ∧ StepsAt B w0 wr P o2) (fun _ ss _ => (intOf ss).toNat)
  case atStart => exact ⟨place, size, size, o, rfl, rfl, hp, Nat.le_refl _, rfl, hroom, hs⟩
  case round =>
    obtain ⟨p, s, f, o2, rfl, rfl, hps, hf, hgo, hr2, hs2⟩ := hrel
    by_cases h0 : s = 0
    · subst h0
      have e : o2 = o ++ copOf place size := by rw [← hgo]; cases f with | zero => simp [copF] | succ f => simp [copF]
      have HE := Lib.hid e
      clear hgo e
      go_wp2_with fail
      go_end0
      exact ⟨rfl, by rw [← HE.out]; exact hs2⟩
    · cases f with
      | zero => omega
      | succ f =>
        rw [copF_succ f p s h0] at hgo
        obtain ⟨n, hn⟩ : ∃ n, n = min s 65536 := ⟨_, rfl⟩
        rw [← hn] at hgo
        have hmin : min (s : Int) 65536 = (n : Int) := by omega
        have h0' : decide (0 < s) = true := decide_eq_true (by omega)
        have hn1 : 1 ≤ n := by omega
        have hn2' : n ≤ 65536 := by omega
        have hn3 : n ≤ s := by omega
        have HG := Lib.hid hgo
        clear hgo h0 hn
        obtain ⟨v, hP, hbuf, hBP⟩ := hs2
        obtain ⟨wo, rfl⟩ : ∃ wo : World, wo = wr := ⟨_, rfl⟩
        go_wp2_with fail
        go_loopw [7, 8, 17] (fun c m i wi => ∃ k : Nat, k ≤ 4 ∧ i = .int .i64 k ∧ c = .int .u8 ((128 + (bitsOf p 1 k).1 : Nat) : Int) ∧ Buf wo.heap.size wo wi m (bitsOf p 1 k).2) (fun _ _ i _ => 4 - (intOf i).toNat)
        case atStart => exact ⟨0, by omega, rfl, rfl, .nil (Below.refl _ _) (Nat.le_refl _)⟩
        case round =>
          obtain ⟨k, hk, rfl, rfl, hm⟩ := hrel
          by_cases hk4 : k < 4
          · have hB := byte_int p k
            have hB2 := (bitsOf_eq p 1 k)
            have hy : byteOf p k < 256 := Nat.mod_lt _ (by decide)
            have hml : (bitsOf p 1 k).2.length ≤ 4 := by have := bitsOf_len p 1 k; omega
            unfold flag piece at hB2
            generalize byteOf p k = y at *
            by_cases hy0 : y = 0
            · subst hy0
              have HB2 := Lib.hid hB2
              clear hB2
              go_wp2_with fail
              go_roundw
              case rel => exact ⟨k + 1, by omega, by go_num, by rw [HB2.out]; simp, by rw [HB2.out]; simpa using hm⟩
              case measure => simp [intOf]; omega
            · have hy1 : ((y : Int) != 0) = true := neq0 y hy0
              rw [if_neg hy0, if_neg hy0] at hB2
              have HB2 := Lib.hid hB2
              clear hB2 hy0
              go_wp2_with (at_builtin; refine wpList_append_one rfl (.tmp 31) (.tmp 33) rfl u8 _ rfl hm y (UInt8.ofNat y) (by simp; omega) rfl (by omega) ?_; intro v5 w5 hb5 hgr5)
              have hor := or_place p k hk4
              rw [hor]
              go_roundw
              case rel => exact ⟨k + 1, by omega, by go_num, by rw [HB2.out, Nat.one_mul, Nat.one_mul], by rw [HB2.out]; exact hb5⟩
              case measure => simp [intOf]; omega
          · obtain rfl : k = 4 := by omega
            obtain ⟨m4, hm4, hm4'⟩ := bitsOf_bit p 1 4
            rw [Nat.one_mul] at hm4'
            have hl4 := bitsOf_len p 1 4
            obtain ⟨wa, rfl⟩ : ∃ wa : World, wa = wr := ⟨_, rfl⟩
            rw [show ((4 : Nat) : Int) = 4 from rfl]
            go_wp2_with fail
            go_loopw [7, 8, 36] (fun c m i wi => ∃ k : Nat, k ≤ 2 ∧ i = .int .i64 k ∧ c = .int .u8 ((128 + (bitsOf p 1 4).1 + (bitsOf n 16 k).1 : Nat) : Int) ∧ Buf wo.heap.size wo wi m ((bitsOf p 1 4).2 ++ (bitsOf n 16 k).2)) (fun _ _ i _ => 2 - (intOf i).toNat)
            case atStart => exact ⟨0, by omega, rfl, by simp [bitsOf], by simpa [bitsOf] using hm⟩
            case round =>
              clear hm
              obtain ⟨k, hk, rfl, rfl, hm⟩ := hrel
              have hl2 := bitsOf_len n 16 k
              by_cases hk2 : k < 2
              · have hB := byte_int n k
                have hB2 := (bitsOf_eq n 16 k)
                have hy : byteOf n k < 256 := Nat.mod_lt _ (by decide)
                unfold flag piece at hB2
                generalize byteOf n k = y at *
                by_cases hy0 : y = 0
                · subst hy0
                  have HB2 := Lib.hid hB2
                  clear hB2
                  go_wp2_with fail
                  go_roundw
                  case rel => exact ⟨k + 1, by omega, by go_num, by rw [HB2.out]; simp, by rw [HB2.out]; simpa using hm⟩
                  case measure => simp [intOf]; omega
                · have hy1 : ((y : Int) != 0) = true := neq0 y hy0
                  rw [if_neg hy0, if_neg hy0] at hB2
                  have HB2 := Lib.hid hB2
                  have HM4 := Lib.hid hm4'
                  clear hB2 hy0 hm4'
                  go_wp2_with (at_builtin; refine wpList_append_one rfl (.tmp 50) (.tmp 52) rfl u8 _ rfl hm y (UInt8.ofNat y) (by simp; omega) rfl (by simp; omega) ?_; intro v5 w5 hb5 hgr5)
                  have hor := or_size n k m4 hk2 (by omega)
                  rw [← HM4.out] at hor
                  rw [hor]
                  go_roundw
                  case rel => exact ⟨k + 1, by omega, by go_num, by rw [HB2.out, Nat.one_mul], by rw [HB2.out, ← List.append_assoc]; exact hb5⟩
                  case measure => simp [intOf]; omega
              · obtain rfl : k = 2 := by omega
                rw [show ((2 : Nat) : Int) = 2 from rfl]
                have hPr := block_below hP hm.2.1
                have hcr := cell_of_one hPr
                have hfr := free_of_one hPr
                have hbufr := hbuf.later hm.2.1
                have hlt : ∀ k, v.ownBlock = some k → k < wo.heap.size := fun k hk => (hbuf.1.lt k hk).2
                have hm1 : OwnB wr wo.heap.size u8 (copTail p n) := hm.1
                have hhd := copHead_lt p n
                have htl := (copTail_len p n).1
                rw [show 128 + (bitsOf p 1 4).1 + (bitsOf n 16 2).1 = copHead p n from rfl]
                have HG2 := Lib.hid (show o2 ++ [UInt8.ofNat (copHead p n)] ++ copTail p n ++ copF f (p + n) (s - n) = o ++ copOf place size by rw [← HG.out]; simp)
                clear hm hbuf hP hm4 hm4' hl4 hl2 HG
                generalize copHead p n = hd at *
                generalize copTail p n = tl at *
                obtain ⟨am, cm, hum, -, -, -, hnm⟩ := hm1.bs
                subst hum
                go_wp2_with (at_builtin; refine wpList_append_one rfl (.tmp 59) (.tmp 61) rfl v o2 rfl hbufr _ (UInt8.ofNat hd) (by simp; omega) rfl (by omega) ?_; intro v5 w5 hb5 hgr5; refine wpList_move rfl rfl ?_; refine wpList_append_buf rfl (.tmp 62) (.tmp 63) rfl v5 _ rfl hb5 am cm tl rfl ((hm1.apart hlt hgr5).bs_of) (fun e => (hnm e).2) (by simp; omega) ?_; intro v7 w7 hb7 hgr7; have hP5 := (hgr5.block P (lt_of_block hPr) (Ne.symm (hbufr.1.other hPr (by decide)))).trans hPr; have hP7 := (hgr7.block P (lt_of_block hP5) (Ne.symm (hb5.1.other hP5 (by decide)))).trans hP5; have hc7 := cell_of_one hP7; have hf7 := free_of_one hP7; obtain ⟨a7, cap7, hv7, _, _, _, _⟩ := hb7.1.bs; subst hv7; have hst := StepsAt.store hP7 hb7 hBP; rw [show (o2 ++ [UInt8.ofNat hd] ++ tl).length = o2.length + (tl.length + 1) from by simp] at hst)
                go_roundw
                case rel => exact ⟨p + n, s - n, f, _, by go_num, by go_num, by omega, by omega, HG2.out, by simp; omega, hst⟩
                case measure => simp [intOf]; omega
end Go.Proofs.Ytnppjhkhfjpkfaa
