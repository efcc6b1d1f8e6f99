/-
  The walk of (*bits).put of package deflate, and what calls it.
-/
import Derived.Test.YtaapnjhkflpiiaaOwn
import Derived.Test.YtaapnjhkflpiiaaBitsPure
namespace Go.Proofs.Ytaapnjhkflpiiaa
open Go.RowKit Go.Mix

/-- Block P is a struct of a slice of bytes and how many bits there are. -/
def BitsAt (S : Nat → Prop) (w0 w : World) (P : Nat) (bs : List Nat) : Prop := ∃ v, w.heap[P]? = some (.cells #[v, .int .i64 (bs.length : Int)] 79 (0, 0)) ∧ RowB S w0 w v (packB bs) ∧ ¬ S P

theorem two_cells {w : World} {P : Nat} {x y : Value} {t : TypeId} {fr : Nat × Nat} (h : w.heap[P]? = some (.cells #[x, y] t fr)) : w.cell? ⟨P, 0, none⟩ = some x ∧ w.cell? ⟨P, 1, none⟩ = some y := by
  simp [World.cell?, h]
theorem two_free {w : World} {P : Nat} {x y : Value} {t : TypeId} (h : w.heap[P]? = some (.cells #[x, y] t (0, 0))) (o : Nat) : w.frozen? ⟨P, o, none⟩ = false := by
  simp [World.frozen?, h]
theorem two_set {w : World} {P : Nat} {x y z : Value} {t : TypeId} {fr : Nat × Nat} (h : w.heap[P]? = some (.cells #[x, y] t fr)) :
    (w.setCell ⟨P, 0, none⟩ z).heap[P]? = some (.cells #[z, y] t fr) ∧ (w.setCell ⟨P, 1, none⟩ z).heap[P]? = some (.cells #[x, z] t fr) := by
  have hlt := lt_of_block h
  have h' : w.heap[P] = .cells #[x, y] t fr := by simpa [Array.getElem?_eq_getElem hlt] using h
  constructor
  · show (w.heap.modify P _)[P]? = _
    rw [Array.getElem?_eq_getElem (by simpa using hlt), Array.getElem_modify_self, h']; rfl
  · show (w.heap.modify P _)[P]? = _
    rw [Array.getElem?_eq_getElem (by simpa using hlt), Array.getElem_modify_self, h']; rfl

theorem ofNat_toNat_lt (n : Nat) (h : n < 256) : (UInt8.ofNat n).toNat = n := by simp; omega

theorem put_bits (x r y : Nat) (h : y ||| x * 2 ^ r = y + x * 2 ^ r) (hlt : y + x * 2 ^ r < 256) :
    bits .or .u8 (y : Int) (IntKind.u8.wrap (IntKind.i64.wrap ((x : Int) * 2 ^ r))) = ((y + x * 2 ^ r : Nat) : Int) := by
  have e : (x : Int) * 2 ^ r = ((x * 2 ^ r : Nat) : Int) := by rw [Int.natCast_mul, Int.natCast_pow]; rfl
  rw [e]
  have e1 : IntKind.i64.wrap ((x * 2 ^ r : Nat) : Int) = ((x * 2 ^ r : Nat) : Int) := IntWalk.i64_in _ (by omega)
  have e2 : IntKind.u8.wrap ((x * 2 ^ r : Nat) : Int) = ((x * 2 ^ r : Nat) : Int) := by rw [IntKind.wrap_u8]; omega
  rw [e1, e2, u8_or_nat _ _ (by omega) (by omega), h]

set_option maxRecDepth 100000 in
set_option maxHeartbeats 1000000 in
theorem put_any (S : Nat → Prop) (P : Nat) (w0 : World) (bs : List Nat) (x : Nat) (xi : Int) (w : World) (hxi : xi = (x : Int)) (hx : x < 2) (hbs : IsBits bs) (hs : BitsAt S w0 w P bs) (hroom : bs.length ≤ 1000000000) :
    Calls Try.prog 67 #[.pointer (some ⟨P, 0, none⟩), .int .i64 xi] w fun e w' => e = .returned (.tuple #[]) ∧ BitsAt S w0 w' P (bs ++ [x]) := by
  subst hxi
  obtain ⟨v, hP, hbuf, hSP⟩ := hs
  obtain ⟨c0, c1⟩ := two_cells hP
  have f0 := two_free hP
  obtain ⟨p1, p2, p3, p4⟩ := packB_snoc bs hbs x hx
  have hpl := packB_len bs
  have hrl := roomB_len bs
  have PURE := Lib.hid (And.intro p1 (And.intro p2 (And.intro p3 p4)))
  have HRL := Lib.hid hrl
  clear p1 p2 p3 p4 hrl
  by_cases h8 : bs.length % 8 = 0
  all_goals
    first | (have ht : ((bs.length : Int) % 8 == 0) = true := by simp; omega) | (have ht : ((bs.length : Int) % 8 == 0) = false := by simp; omega)
    go_enter Try.func67, Try.ntmps67
    go_wp2_with (at_builtin; refine wpList_append_n rfl (.tmp 14) (.tmp 15) rfl v _ rfl hbuf _ [0] rfl 1 1 rfl rfl (by simp; omega) ?_; intro v5 w5 hb5 hgr5; have hP5 := (hgr5.block P (lt_of_block hP) (Ne.symm (hbuf.other hP (by decide)))).trans hP; obtain ⟨a5, k5, hv5, -, -, -, -⟩ := hb5.slice; obtain ⟨n5, hn5⟩ : ∃ n5, n5 = (bcells (packB bs ++ [0])).length := ⟨_, rfl⟩; rw [← hn5] at hv5; subst hv5; clear hn5; obtain ⟨c05, c15⟩ := two_cells hP5; have f5 := two_free hP5)
    first
      | (obtain ⟨wx, hwx⟩ : ∃ wx, wx = w5.setCell ⟨P, 0, none⟩ (.slice a5 n5 k5) := ⟨_, rfl⟩
         have hPx := (two_set hP5 (z := .slice a5 n5 k5)).1
         have hbx := hb5.set_other (p := ⟨P, 0, none⟩) (hb5.other hP5 (by decide)) hSP (.slice a5 n5 k5)
         have hrm : roomB bs = packB bs ++ [0] := by unfold roomB; rw [if_pos h8]
         rw [← hrm] at hbx
         rw [← hwx] at hPx hbx ⊢
         obtain ⟨vx, hvx⟩ : ∃ vx, vx = Value.slice a5 n5 k5 := ⟨_, rfl⟩
         rw [← hvx] at hPx hbx
         clear hwx hvx hb5 hgr5 hP5 c05 c15 f5)
      | (obtain ⟨wx, rfl⟩ : ∃ wx, wx = w := ⟨_, rfl⟩
         have hPx := hP
         have hrm : roomB bs = packB bs := by unfold roomB; rw [if_neg h8]
         have hbx := hbuf
         rw [← hrm] at hbx
         obtain ⟨vx, hvx⟩ : ∃ vx, vx = v := ⟨_, rfl⟩
         rw [← hvx] at hPx hbx
         clear hvx)
    clear hP hbuf c0 c1 f0 hrm h8 ht
    obtain ⟨g, cap, rfl, hSg⟩ := hbx.block (by intro e; have := congrArg List.length e; rw [bcells_length, HRL.out] at this; simp at this)
    rw [bcells_length] at hbx hPx
    have hk : bs.length / 8 < (roomB bs).length := by rw [HRL.out]; omega
    have hsl := hbx.sl_of.2
    obtain ⟨IK, -⟩ := hsl.at ((bs.length / 8 : Nat) : Int) (bs.length / 8) rfl hk
    have hel : ∀ y : Later wx, y.1.cell? (elt (some ⟨g, 0, none⟩) (bs.length / 8)) = some (.int .u8 (byteB bs (bs.length / 8) (bs.length % 8) : Nat)) := fun y => by
      have h1 := ((hsl.below y.2).at ((bs.length / 8 : Nat) : Int) (bs.length / 8) rfl hk).2
      have h2 := PURE.out.2.1
      rw [List.getD_eq_getElem?_getD, List.getElem?_eq_getElem hk] at h2
      simp only [Option.getD_some] at h2
      rw [h1, h2]
    have hcc : ∀ y : Later wx, y.1.cell? ⟨P, 0, none⟩ = some (.slice (some ⟨g, 0, none⟩) (roomB bs).length cap) ∧ y.1.cell? ⟨P, 1, none⟩ = some (.int .i64 (bs.length : Int)) := fun y => two_cells (block_below hPx y.2)
    have hc0 := fun y => (hcc y).1
    have hc1 := fun y => (hcc y).2
    clear hcc
    have hq := Nat.div_add_mod bs.length 8
    have hr8 : bs.length % 8 < 8 := Nat.mod_lt _ (by decide)
    have w1 : IntKind.i64.wrap ((bs.length : Int) / 8) = ((bs.length / 8 : Nat) : Int) := IntWalk.i64_in _ (by omega)
    have w2 : (bs.length : Int).tmod 8 = ((bs.length % 8 : Nat) : Int) := Int.tmod_eq_emod_of_nonneg (by omega)
    have HQ := Lib.hid hq
    clear hq
    generalize bs.length / 8 = q at *
    generalize bs.length % 8 = r at *
    generalize byteB bs q r = y at *
    refine wp_region_mix [(0, 0), (1, 0), (2, 0), (3, 0), (4, 0), (5, 0), (6, 0), (7, 0), (8, 0), (9, 0), (10, 0), (11, 0), (12, 0), (13, 0), (14, 0), (15, 0), (16, 0), (17, 0), (18, 0), (19, 0), (20, 0), (21, 2)] (by kernel_rfl) (by kernel_rfl) ?_
    iterate 21 (refine mix_calm rfl (fun K hK => ?_); go_simp; (refine hK _ ?_; clear hK K))
    obtain ⟨p1, p2, p3, p4⟩ := PURE.out
    rw [put_bits x r y p3 p4, elt_own]
    refine mix_sync rfl rfl (fun w8 hw8 K hK => ?_)
    have hb8 := hbx.later hw8
    have hP8 := block_below hPx hw8
    have hfz := hb8.free q
    have hce : w8.cell? ⟨g, q, none⟩ = some (.int .u8 (y : Int)) := by rw [← elt_own]; exact hel ⟨w8, hw8⟩
    obtain ⟨hb9, hg9⟩ := hb8.storedB q (UInt8.ofNat (y + x * 2 ^ r)) ((y + x * 2 ^ r : Nat) : Int) (by rw [ofNat_toNat_lt _ p4])
    rw [← p1] at hb9
    have hP9 := (hg9.block P (lt_of_block hP8) (Ne.symm (hb8.other hP8 (by decide)))).trans hP8
    have PURE2 := Lib.hid (And.intro p1 (And.intro p2 (And.intro p3 p4)))
    clear p1 p2 p3 p4 hg9 hsl IK hel hc0 hc1 w1 w2 hb8 hP8 hPx hbx
    go_wp2_with fail
    refine mix_nil fun w10 hw10 => ?_
    clear hce hfz
    have hb10 := hb9.later hw10
    have hP10 := block_below hP9 hw10
    clear hw10 hb9 hP9
    obtain ⟨d0, d1⟩ := two_cells hP10
    have f10 := two_free hP10
    have hP11 := (two_set hP10 (z := .int .i64 ((bs.length : Int) + 1))).2
    have hb11 := hb10.set_other (p := ⟨P, 1, none⟩) (hb10.other hP10 (by decide)) hSP (.int .i64 ((bs.length : Int) + 1))
    clear hb10
    go_wp2_with fail
    go_end0
    exact ⟨rfl, _, by rw [List.length_append]; exact hP11, hb11, hSP⟩

end Go.Proofs.Ytaapnjhkflpiiaa
