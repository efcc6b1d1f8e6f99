/-
  manifest.Find: the walk.
-/
import Derived.Test.YtifoledkmjlmoaaDoorBy18
import Derived.Test.YtifoledkmjlmoaaDoorRes
namespace Go.Proofs.YtifoledkmjlmoaaDoor
open Go.RowKit Go.Mix Go.WideMaps

/-- Where a path is found first. -/
def FirstP (l : List MFile) (x : List UInt8) (k : Nat) : Option Nat → Prop
  | none => ∀ j, k ≤ j → j < l.length → l[j]!.path ≠ x
  | some i => k ≤ i ∧ i < l.length ∧ l[i]!.path = x ∧ ∀ j, k ≤ j → j < i → l[j]!.path ≠ x
theorem FirstP.uniq {l : List MFile} {x : List UInt8} {k : Nat} {o p : Option Nat} (h : FirstP l x k o) (g : FirstP l x k p) : o = p := by
  cases o with
  | none =>
    cases p with
    | none => rfl
    | some j => exact absurd g.2.2.1 (h j g.1 g.2.1)
  | some i =>
    cases p with
    | none => exact absurd h.2.2.1 (g i h.1 h.2.1)
    | some j =>
      rcases Nat.lt_trichotomy i j with e | e | e
      · exact absurd h.2.2.1 (g.2.2.2 i h.1 e)
      · rw [e]
      · exact absurd g.2.2.1 (h.2.2.2 j g.1 e)
def atI : Option Nat → Int
  | none => -1
  | some i => (i : Int)
def okO : Option Nat → Bool
  | none => false
  | some _ => true
def fileO (l : List MFile) : Option Nat → MFile
  | none => mf0
  | some i => l[i]!

set_option maxRecDepth 100000 in
set_option maxHeartbeats 2000000 in
theorem findFn_any (p : MFile) (x : List UInt8) (B : Addr) (w : World) (hB : w.cell? B = some (.string (strOf x))) :
    Calls Tryd.prog 37 #[.agg (recA encM p), .pointer (some B)] w fun e w' => e = .returned (.bool (decide (p.path = x))) ∧ Below w.heap.size w w' := by
  have EQ : ((strOf p.path).toList == (strOf x).toList) = decide (p.path = x) := by rw [strOf_eq, strOf_list]
  obtain ⟨w1, hw1⟩ : ∃ w1, w1 = w.alloc (.cells (recA encM p) 46) := ⟨_, rfl⟩
  have hb1 : Below w.heap.size w w1 := by rw [hw1]; exact (Below.refl _ _).alloc (Nat.le_refl _) _
  have hr : w1.rangeAt w.heap.size 0 (encM p) := by
    rw [hw1]
    intro i v hi
    rw [cell_of_row _ _ _ _ _ _ (heap_alloc_last _ _ _ rfl)]
    simpa [recA] using hi
  obtain ⟨f0, -, -⟩ := mf_fields hr
  have fB := (hb1.cell (lt_of_cell hB)).trans hB
  have H1 := Lib.hid hb1
  clear hr hb1 hB
  generalize strOf p.path = T1 at *
  generalize strOf x = T2 at *
  generalize decide (p.path = x) = d at *
  go_enter Tryd.func37, Tryd.ntmps37
  go_upto_region 1 with (fail)
  rw [← hw1]
  clear hw1
  go_wp2_with fail
  go_ret
  exact ⟨rfl, H1.out⟩

abbrev findV (B : Addr) : Value := .func (.func 37) #[] #[.pointer (some B)]
set_option maxRecDepth 100000 in
set_option maxHeartbeats 2000000 in
theorem idxFind_any {w : World} {l : List MFile} {a : Option Addr} {n cap : Nat} (hg : RsAt encM 22 w a cap l) (hn : n = l.length) (hl : n ≤ 1000000) (x : List UInt8) (B : Addr) (hB : w.cell? B = some (.string (strOf x))) :
    Calls Tryd.prog 36 #[.slice a n cap, findV B] w fun e w' => ∃ o, e = .returned (.int .i64 (atI o)) ∧ FirstP l x 0 o ∧ Below w.heap.size w w' := by
  have HG := Lib.hid (And.intro hg (And.intro hn hB))
  clear hg hn hB
  have hF0 := Below.refl w.heap.size w
  go_enter Tryd.func36, Tryd.ntmps36
  go_wp2_with fail
  go_loopw [8] (fun s8 wr => ∃ i : Nat, s8 = .int .i64 (i : Int) ∧ i ≤ n ∧ (∀ j, j < i → l[j]!.path ≠ x) ∧ Below w.heap.size w wr) (fun s8 _ => n - (intOf s8).toNat)
  case atStart => exact ⟨0, rfl, Nat.zero_le _, (fun j hj => by omega), hF0⟩
  case round =>
    obtain ⟨i, rfl, hi, hno, hb⟩ := hrel
    have HNO := Lib.hid hno
    have HB := Lib.hid hb
    clear hno
    by_cases hin : i < n
    · have t1 : decide ((i : Int) < (n : Int)) = true := decide_eq_true (by omega)
      have t1' : decide (i < n) = true := decide_eq_true hin
      have hil : i < l.length := by rw [← HG.out.2.1]; exact hin
      obtain ⟨b, q, IX, -, L⟩ := (HG.out.1.below hb).at tyM (i : Int) i rfl hil
      rw [← HG.out.2.1] at IX
      have L0 := L wr (Below.refl _ _)
      obtain ⟨p, hp⟩ : ∃ p, p = l[i]! := ⟨_, rfl⟩
      rw [← hp] at L0
      have CB := findFn_any p x B wr ((hb.cell (lt_of_cell HG.out.2.2)).trans HG.out.2.2)
      obtain ⟨d, hd⟩ : ∃ d, d = decide (p.path = x) := ⟨_, rfl⟩
      rw [← hd] at CB
      have HS := Lib.hid (And.intro hp (And.intro hd hil))
      clear L hp hd hil hb
      cases d
      · go_wp2_with (first | (refine wpList_load_at rfl _ _ rfl _ _ rfl L0 ?_) | (refine Calls.mono CB ?_; rintro e5 w5 ⟨rfl, hb5⟩; have H5 := Lib.hid (HB.out.trans (hb5.mono HB.out.size)); clear hb5))
        go_roundw
        case rel =>
          refine ⟨i + 1, by go_num, by omega, fun j hj => ?_, H5.out⟩
          by_cases hji : j < i
          · exact HNO.out j hji
          · obtain rfl : j = i := by omega
            rw [← HS.out.1]
            exact of_decide_eq_false HS.out.2.1.symm
        case measure => simp [intOf]; omega
      · go_wp2_with (first | (refine wpList_load_at rfl _ _ rfl _ _ rfl L0 ?_) | (refine Calls.mono CB ?_; rintro e5 w5 ⟨rfl, hb5⟩; have H5 := Lib.hid (HB.out.trans (hb5.mono HB.out.size)); clear hb5))
        go_ret
        exact ⟨some i, rfl, ⟨Nat.zero_le _, HS.out.2.2, by rw [← HS.out.1]; exact of_decide_eq_true HS.out.2.1.symm, fun j _ hj => HNO.out j hj⟩, H5.out⟩
    · obtain rfl : i = n := by omega
      have t1 : decide ((i : Int) < (i : Int)) = false := decide_eq_false (by omega)
      have t1' : decide (i < i) = false := decide_eq_false (by omega)
      go_wp2_with fail
      go_ret
      exact ⟨none, rfl, (fun j _ hj => HNO.out j (by rw [HG.out.2.1]; exact hj)), HB.out⟩

set_option maxRecDepth 100000 in
set_option maxHeartbeats 2000000 in
theorem find_any {w : World} {l : List MFile} {a : Option Addr} {n cap : Nat} (hg : RsAt encM 22 w a cap l) (hn : n = l.length) (hl : n ≤ 1000000) (x : List UInt8) :
    Calls Tryd.prog 19 #[.slice a n cap, .string (strOf x)] w fun e w' => ∃ o, e = .returned (.tuple #[.agg (recA encM (fileO l o)), .bool (okO o)]) ∧ FirstP l x 0 o ∧ Below w.heap.size w w' := by
  obtain ⟨Z, hZ⟩ : ∃ Z, Z = recA encM mf0 := ⟨_, rfl⟩
  have z : ∀ w, (zeroValue 46).run Tryd.prog w = .ok (.agg Z) w := fun w => by rw [hZ]; kernel_rfl
  have B0 := fun W : World => buildM0 W
  have HZ := Lib.hid hZ
  have HG := Lib.hid (And.intro hg hn)
  have zi : ∀ f : MFile, (Tryd.prog.info? 46).map (·.size) = some (recA encM f).size := fun f => by rw [show (recA encM f).size = 22 by simp [recA, encM_len]]; exact tyM.ie
  have hzs : Z.size = 22 := by rw [hZ]; simp [recA, encM_len]
  clear hg hn hZ
  obtain ⟨S, hS⟩ : ∃ S, S = strOf x := ⟨_, rfl⟩
  rw [← hS]
  obtain ⟨w2, hw2⟩ : ∃ w2, w2 = (w.alloc (.cells #[.string S] 9)).alloc (.cells Z 46) := ⟨_, rfl⟩
  have hb1 : Below w.heap.size w (w.alloc (.cells #[.string S] 9)) := (Below.refl _ _).alloc (Nat.le_refl _) _
  have hb2 : Below w.heap.size w w2 := by rw [hw2]; exact hb1.alloc hb1.size _
  have fB : w2.cell? ⟨w.heap.size, 0, none⟩ = some (.string S) := by
    rw [hw2, (Below.refl (w.alloc (.cells #[.string S] 9)).heap.size _ |>.alloc (Nat.le_refl _) _).cell (by simp), cell_of_row _ _ _ _ _ _ (heap_alloc_last _ _ _ rfl)]
    rfl
  have fZ : w2.heap[(w.alloc (.cells #[.string S] 9)).heap.size]? = some (.cells Z 46 (0, 0)) := by rw [hw2]; exact heap_alloc_last _ _ _ rfl
  have hR1 : (w.alloc (.cells #[.string S] 9)).heap.size = w.heap.size + 1 := by simp
  rw [hR1] at fZ
  have CI := idxFind_any (HG.out.1.below hb2) HG.out.2 hl x ⟨w.heap.size, 0, none⟩ (by rw [fB, hS])
  have H2 := Lib.hid (And.intro hb2 fZ)
  have HSX := Lib.hid hS
  clear hb1 hb2 fB fZ hS hR1
  go_enter Tryd.func19, Tryd.ntmps19
  go_upto_region 1 with (fail)
  rw [← hw2]
  clear hw2
  go_wp2_with fail
  refine CI.mono ?_
  clear CI
  rintro e w3 ⟨o, rfl, hfo, hb3⟩
  have fZ3 := (hb3.block _ (lt_of_block H2.out.2)).trans H2.out.2
  have H3 := Lib.hid (And.intro (H2.out.1.trans (hb3.mono H2.out.1.size)) hfo)
  clear hb3 hfo
  cases o with
  | none =>
    have ea : atI none = -1 := rfl
    rw [ea]
    go_wp2_with (first | (refine wpList_build_at rfl _ _ rfl [] _ rfl (B0 _) ?_) | (refine wpList_store_bxm rfl _ _ rfl w H3.out.1 (w.heap.size + 1) mf0 rfl rfl (by omega) Z fZ3 hzs ?_; intro w5 hb5; have H5 := Lib.hid hb5; clear hb5))
    refine bodyPost_ret (results_cell_tmp rfl _ _ (w.heap.size + 1) 46 (recA encM mf0) (0, 0) _ rfl H5.out.blk Tryd.underlying46 rfl (zi mf0)) rfl ?_
    exact ⟨none, rfl, H3.out.2, H5.out.frame⟩
  | some i =>
    have ea : atI (some i) = (i : Int) := rfl
    rw [ea]
    have hil : i < l.length := H3.out.2.2.1
    obtain ⟨b, q, IX, -, L⟩ := (HG.out.1.below H3.out.1).at tyM (i : Int) i rfl hil
    rw [← HG.out.2] at IX
    have L0 := L w3 (Below.refl _ _)
    obtain ⟨p, hp⟩ : ∃ p, p = l[i]! := ⟨_, rfl⟩
    have HP := Lib.hid hp
    rw [← hp] at L0
    clear L hp hil B0
    go_wp2_with (first | (refine wpList_load_at rfl _ _ rfl _ _ rfl L0 ?_) | (refine wpList_store_bxm rfl _ _ rfl w H3.out.1 (w.heap.size + 1) p rfl rfl (by omega) Z fZ3 hzs ?_; intro w5 hb5; have H5 := Lib.hid hb5; clear hb5))
    refine bodyPost_ret (results_cell_tmp rfl _ _ (w.heap.size + 1) 46 (recA encM p) (0, 0) _ rfl H5.out.blk Tryd.underlying46 rfl (zi p)) rfl ?_
    exact ⟨some i, by rw [HP.out]; rfl, H3.out.2, H5.out.frame⟩
end Go.Proofs.YtifoledkmjlmoaaDoor
