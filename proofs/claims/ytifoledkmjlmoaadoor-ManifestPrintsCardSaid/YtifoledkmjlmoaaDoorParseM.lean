/-
  manifest.Parse: the walk.
-/
import Derived.Test.YtifoledkmjlmoaaDoorReadM
import Derived.Test.YtifoledkmjlmoaaDoorRightM
import Derived.Test.YtifoledkmjlmoaaDoorSl18
namespace Go.Proofs.YtifoledkmjlmoaaDoor
open Go.RowKit Go.Mix Go.WideMaps

/-- The world with its first blocks alone. -/
def cutW (w : World) (k : Nat) : World := { w with heap := w.heap.extract 0 k }
theorem cutW_size {w : World} {k : Nat} (h : k ≤ w.heap.size) : (cutW w k).heap.size = k := by
  show (w.heap.extract 0 k).size = k
  rw [Array.size_extract]; omega
theorem cutW_below {w : World} {k : Nat} (h : k ≤ w.heap.size) : Below k (cutW w k) w := by
  refine ⟨rfl, rfl, rfl, by rw [cutW_size h]; exact h, fun j hj => ?_⟩
  show w.heap[j]? = (w.heap.extract 0 k)[j]?
  rw [Array.getElem?_extract_of_lt (by omega)]
  simp
def boxLen (w : World) (B : Nat) : Nat := match w.heap[B]? with
  | some (.cells c _ _) => match c[0]?.getD (.bool false) with
    | .string s => s.size
    | _ => 0
  | _ => 0
/-- Between two rounds of Parse's loop: the text's box, the files' list. -/
structure ParM (w : World) (B : Nat) (s : List UInt8) (v : Value) (pre : List MFile) (x : World) : Prop where
  box : x.heap[B]? = some (.cells #[.string (strOf s)] 9 (0, 0))
  own : x.ownsRow (B + 1) 46 22 v pre.length (flatR encM pre)
  bel : Below w.heap.size w x
theorem ParM.later {w x y : World} {B : Nat} {s : List UInt8} {v : Value} {pre : List MFile} (h : ParM w B s v pre x) (g : Below x.heap.size x y) : ParM w B s v pre y :=
  ⟨blockR_below h.box g, h.own.kept (row := none) ⟨g.os, g.tape, g.output, g.size, fun k hk _ => g.block k hk⟩ (by cases v.ownBlock <;> simp), h.bel.trans (g.mono h.bel.size)⟩
theorem ParM.next {w x y : World} {B : Nat} {s r : List UInt8} {v : Value} {pre : List MFile} (h : ParM w B s v pre x) (hB : w.heap.size ≤ B) (g : x.grownBy y (some B)) (hb : y.heap[B]? = some (.cells #[.string (strOf r)] 9 (0, 0))) : ParM w B r v pre y :=
  ⟨hb, h.own.kept g (.inr fun e => by have := (h.own.lt _ e).1; omega), h.bel.grown g h.bel.size (fun k e => by cases e; exact hB)⟩
theorem ParM.owner {w x : World} {B : Nat} {s : List UInt8} {v : Value} {pre : List MFile} (h : ParM w B s v pre x) : OwnR encM 22 46 (cutW x (B + 1)) x v pre := by
  have hk : B + 1 ≤ x.heap.size := lt_of_block h.box
  exact ⟨by rw [cutW_size hk]; exact h.own, by rw [cutW_size hk]; exact cutW_below hk⟩
theorem ParM.back {w x y : World} {B : Nat} {s : List UInt8} {v v' : Value} {pre l : List MFile} (h : ParM w B s v pre x) (hB : w.heap.size ≤ B) (ho : OwnR encM 22 46 (cutW x (B + 1)) y v' l) (g : x.grownBy y v.ownBlock) : ParM w B s v' l y := by
  have hk : B + 1 ≤ x.heap.size := lt_of_block h.box
  have h1 := ho.own
  rw [cutW_size hk] at h1
  have hlt : ∀ k, v.ownBlock = some k → B + 1 ≤ k := fun k e => (h.own.lt k e).1
  refine ⟨by rw [g.block B hk (fun e => by have := hlt _ e.symm; omega)]; exact h.box, h1, h.bel.grown g h.bel.size (fun k e => by have := hlt _ e; omega)⟩
theorem ParM.full {w x : World} {B : Nat} {s : List UInt8} {v : Value} {pre : List MFile} (h : ParM w B s v pre x) (hB : w.heap.size ≤ B) : OwnR encM 22 46 w x v pre :=
  ⟨⟨h.own.1, h.own.2.imp id fun ⟨g, c, cur, h1, h2, h3⟩ => ⟨g, c, cur, h1, by omega, h3⟩⟩, h.bel⟩

set_option maxRecDepth 100000 in
set_option maxHeartbeats 4000000 in
theorem parse_any {w : World} {b : List UInt8} {a : Option Addr} {cap : Nat} (hg : Sl w a cap b) (hlen : b.length ≤ 100000) :
    Calls Tryd.prog 15 #[.slice a b.length cap] w fun e w' =>
      (∃ l, readM b.length b = some l ∧ RightM l ∧ ∃ v, e = .returned (.tuple #[v, .int .i64 0]) ∧ OwnR encM 22 46 w w' v l) ∨
      ((readM b.length b = none ∨ ∃ l, readM b.length b = some l ∧ ¬ RightM l) ∧ e = .returned (.tuple #[.slice none 0 0, .int .i64 4]) ∧ Below w.heap.size w w') := by
  have ST := hg.str
  change (convert 26 9 (.slice a b.length cap)).run Tryd.prog w = .ok (.string (strOf b)) w at ST
  obtain ⟨Z, hZ⟩ : ∃ Z, Z = recA encM mf0 := ⟨_, rfl⟩
  have z : ∀ w, (zeroValue 46).run Tryd.prog w = .ok (.agg Z) w := fun w => by rw [hZ]; kernel_rfl
  have HZ := Lib.hid hZ
  obtain ⟨n, hn⟩ : ∃ n, n = b.length := ⟨_, rfl⟩
  have HN := Lib.hid (And.intro hn hlen)
  have hP0 : ParM w w.heap.size b (.slice none 0 0) [] (w.alloc (.cells #[.string (strOf b)] 9)) := ⟨heap_alloc_last _ _ _ rfl, World.ownsRow_nil _ _ _ _, (Below.refl _ _).alloc (Nat.le_refl _) _⟩
  have HP0 := Lib.hid hP0
  rw [← hn] at ST ⊢
  clear hZ hn hlen hP0 hg
  obtain ⟨B, hB⟩ : ∃ B, B = w.heap.size := ⟨_, rfl⟩
  have HB := Lib.hid hB
  obtain ⟨T, hT⟩ : ∃ T, T = strOf b := ⟨_, rfl⟩
  rw [← hT] at ST
  have HT := Lib.hid hT
  clear hT hB
  go_enter Tryd.func15, Tryd.ntmps15
  go_wp2_with fail
  have hP0 := HP0.out
  rw [← HT.out, ← HB.out] at hP0
  rw [← HB.out]
  generalize w.alloc (.cells #[.string T] 9) = w1 at *
  have HP1 := Lib.hid hP0
  clear hP0 HP0 ST
  have HBW := Lib.hid (show w.heap.size ≤ B by rw [HB.out]; exact Nat.le_refl _)
  go_loopw [6] (fun s6 wr => ∃ (pre : List MFile) (s : List UInt8), ParM w B s s6 pre wr ∧ pre.length + s.length ≤ n ∧ (∀ p ∈ pre, p.path.length ≤ n ∧ p.flag.length ≤ n) ∧ readM b.length b = (readM s.length s).map (pre ++ ·)) (fun _ wr => boxLen wr B)
  case atStart => exact ⟨[], b, HP1.out, by rw [HN.out.1]; simp, fun _ h => (by simp at h), by simp⟩
  case round =>
    obtain ⟨pre, s, hp, hl, hnm, hread⟩ := hrel
    obtain ⟨wo, hwo⟩ : ∃ wo : World, wo = wr := ⟨_, rfl⟩
    have hbl : boxLen wr B = s.length := by
      unfold boxLen
      rw [hp.box]
      exact strOf_size s
    have c0 : wr.cell? ⟨B, 0, none⟩ = some (.string (strOf s)) := by rw [cell_of_row _ _ _ _ _ _ hp.box]; rfl
    have HP := Lib.hid (And.intro hp (And.intro hl (And.intro hnm (And.intro hread hbl))))
    have hsn : s.length ≤ 1000000 := by have := HN.out.2; rw [← HN.out.1] at this; omega
    have CN := next_any s hsn wr B hp.box
    clear hp hl hnm hread hbl hwo hsn
    by_cases h0 : s = []
    · have E0 : (strOf s).toList.isEmpty = true := by rw [h0, ByteArray.toList_eq]; rfl
      have hread : readM b.length b = some pre := by rw [HP.out.2.2.2.1, h0]; simp [readM]
      obtain ⟨ad, c, rfl, hrs, -⟩ := HP.out.1.owner.rs tyM
      have CR := right_any hrs (by have := HN.out; have := HP.out.2.1; omega) (fun p hp => by have := HN.out; have := HP.out.2.2.1 p hp; omega)
      have HRD := Lib.hid hread
      clear hread hrs h0 CN
      generalize strOf s = S at *
      obtain ⟨m, hm⟩ : ∃ m, m = pre.length := ⟨_, rfl⟩
      have HM := Lib.hid hm
      rw [← hm] at CR ⊢
      clear hm
      go_wp2_with fail
      refine CR.mono ?_
      rintro e w9 ⟨rb, rfl, hrb, hw9⟩
      have H9 := Lib.hid (And.intro hrb hw9)
      clear CR hrb hw9 c0
      cases rb
      · go_wp2_with fail
        go_ret2
        refine .inr ⟨.inr ⟨pre, by rw [HN.out.1]; exact HRD.out, fun h => by have := H9.out.1.2 h; cases this⟩, rfl, HP.out.1.bel.trans (H9.out.2.mono HP.out.1.bel.size)⟩
      · go_wp2_with fail
        go_ret2
        exact .inl ⟨pre, by rw [HN.out.1]; exact HRD.out, H9.out.1.1 trivial, _, rfl, by rw [HM.out]; exact (HP.out.1.full HBW.out).later H9.out.2⟩
    · have E0 : (strOf s).toList.isEmpty = false := by
        rw [ByteArray.toList_eq]
        cases s with
        | nil => exact absurd rfl h0
        | cons => rfl
      have HS0 := Lib.hid h0
      clear h0
      obtain ⟨S, hS⟩ : ∃ S, S = strOf s := ⟨_, rfl⟩
      rw [← hS] at c0 E0
      clear hS
      have zs : ∀ f : MFile, Z.size = (recA encM f).size := fun f => by rw [HZ.out]; simp [recA, encM_len]
      have zi : ∀ f : MFile, (Tryd.prog.info? 46).map (·.size) = some (recA encM f).size := fun f => by rw [show (recA encM f).size = 22 by simp [recA, encM_len]]; exact tyM.ie
      have z1 : ∀ f : MFile, (recA encM f).all (·.oneCell') = true := fun f => all_oneCell_toArray (encM_one _)
      have HZZ := Lib.hid (And.intro zs (And.intro zi z1))
      clear zs zi z1
      go_wp2_with fail
      with_reducible refine Calls.mono CN ?_
      rintro e w2 hpost
      obtain ⟨f, ok, r, hv, hpo⟩ : ∃ (f : MFile) (ok : Bool) (r : List UInt8), e = .returned (.tuple #[.agg (recA encM f), .bool ok]) ∧ (w2.heap[B]? = some (.cells #[.string (strOf r)] 9 (0, 0)) ∧ wr.grownBy w2 (some B) ∧ ((ok = true ∧ stepP s = some (f, r)) ∨ (ok = false ∧ stepP s = none))) := by
        obtain ⟨r, h1, h2, h3⟩ := hpost
        rcases h3 with ⟨f, h4, h5⟩ | ⟨h4, h5⟩
        · exact ⟨f, true, r, h5, h1, h2, .inl ⟨rfl, h4⟩⟩
        · exact ⟨mf0, false, r, h5, h1, h2, .inr ⟨rfl, h4⟩⟩
      subst hv
      have hp2 := HP.out.1.next HBW.out hpo.2.1 hpo.1
      have H2 := Lib.hid (And.intro hp2 hpo.2.2)
      clear hpost hpo hp2 CN c0 E0
      have hzb : (w2.alloc (.cells Z 46)).heap[w2.heap.size]? = some (.cells Z 46 (0, 0)) := heap_alloc_last _ _ _ rfl
      have gA : Below w2.heap.size w2 ((w2.alloc (.cells Z 46)).setRow w2.heap.size (recA encM f)) := below_setRow ((Below.refl _ _).alloc (Nat.le_refl _) _) (Nat.le_refl _) _
      have hbx : ((w2.alloc (.cells Z 46)).setRow w2.heap.size (recA encM f)).heap[w2.heap.size]? = some (.cells (recA encM f) 46 (0, 0)) := setRow_heap _ _ _ _ _ _ hzb
      have zs := HZZ.out.1 f
      have zi := HZZ.out.2.1 f
      have z1 := HZZ.out.2.2 f
      have H3 := Lib.hid (And.intro (H2.out.1.later gA) hbx)
      clear gA hbx
      go_upto_region 6 with (refine wpList_store_row rfl 46 _ _ rfl w2.heap.size (recA encM f) rfl rfl 46 Z hzb zi zs z1 ?_)
      clear hzb zs zi z1
      obtain ⟨R, hR⟩ : ∃ R, R = w2.heap.size := ⟨_, rfl⟩
      have H3 := H3.out
      rw [← hR] at H3 ⊢
      generalize (w2.alloc (.cells Z 46)).setRow R (recA encM f) = w3 at *
      have H3 := Lib.hid H3
      clear hR
      cases ok
      · have hst : stepP s = none := by
          rcases H2.out.2 with ⟨h, _⟩ | ⟨_, h⟩
          · cases h
          · exact h
        have HST := Lib.hid hst
        clear hst
        go_wp2_with fail
        go_ret2
        refine .inr ⟨.inl ?_, rfl, H3.out.1.bel⟩
        rw [HN.out.1, HP.out.2.2.2.1, readM_none HS0.out HST.out]; rfl
      · have hst : stepP s = some (f, r) := by
          rcases H2.out.2 with ⟨_, h⟩ | ⟨h, _⟩
          · exact h
          · cases h
        have HST := Lib.hid hst
        clear hst
        have L6 := tyM.load f R 0 w3 (recBox H3.out.2)
        have S1 := tyM.slice1 f w3
        have hg1 : Below w3.heap.size w3 (w3.alloc (.cells (recA encM f) 46)) := (Below.refl _ _).alloc (Nat.le_refl _) _
        have hp4 := H3.out.1.later hg1
        have hp9 := RsAt.one (enc := encM) (L := 22) w3 46 f
        have hpl : pre.length + 1 ≤ 1000000000 := by have := HP.out.2.1; have := HN.out; omega
        have H4 := Lib.hid (And.intro hp4 (And.intro hp9 hpl))
        clear hg1 hp4 hp9 hpl
        generalize recA encM f = VF at *
        go_wp2_with (first | (refine wpList_load_at rfl _ _ rfl _ _ rfl L6 ?_) | (refine wpList_buildSlice_at rfl _ _ _ rfl [(0, .agg VF)] _ rfl S1 ?_) | (refine wpList_append_r tyM rfl (.tmp 21) (.tmp 23) rfl _ pre rfl H4.out.1.owner (some ⟨w3.heap.size, 0, none⟩) 1 1 [f] rfl rfl H4.out.2.1 H4.out.2.2 ?_; intro v8 w8 hb8 hg8 hn8; have H8 := Lib.hid (And.intro hb8 hg8); clear hb8 hg8 hn8 L6 S1))
        have hp8 := H4.out.1.back HBW.out H8.out.1 H8.out.2
        have hlen := stepP_len HST.out
        go_roundw
        case rel =>
          refine ⟨pre ++ [f], r, hp8, ?_, ?_, ?_⟩
          · have := HP.out.2.1; rw [List.length_append]; simp; omega
          · intro p hp
            rcases List.mem_append.1 hp with h | h
            · exact HP.out.2.2.1 p h
            · simp at h; rw [h]; have := HP.out.2.1; omega
          · rw [HP.out.2.2.2.1, readM_some HST.out, Option.map_map]
            congr 1
            funext l
            simp
        case measure =>
          rw [HP.out.2.2.2.2]
          unfold boxLen
          rw [hp8.box]
          have h8 := strOf_size r
          show (strOf r).size < _
          omega
end Go.Proofs.YtifoledkmjlmoaaDoor
