/-
  (*Store).List: the walk.
  A crash: what is plain of it; stores into a file.
  (*Store).Crash: the walk.
  What holds of a store goes on to hold: plain.
  The chapter's example (known): the walk.
  (*Store).Write once more: where nothing is written, the slice's address may be any; a path however long.
-/
import Derived.Test.YtponfkfeflnilaaGreatDoorMaStB
import Derived.Test.YtponfkfeflnilaaGreatDoorIter
import Derived.Test.YtponfkfeflnilaaGreatDoorShelfD
import Derived.Test.YtponfkfeflnilaaGreatDoorMaOne
import Derived.Sort.OwnSorted
import Derived.Outline
import Derived.Test.YtponfkfeflnilaaGreatDoorMaStP
import Derived.Tactics
import Derived.Tactics2
import Derived.Deep.DeepCutAuto
namespace Go.Proofs.YtponfkfeflnilaaGreatDoor
open Go.RowKit Go.Mix Go.WideMaps Go.Maps

theorem keys_sorted {l : Files} (hs : Sorted l) {D : DataW Unit} {ss : List Bytes} (hp : ss.Perm (strKeys D)) (hk : (keysF l).Perm (strKeys D)) : ss.mergeSort (fun x y => decide (x ≤ y)) = keysF l := by
  rw [mergeSort_of_perm (hp.trans hk.symm)]
  refine List.mergeSort_of_pairwise ?_
  unfold keysF
  refine List.pairwise_map.2 (hs.imp fun h => ?_)
  exact decide_eq_true (List.le_of_lt h)
theorem listS_all (S : StP) : listS S [] = keysF S.files := by
  unfold listS
  exact List.filter_eq_self.2 fun _ _ => rfl

set_option maxRecDepth 100000 in
theorem begins_not (x under : Bytes) (B : Nat) (W : World) (hc : W.cell? ⟨B, 0, none⟩ = some (.string (strOf under))) : Calls Tryz.prog 74 #[.string (strOf x), ptr B] W fun e w' => e = .returned (.bool (!under.isPrefixOf x)) ∧ W = w' := by
  have C := pre_any x under W
  generalize under.isPrefixOf x = b at *
  go_enter Tryz.func74, Tryz.ntmps74
  go_wp2_with fail
  refine C.mono ?_
  clear C
  rintro e w' ⟨rfl, rfl⟩
  go_wp2_with fail
  go_ret
  exact ⟨rfl, rfl⟩
theorem begins_gives (x under : Bytes) (B : Nat) (W : World) (hc : W.cell? ⟨B, 0, none⟩ = some (.string (strOf under))) : FnGives Tryz.prog 74 #[ptr B] #[strV x] (.bool (!under.isPrefixOf x)) W := by
  have := begins_not x under B W hc
  exact this.mono fun e w' ⟨h1, h2⟩ => ⟨h1, 0, h2.symm⟩

set_option maxRecDepth 100000 in
theorem idxNone (v : Value) (w : World) : Calls Tryz.prog 104 #[.slice none 0 0, v] w fun e w' => e = .returned (.int .i64 (-1)) ∧ w = w' := by
  go_enter Tryz.func104, Tryz.ntmps104
  go_wp2_with fail
  refine wp_loop_rounds 1 ?_
  rw [rounds_succ]
  go_wp2_with fail
  go_ret
  exact ⟨rfl, rfl⟩
set_option maxRecDepth 100000 in
theorem delNone (v : Value) (w : World) : Calls Tryz.prog 71 #[.slice none 0 0, v] w fun e w' => e = .returned (.slice none 0 0) ∧ w = w' := by
  have C := idxNone v w
  go_enter Tryz.func71, Tryz.ntmps71
  go_wp2_with fail
  refine C.mono ?_
  clear C
  rintro e w' ⟨rfl, rfl⟩
  go_wp2_with fail
  go_ret
  exact ⟨rfl, rfl⟩
/-- slices.DeleteFunc of texts that don't begin so. -/
theorem delBegins {w : World} {g B n cap : Nat} {cur : Array Value} {e : TypeId} (l : List Bytes) (under : Bytes) (hb : w.heap[g]? = some (.cells cur e (0, 0))) (hn : n = l.length) (hc : cur.toList.take l.length = l.map strV) (hcs : cur.size = cap) (hcap : l.length ≤ cap) (hlen : cap ≤ 9223372036854775807) (hB : B < w.heap.size) (hne : B ≠ g) (hcell : w.cell? ⟨B, 0, none⟩ = some (.string (strOf under))) (N : Nat) (hN : N ≤ g) :
    Calls Tryz.prog 71 #[.slice (some ⟨g, 0, none⟩) n cap, .func (.func 74) #[] #[ptr B]] w fun e w' => e = .returned (.slice (some ⟨g, 0, none⟩) (l.filter fun p => under.isPrefixOf p).length cap) ∧ RsAt encS 1 w' (some ⟨g, 0, none⟩) cap (l.filter fun p => under.isPrefixOf p) ∧ Below N w w' := by
  subst hn
  have hH : Go.Sort.Holds strV w g 0 l.toArray := holds_of_block hb hc
  have eg : ∀ args w, (callFunc 74 args).run Tryz.prog w = .ok (.enter 74 args) w := enters_of Tryz.func74 (by kernel_rfl) rfl
  have hcon := AnyE.slices_DeleteFunc Tryz.lgDelete strV (fun _ => rfl) (fun x => !under.isPrefixOf x) 74 #[ptr B] eg [] (fun w => by kernel_rfl) g 0 cap l.toArray w
    (fun W x hb => begins_gives x under B W ((hb.cell (p := ⟨B, 0, none⟩) hB).trans hcell))
    (fun n os dk x _ => begins_gives x under B _ (by
      unfold sortWorld
      rw [Go.Sort.cell?_grow _ _ _ (by show B < (Go.Sort.putRow _ _ _ _ _).heap.size; rw [Go.Sort.size_putRow]; exact hB), Go.Sort.cell?_putRow_other _ _ g 0 _ _ (Or.inl hne)]
      exact hcell)) hH (by simp; omega) (by simpa using hcap)
  have e1 : (l.toArray.toList.filter fun x => !(!under.isPrefixOf x)) = l.filter fun p => under.isPrefixOf p := by simp
  rw [e1] at hcon
  refine hcon.mono ?_
  rintro e w' ⟨rfl, q, rfl⟩
  have hle : (l.filter fun p => under.isPrefixOf p).length ≤ l.length := List.length_filter_le _ _
  refine ⟨rfl, ⟨by omega, hlen, (fun h => nomatch h), .inr ⟨g, 0, rfl, (tyS.range_flat _ 0).1 fun j v hj => ?_⟩⟩, ⟨rfl, rfl, rfl, by simp [Go.Sort.putRow, Go.Sort.mapBlock, Go.Sort.ahead], fun k hk => ?_⟩⟩
  · have hh : (Go.Sort.putRow strV (Go.Sort.ahead w q) g 0 ((l.filter fun p => under.isPrefixOf p) ++ List.replicate (l.toArray.size - (l.filter fun p => under.isPrefixOf p).length) []).toArray).heap[g]? = some (.cells (Go.Sort.putCells strV 0 ((l.filter fun p => under.isPrefixOf p) ++ List.replicate (l.toArray.size - (l.filter fun p => under.isPrefixOf p).length) []).toArray cur) e (0, 0)) := by
      simp [Go.Sort.putRow, Go.Sort.mapBlock, Go.Sort.ahead, Array.getElem?_modify, hb, Go.Sort.onCells]
    rw [cell_of_row _ _ _ _ _ _ hh, Nat.zero_add]
    rw [flat_texts] at hj
    have hjl : j < (l.filter fun p => under.isPrefixOf p).length := by
      rcases Nat.lt_or_ge j (l.filter fun p => under.isPrefixOf p).length with h | h
      · exact h
      · rw [List.getElem?_eq_none (by simpa using h)] at hj; cases hj
    rw [List.getElem?_map, List.getElem?_eq_getElem hjl] at hj
    simp only [Option.map_some, Option.some.injEq] at hj
    subst hj
    have hjc : j < cur.size := by omega
    simp only [Go.Sort.putCells, Array.getElem?_mapIdx, Array.getElem?_eq_getElem hjc, Option.map_some, Option.some.injEq]
    rw [if_pos ⟨Nat.zero_le _, by simp; omega⟩]
    congr 1
    rw [Nat.sub_zero, getElem!_pos _ j (by simp; omega)]
    simp only [List.getElem_toArray]
    rw [List.getElem_append_left hjl]
  · have : k ≠ g := by omega
    simp [Go.Sort.putRow, Go.Sort.mapBlock, Go.Sort.ahead, Array.getElem?_modify, Ne.symm this]

set_option maxRecDepth 100000 in
theorem list_nil (under : Bytes) (w : World) : Calls Tryz.prog 32 #[.pointer none, .string (strOf under)] w fun e w' => e = .returned (.slice none 0 0) ∧ Below w.heap.size w w' := by
  go_enter Tryz.func32, Tryz.ntmps32
  go_wp2_with fail
  go_ret
  exact ⟨rfl, (Below.refl _ _).alloc (Nat.le_refl _) _⟩

set_option maxRecDepth 100000 in
set_option maxHeartbeats 4000000 in
theorem list_any {own : Owns} {w : World} {p M Z : Nat} {G : Bytes → Nat} {S : StP} (h : StoreIn own w p M G S) (ok : OkS Z S) (under : Bytes) :
    Calls Tryz.prog 32 #[ptr p, .string (strOf under)] w fun e w' => ∃ a c, e = .returned (.slice a (listS S under).length c) ∧ RsAt encS 1 w' a c (listS S under) ∧ Below w.heap.size w w' := by
  obtain ⟨w1, hw1⟩ : ∃ w1, w1 = w.alloc (.cells #[.string (strOf under)] 9) := ⟨_, rfl⟩
  have g1 : Below w.heap.size w w1 := by rw [hw1]; exact (Below.refl _ _).alloc (Nat.le_refl _) _
  have b1 : w1.heap[w.heap.size]? = some (.cells #[.string (strOf under)] 9 (0, 0)) := by rw [hw1]; exact heap_alloc_last _ _ _ rfl
  have s1 : w1.heap.size = w.heap.size + 1 := by rw [hw1]; simp
  have hs1 := h.below g1
  obtain ⟨-, -, c2, -⟩ := hs1.cells
  obtain ⟨D, hown, hkp, hsz⟩ := hs1.map.keys ok.sorted
  have hfew := ok.few
  have CK := callsIn_wide.1 (Tryz.keysOfF (some M) w1)
  have CS := callsIn_wide.1 (Tryz.sortedOfF M _ D ptrR w1 hown (by rw [hsz]; unfold maxLen; omega) (by rw [hsz]; omega))
  have HH := Lib.hid (And.intro g1 (And.intro b1 (And.intro s1 (And.intro hkp (And.intro ok.sorted hfew)))))
  have HW := Lib.hid hw1
  clear h g1 b1 s1 hs1 hown hkp hsz hfew ok
  go_enter Tryz.func32, Tryz.ntmps32
  go_upto_region 1 with (fail)
  rw [← HW.out]
  clear hw1 HW
  go_wp2_with fail
  refine CK.mono ?_
  clear CK
  rintro e w2 ⟨rfl, rfl⟩
  go_wp2_with fail
  refine CS.mono ?_
  clear CS
  rintro e w3 ⟨v, ss, rfl, hperm, hrow, -, hb⟩
  have hks := keys_sorted HH.out.2.2.2.2.1 hperm HH.out.2.2.2.1
  have hlen : ss.length = (keysF S.files).length := by rw [← hks, List.length_mergeSort]
  rw [hks, hlen] at hrow
  have g3 : Below w1.heap.size w1 w3 := ((Below.refl _ _).alloc (Nat.le_refl _) _).trans (hb.mono (by simp))
  have c3 : w3.cell? ⟨w.heap.size, 0, none⟩ = some (.string (strOf under)) := by
    have := cell_blk HH.out.2.1 0 _ rfl
    rw [g3.cell (p := ⟨w.heap.size, 0, none⟩) (by have := HH.out.2.2.1; show w.heap.size < w1.heap.size; omega)]
    exact this
  have hkl : (keysF S.files).length ≤ 10000 := by unfold keysF; rw [List.length_map]; exact HH.out.2.2.2.2.2
  obtain ⟨hr1, hr2⟩ := hrow
  have H3 := Lib.hid (And.intro g3 c3)
  clear hb g3 hperm hks hlen
  rcases hr2 with ⟨rfl, h0⟩ | ⟨g, cap, cur, rfl, hbase, hh, hle, hmx, hcs, htake⟩
  · have hk0 : keysF S.files = [] := List.eq_nil_of_length_eq_zero h0
    have hl0 : listS S under = [] := by unfold listS; rw [hk0]; rfl
    have HL0 := Lib.hid hl0
    clear hr1 h0 hl0 hk0
    go_wp2_with fail
    refine (delNone _ _).mono ?_
    rintro e w4 ⟨rfl, rfl⟩
    go_wp2_with fail
    go_ret
    rw [HL0.out]
    exact ⟨none, 0, rfl, RsAt.nil _, HH.out.1.trans (H3.out.1.mono HH.out.1.size)⟩
  · unfold maxLen at hmx
    have hs1 : w1.heap.size + 1 ≤ g := by simpa using hbase
    have CD := delBegins (keysF S.files) under hh rfl (by rw [Nat.mul_one] at htake; exact htake) (by rw [hcs, Nat.mul_one]) hle (by omega) (Nat.lt_of_lt_of_le (by have := HH.out.2.2.1; omega) H3.out.1.size) (by have := HH.out.2.2.1; omega) H3.out.2 w1.heap.size (by omega)
    change Calls _ _ _ _ (fun e w' => e = .returned (.slice (some ⟨g, 0, none⟩) (listS S under).length cap) ∧ RsAt encS 1 w' (some ⟨g, 0, none⟩) cap (listS S under) ∧ Below w1.heap.size w3 w') at CD
    obtain ⟨nk, hnk⟩ : ∃ nk, nk = (keysF S.files).length := ⟨_, rfl⟩
    rw [← hnk] at CD ⊢
    clear hr1 hh hle hmx hcs htake hkl hbase hnk
    go_wp2_with fail
    refine CD.mono ?_
    clear CD
    rintro e w4 ⟨rfl, hrs, hw4⟩
    have H4 := Lib.hid (And.intro hrs hw4)
    clear hrs hw4
    go_wp2_with fail
    go_ret
    exact ⟨_, _, rfl, H4.out.1, HH.out.1.trans ((H3.out.1.trans H4.out.2).mono HH.out.1.size)⟩
end Go.Proofs.YtponfkfeflnilaaGreatDoor
namespace Go.Proofs.YtponfkfeflnilaaGreatDoor
open Go.RowKit Go.Mix Go.WideMaps Go.Maps

/-- The first files crashed. -/
def crashM (keep : List Int) : Nat → Nat → Files → Files
  | _, _, [] => []
  | i, n, p :: r => (if i < n then (p.1, crashF p.2 (keepK keep i p.2)) else p) :: crashM keep (i + 1) n r
theorem crashM_none (keep : List Int) : ∀ (l : Files) (i n : Nat), n ≤ i → crashM keep i n l = l
  | [], _, _, _ => rfl
  | p :: r, i, n, h => by
    unfold crashM
    rw [if_neg (by omega), crashM_none keep r (i + 1) n (by omega)]
theorem crashM_all (keep : List Int) : ∀ (l : Files) (i n : Nat), i + l.length ≤ n → crashM keep i n l = crashL keep i l
  | [], _, _, _ => rfl
  | p :: r, i, n, h => by
    unfold crashM crashL
    rw [List.length_cons] at h
    rw [if_pos (by omega), crashM_all keep r (i + 1) n (by omega)]
theorem crashM_length (keep : List Int) : ∀ (l : Files) (i n : Nat), (crashM keep i n l).length = l.length
  | [], _, _ => rfl
  | p :: r, i, n => by unfold crashM; rw [List.length_cons, List.length_cons, crashM_length keep r]
theorem crashM_keys (keep : List Int) : ∀ (l : Files) (i n : Nat), keysF (crashM keep i n l) = keysF l
  | [], _, _ => rfl
  | p :: r, i, n => by
    unfold crashM keysF
    rw [List.map_cons, List.map_cons]
    have := crashM_keys keep r (i + 1) n
    unfold keysF at this
    rw [this]
    split <;> rfl
theorem sorted_keys {l l' : Files} (h : keysF l' = keysF l) (hs : Sorted l) : Sorted l' := by
  unfold Sorted at *
  have h1 : (keysF l).Pairwise (· < ·) := List.pairwise_map.2 hs
  rw [← h] at h1
  exact List.pairwise_map.1 h1
theorem crashM_sorted (keep : List Int) {l : Files} (hs : Sorted l) (i n : Nat) : Sorted (crashM keep i n l) := sorted_keys (crashM_keys keep l i n) hs
theorem crashM_at (keep : List Int) : ∀ (l : Files) (i n j : Nat), n ≤ i + j → (crashM keep i n l)[j]? = l[j]?
  | [], _, _, _, _ => rfl
  | p :: r, i, n, 0, h => by unfold crashM; rw [if_neg (by omega)]; rfl
  | p :: r, i, n, j + 1, h => by
    unfold crashM
    rw [List.getElem?_cons_succ, List.getElem?_cons_succ]
    exact crashM_at keep r (i + 1) n j (by omega)
theorem crashM_step (keep : List Int) : ∀ (l : Files) (i j : Nat) (p : Bytes × FileP), l[j]? = some p → crashM keep i (i + j + 1) l = (crashM keep i (i + j) l).set j (p.1, crashF p.2 (keepK keep (i + j) p.2))
  | [], _, _, _, h => by simp at h
  | q :: r, i, 0, p, h => by
    simp only [List.getElem?_cons_zero, Option.some.injEq] at h
    subst h
    unfold crashM
    rw [if_pos (by omega), if_neg (by omega), List.set_cons_zero, crashM_none keep r (i + 1) (i + 0 + 1) (by omega), crashM_none keep r (i + 1) (i + 0) (by omega)]
    rfl
  | q :: r, i, j + 1, p, h => by
    rw [List.getElem?_cons_succ] at h
    have := crashM_step keep r (i + 1) j p h
    unfold crashM
    rw [if_pos (by omega), if_pos (by omega), List.set_cons_succ, show i + (j + 1) + 1 = i + 1 + j + 1 by omega, this, show i + (j + 1) = i + 1 + j by omega]
theorem keys_set (l : Files) (j : Nat) (x : Bytes) (f g : FileP) (h : l[j]? = some (x, g)) : keysF (l.set j (x, f)) = keysF l := by
  unfold keysF
  rw [List.map_set]
  refine List.ext_getElem? fun k => ?_
  rw [List.getElem?_set]
  split
  · rename_i e
    subst e
    rw [List.getElem?_map, h]
    split
    · rfl
    · rename_i hn
      have := (List.getElem?_eq_some_iff.1 h).1
      rw [List.length_map] at hn
      exact absurd this hn
  · rfl
theorem putF_at {l : Files} (hs : Sorted l) {j : Nat} {x : Bytes} {g : FileP} (h : l[j]? = some (x, g)) (f : FileP) : putF l x f = l.set j (x, f) := by
  have hs' : Sorted (l.set j (x, f)) := sorted_keys (keys_set l j x f g h) hs
  have hj := (List.getElem?_eq_some_iff.1 h).1
  have hmem : (x, f) ∈ l.set j (x, f) := List.mem_set hj _
  refine files_ext (sorted_put hs x f) hs' fun y => ?_
  rw [getF_put]
  by_cases hy : y = x
  · rw [if_pos hy, hy]
    exact (getF_of_mem hs' hmem).symm
  · rw [if_neg hy]
    cases hg : getF l y with
    | none =>
      symm
      rw [getF_none]
      intro p hp e
      rcases List.mem_or_eq_of_mem_set hp with h1 | h1
      · exact getF_none.1 hg p h1 e
      · rw [h1] at e; exact hy e.symm
    | some k =>
      have hm := getF_mem hg
      obtain ⟨i, hi, e⟩ := List.mem_iff_getElem.1 hm
      have hne : j ≠ i := fun e2 => by
        subst e2
        rw [List.getElem?_eq_getElem hi, e] at h
        injection h with h
        injection h with h
        exact hy h
      have hm2 : (y, k) ∈ l.set j (x, f) := by
        rw [List.mem_iff_getElem]
        exact ⟨i, by rw [List.length_set]; exact hi, by rw [List.getElem_set_ne hne, e]⟩
      exact (getF_of_mem hs' hm2).symm
/-- How many bytes the first ones have. -/
theorem sumF_append (a b : Files) : sumF (a ++ b) = sumF a + sumF b := by
  induction a with
  | nil => simp [sumF]
  | cons p a ih => rw [List.cons_append]; simp only [sumF, ih]; omega
theorem sum_step (l : Files) (j : Nat) (p : Bytes × FileP) (h : l[j]? = some p) : sumF (l.take (j + 1)) = sumF (l.take j) + p.2.now.length := by
  obtain ⟨hj, e⟩ := List.getElem?_eq_some_iff.1 h
  rw [List.take_succ_eq_append_getElem hj, sumF_append, e]
  simp [sumF]
theorem crashL_length (keep : List Int) : ∀ (l : Files) (i : Nat), (crashL keep i l).length = l.length
  | [], _ => rfl
  | p :: r, i => by unfold crashL; rw [List.length_cons, List.length_cons, crashL_length keep r]
theorem crashL_at (keep : List Int) : ∀ (l : Files) (i j : Nat) (p : Bytes × FileP), l[j]? = some p → (crashL keep i l)[j]? = some (p.1, crashF p.2 (keepK keep (i + j) p.2))
  | [], _, _, _, h => by simp at h
  | q :: r, i, 0, p, h => by
    simp only [List.getElem?_cons_zero, Option.some.injEq] at h
    subst h
    rfl
  | q :: r, i, j + 1, p, h => by
    rw [List.getElem?_cons_succ] at h
    unfold crashL
    rw [List.getElem?_cons_succ, crashL_at keep r (i + 1) j p h, show i + 1 + j = i + (j + 1) by omega]

section
variable {own own' : Owns} {w w' : World}
theorem rs_foreign {α : Type} [Inhabited α] {enc : α → List Value} {L : Nat} {T : Option Own → Prop} {a : Option Addr} {c : Nat} {l : List α} (h : RsAt enc L w a c l) (g : Turn T own own' w w') (hT : ¬ T none) (ho : ∀ x, a = some x → own x.block = none) : RsAt enc L w' a c l := by
  refine ⟨h.le, h.big, h.non, h.cells.imp id ?_⟩
  rintro ⟨b, o, rfl, hc⟩
  refine ⟨b, o, rfl, fun j hj i v hv => ?_⟩
  have h1 := hc j hj i v hv
  have hb : b < w.heap.size := lt_of_cell h1
  rw [World.cell?_of_block (a := ⟨b, o + j * L + i, none⟩) (g.frame.keep b ⟨hb, by rw [ho _ rfl]; exact hT⟩).2]
  exact h1
/-- A row reads as its values. -/
theorem rows_rs {α : Type} [Inhabited α] {enc : α → List Value} {L : Nat} {t e : TypeId} (T : RecTy α enc L t e) {v : Value} {l : List α} (h : w.ownsRow 0 e L v l.length (flatR enc l)) : ∃ a c, v = .slice a l.length c ∧ RsAt enc L w a c l := by
  rcases h.2 with ⟨rfl, h0⟩ | ⟨g, cap, cur, rfl, _, hh, hn, hm, _, ht⟩
  · have e0 := List.eq_nil_of_length_eq_zero h0
    subst e0
    exact ⟨none, 0, rfl, RsAt.nil w⟩
  · unfold maxLen at hm
    refine ⟨some ⟨g, 0, none⟩, cap, rfl, ⟨hn, by omega, (fun h => nomatch h), .inr ⟨g, 0, rfl, (T.range_flat l 0).1 fun j u hj => ?_⟩⟩⟩
    have hjl : j < (flatR enc l).length := (List.getElem?_eq_some_iff.1 hj).1
    have hfl := T.flat_len l
    have h2 : (cur.toList.take (l.length * L))[j]? = (flatR enc l)[j]? := by rw [ht]
    rw [List.getElem?_take, if_pos (by omega), hj] at h2
    simp only [World.cell?, hh, Nat.zero_add]
    simpa using h2
/-- What is kept has been stored. -/
theorem FileAt.keepK {w6 w7 : World} {b : Nat} {f : FileP} {v1 v2 v3 : Value} (hf : FileAt own w b f) (h1 : w.heap[b]? = some (.cells #[v1, v2, v3] 132 (0, 0))) (hlt : ∀ k, own k ≠ none → k < w.heap.size) (g1 : Below w.heap.size w w6) {v : Value} {l : Bytes} (hv : OwnB w6 w.heap.size v l) (g2 : Below w6.heap.size (w6.setCell ⟨b, 1, none⟩ v) w7) :
    FileAt (own.new w.heap.size w7.heap.size fun _ => .bytes) w7 b { f with kept := l } ∧ Turn (fun o => o = some (.file b)) own (own.new w.heap.size w7.heap.size fun _ => .bytes) w w7 ∧ w7.heap[b]? = some (.cells #[v1, v, v3] 132 (0, 0)) := by
  obtain ⟨u1, u2, u3, L, p1, h2, h3, h4, h5, h6⟩ := hf.ex
  rw [p1] at h1
  injection h1 with h1
  injection h1 with h1
  simp only [Array.mk.injEq, List.cons.injEq, and_true] at h1
  obtain ⟨rfl, rfl, rfl⟩ := h1
  have h1 := p1
  have hbl : b < w.heap.size := hlt b (by rw [hf.tag]; simp)
  have hs6 : w.heap.size ≤ w6.heap.size := g1.size
  have hs7 : w6.heap.size ≤ w7.heap.size := by have := g2.size; simpa [World.setCell] using this
  have hk : ∀ k, k < w6.heap.size → k ≠ b → w7.heap[k]? = w6.heap[k]? := fun k hk hne => (g2.block k hk).trans (Below.heap_setCell _ _ _ _ hne)
  have ht : Turn (fun o => o = some (.file b)) own (own.new w.heap.size w7.heap.size fun _ => .bytes) w w7 := by
    refine ⟨⟨g2.os.trans g1.os, g2.tape.trans g1.tape, g2.output.trans g1.output, Nat.le_trans hs6 hs7, fun k hk' => ⟨hk'.1, ?_⟩⟩, own.onto_new (Nat.le_trans hs6 hs7) _⟩
    exact (hk k (Nat.lt_of_lt_of_le hk'.1 hs6) (fun e => hk'.2 (by rw [e]; exact hf.tag))).trans (g1.block k hk'.1)
  have hb7 : w7.heap[b]? = some (.cells #[u1, v, u3] 132 (0, 0)) := by
    rw [g2.block b (Nat.lt_of_lt_of_le hbl hs6), heap_setCell_same _ _ _ _ _ _ ((g1.block b hbl).trans h1)]
    rfl
  refine ⟨⟨ht.ow.some hlt hf.tag, u1, v, u3, L, hb7, h2.turn ht hlt (by simp), ?_, ?_, fun g hg => ht.ow.some hlt (h5 g hg), h6.imp fun _ _ hc => hc.turn ht hlt (by simp)⟩, ht, hb7⟩
  · obtain ⟨a, c, e, hs⟩ := hv.sl
    have hx : ∀ x, a = some x → w.heap.size ≤ x.block ∧ x.block < w6.heap.size := fun x hx => ownB_block hv (by rw [e, hx]; rfl)
    refine ⟨a, c, e, sl_same hs fun x hx' => hk _ (hx x hx').2 (by have := (hx x hx').1; omega), fun x hx' => Owns.new_at _ _ (hx x hx').1 (Nat.lt_of_lt_of_le (hx x hx').2 hs7)⟩
  · refine ownsRow_same h4 fun g hg => ?_
    have hgl := (World.ownsRow.lt h4 g hg).2
    exact (hk g (Nat.lt_of_lt_of_le hgl hs6) (rows_other h4 h1 (by decide) g hg)).trans (g1.block g hgl)
/-- What is kept stands. -/
theorem FileAt.crashed {b : Nat} {f : FileP} (hf : FileAt own w b f) (hlt : ∀ k, own k ≠ none → k < w.heap.size) {v1 v2 v3 : Value} (h1 : w.heap[b]? = some (.cells #[v1, v2, v3] 132 (0, 0))) :
    FileAt own ((w.setCell ⟨b, 0, none⟩ v2).setCell ⟨b, 2, none⟩ (.slice none 0 0)) b ⟨f.kept, f.kept, []⟩ ∧ Turn (fun o => o = some (.file b)) own own w ((w.setCell ⟨b, 0, none⟩ v2).setCell ⟨b, 2, none⟩ (.slice none 0 0)) := by
  obtain ⟨u1, u2, u3, L, p1, p2, p3, p4, p5, p6⟩ := hf.ex
  rw [p1] at h1
  injection h1 with h1
  injection h1 with h1
  simp only [Array.mk.injEq, List.cons.injEq, and_true] at h1
  obtain ⟨rfl, rfl, rfl⟩ := h1
  have ht : Turn (fun o => o = some (.file b)) own own w ((w.setCell ⟨b, 0, none⟩ u2).setCell ⟨b, 2, none⟩ (.slice none 0 0)) := ((Turn.below (Below.refl _ w) hlt).set (fun _ => hf.tag) u2).set (fun _ => hf.tag) _
  refine ⟨⟨hf.tag, u2, u2, .slice none 0 0, [], ?_, p3.turn ht hlt (by simp), p3.turn ht hlt (by simp), World.ownsRow_nil _ _ _ _, fun g hg => by simp [Value.ownBlock] at hg, .nil⟩, ht⟩
  have e1 := heap_setCell_same w b 0 _ _ u2 p1
  have e2 := heap_setCell_same _ b 2 _ _ (.slice none 0 0) e1
  exact e2
end

/-- Slices of ints. -/
def intV (x : Int) : Value := .int .i64 x
theorem tyI : OneTy Int intV 70 3 :=
  ⟨fun _ => rfl, Tryz.underlying70, fun w => by kernel_rfl, by kernel_rfl, ⟨.int .i64 0, 8, by kernel_rfl, rfl, by decide⟩, fun w b o x h => by
    unfold intV at h ⊢
    go_simp⟩
abbrev encI : Int → List Value := one1 intV
end Go.Proofs.YtponfkfeflnilaaGreatDoor
namespace Go.Proofs.YtponfkfeflnilaaGreatDoor
open Go.RowKit Go.Mix Go.WideMaps Go.Maps

set_option maxRecDepth 100000 in
theorem crash_nil (v : Value) (w : World) : Calls Tryz.prog 38 #[.pointer none, v] w fun e w' => e = .returned (.tuple #[]) ∧ w = w' := by
  go_enter Tryz.func38, Tryz.ntmps38
  go_wp2_with fail
  refine bodyPost_ret (results_none rfl _ _ _) rfl ?_
  exact ⟨rfl, rfl⟩

def CrashLeft (own : Owns) (w : World) (p : Nat) (S : StP) (e : Ending) (w' : World) : Prop := e = .returned (.tuple #[]) ∧ ∃ own', StoreAt own' w' p S ∧ Turn Any own own' w w'
/-- The store in the midst of a crash. -/
def midS (S : StP) (K : List Int) (i : Nat) : StP := { S with used := (sumF ((crashL K 0 S.files).take i) : Nat), files := crashM K 0 i S.files }

set_option maxRecDepth 100000 in
set_option maxHeartbeats 8000000 in
theorem crash_any {own : Owns} {w : World} {p M Z : Nat} {G : Bytes → Nat} {S : StP} (h : StoreIn own w p M G S) (ok : OkS Z S) (hZ : Z ≤ 100000000) {ak : Option Addr} {ck nk : Nat} {K : List Int} (hk : RsAt encI 1 w ak ck K) (hnk : nk = K.length) (hkl : nk ≤ 1000000) (hko : ∀ x, ak = some x → own x.block = none) :
    Calls Tryz.prog 38 #[ptr p, .slice ak nk ck] w fun e w' => CrashLeft own w p (crashS S K) e w' := by
  obtain ⟨-, c1, -⟩ := h.cells
  have f1 := h.free 1
  obtain ⟨hs1, ht1⟩ := h.setRoot (k := 1) (v := .int .i64 0) (S' := { S with used := 0 }) rfl rfl
  have hz1 : (w.setCell ⟨p, 1, none⟩ (.int .i64 0)).heap.size = w.heap.size := by simp [World.setCell]
  obtain ⟨w1, hw1⟩ : ∃ w1, w1 = w.setCell ⟨p, 1, none⟩ (.int .i64 0) := ⟨_, rfl⟩
  have HW1 := Lib.hid hw1
  rw [← hw1] at hs1 ht1 hz1
  clear hw1
  obtain ⟨-, -, c2, -⟩ := hs1.cells
  obtain ⟨D, hown, hkp, hsz⟩ := hs1.map.keys ok.sorted
  have hfew := ok.few
  have CK := callsIn_wide.1 (Tryz.keysOfF (some M) w1)
  have CS := callsIn_wide.1 (Tryz.sortedOfF M _ D ptrR w1 hown (by rw [hsz]; unfold maxLen; show S.files.length ≤ _; omega) (by rw [hsz]; show S.files.length * 16 ≤ _; omega))
  have HH := Lib.hid (And.intro h (And.intro ok (And.intro hs1 (And.intro ht1 (And.intro hz1 hkp)))))
  have HK := Lib.hid (And.intro hk (And.intro hnk (And.intro hkl hko)))
  have HZ := Lib.hid hZ
  clear h ok hs1 ht1 hz1 hkp hown hsz hfew hk hnk hkl hko hZ
  go_enter Tryz.func38, Tryz.ntmps38
  go_upto_region 2 with (fail)
  rw [← HW1.out]
  clear c1 f1
  go_wp2_with fail
  refine CK.mono ?_
  clear CK
  rintro e w2 ⟨rfl, rfl⟩
  go_wp2_with fail
  refine CS.mono ?_
  clear CS
  rintro e w3 ⟨v, ss, rfl, hperm, hrow, -, hb⟩
  have hks := keys_sorted HH.out.2.1.sorted hperm HH.out.2.2.2.2.2
  have hlen : ss.length = (keysF S.files).length := by rw [← hks, List.length_mergeSort]
  have hklen : (keysF S.files).length = S.files.length := by unfold keysF; rw [List.length_map]
  rw [hks, hlen] at hrow
  have g3 : Below w1.heap.size w1 w3 := ((Below.refl _ _).alloc (Nat.le_refl _) _).trans (hb.mono (by simp))
  have hvo : ∀ g, v.ownBlock = some g → own g = none := fun g hg => by
    have := (World.ownsRow.lt hrow g hg).1
    have h2 := HH.out.2.2.1.lt g
    simp at this
    cases ho : own g with
    | none => rfl
    | some t => exact absurd (h2 (by rw [ho]; simp)) (by omega)
  have hrow0 : w3.ownsRow 0 9 1 v (keysF S.files).length ((keysF S.files).map strV) := ⟨hrow.1, hrow.2.imp id fun ⟨g, cap, cur, e1, _, r⟩ => ⟨g, cap, cur, e1, Nat.zero_le _, r⟩⟩
  obtain ⟨av, cv, rfl, hkeys⟩ : ∃ a c, v = .slice a (keysF S.files).length c ∧ RsAt encS 1 w3 a c (keysF S.files) := by
    rcases hrow0.2 with ⟨rfl, h0⟩ | ⟨g, cap, cur, rfl, _, hh, hn, hm, _, ht⟩
    · have e0 := List.eq_nil_of_length_eq_zero h0
      rw [e0]
      exact ⟨none, 0, rfl, RsAt.nil w3⟩
    · unfold maxLen at hm
      refine ⟨some ⟨g, 0, none⟩, cap, rfl, ⟨hn, by omega, (fun h => nomatch h), .inr ⟨g, 0, rfl, (tyS.range_flat _ 0).1 fun j u hj => ?_⟩⟩⟩
      rw [flat_texts] at hj
      have hjl : j < ((keysF S.files).map strV).length := (List.getElem?_eq_some_iff.1 hj).1
      rw [List.length_map] at hjl
      have h2 : (cur.toList.take ((keysF S.files).length * 1))[j]? = ((keysF S.files).map strV)[j]? := by rw [ht]
      rw [List.getElem?_take, if_pos (by omega), hj] at h2
      simp only [World.cell?, hh, Nat.zero_add]
      simpa using h2
  obtain ⟨n, hn⟩ : ∃ n, n = S.files.length := ⟨_, rfl⟩
  rw [hklen, ← hn]
  have hn1 : n ≤ 10000 := by rw [hn]; exact HH.out.2.1.few
  have t31 : Turn Any own own w w3 := (turn_root HH.out.2.2.2.1).trans (Turn.below g3 HH.out.2.2.1.lt)
  have H3 := Lib.hid (And.intro (HH.out.2.2.1.below g3) (And.intro t31 (And.intro hkeys (And.intro hvo hn))))
  clear hb g3 hperm hks hlen hrow hrow0 hvo hkeys t31 hklen hn
  go_wp2_with fail
  go_loopw [22] (fun s22 wr => ∃ (i : Nat) (own' : Owns), s22 = .int .i64 (i : Int) ∧ i ≤ n ∧ StoreIn own' wr p M G (midS S K i) ∧ Turn Any own own' w3 wr) (fun s22 _ => n - (intOf s22).toNat)
  case atStart =>
    refine ⟨0, own, rfl, Nat.zero_le _, ?_, Turn.below (Below.refl _ _) H3.out.1.lt⟩
    have e0 : midS S K 0 = { S with used := 0 } := by unfold midS; rw [crashM_none K S.files 0 0 (Nat.le_refl _)]; rfl
    rw [e0]
    exact H3.out.1
  case round =>
    obtain ⟨i, own', rfl, hi, hs, ht⟩ := hrel
    by_cases hin : i < n
    · obtain ⟨wo, rfl⟩ : ∃ wo, wo = wr := ⟨_, rfl⟩
      have t1 : decide ((i : Int) < (n : Int)) = true := decide_eq_true (by omega)
      have t1' : decide (i < n) = true := decide_eq_true (by omega)
      have hil : i < S.files.length := by have := H3.out.2.2.2.2; omega
      obtain ⟨x, f, hxf⟩ : ∃ x f, S.files[i]? = some (x, f) := ⟨S.files[i].1, S.files[i].2, by rw [List.getElem?_eq_getElem hil]⟩
      have hmi : (midS S K i).files[i]? = some (x, f) := by show (crashM K 0 i S.files)[i]? = _; rw [crashM_at K S.files 0 i i (by omega)]; exact hxf
      have hsrt : Sorted (midS S K i).files := crashM_sorted K HH.out.2.1.sorted 0 i
      have hgf : getF (midS S K i).files x = some f := getF_of_mem hsrt (List.mem_of_getElem? hmi)
      have hkil : i < (keysF S.files).length := by unfold keysF; rw [List.length_map]; exact hil
      have hkx : (keysF S.files)[i]! = x := by
        have h1 : (keysF S.files)[i]? = some x := by unfold keysF; rw [List.getElem?_map, hxf]; rfl
        exact List.getElem!_of_getElem? h1
      have hfo := HH.out.2.1.ok (x, f) (List.mem_of_getElem? hxf)
      have hbig := HH.out.2.1.big (x, f) (List.mem_of_getElem? hxf)
      have hks := rs_foreign H3.out.2.2.1 ht (by simp) (fun y hy => H3.out.2.2.2.1 y.block (by rw [hy]; rfl))
      obtain ⟨b, q, IX, -, LD⟩ := hks.at1 tyS (i : Int) i rfl hkil
      have L0 := LD wo (Below.refl _ _)
      rw [hkx] at L0
      unfold strV at L0
      rw [show (keysF S.files).length = n by unfold keysF; rw [List.length_map]; exact H3.out.2.2.2.2.symm] at IX
      have LK := hs.map.look x (by have := hfo.2.1; have h2 : x.length ≤ 255 := this; omega)
      rw [placeV_some hgf] at LK
      obtain ⟨-, -, c2, -⟩ := hs.cells
      obtain ⟨v1, v2, v3, L, p1, s1, s2, hrow, ho3, hall⟩ := (hs.file x f hgf).ex
      obtain ⟨a3, c3, rfl, hrs⟩ := rows_rs tyC hrow
      have hLn := hall.length
      have k2 := cell_blk p1 2 _ rfl
      obtain ⟨n3, hn3⟩ : ∃ n3, n3 = L.length := ⟨_, rfl⟩
      rw [← hn3] at k2
      have hn3b : n3 ≤ 100000000 := by have h1 : f.since.length ≤ Z := hfo.2.2.2.2; have := HZ.out; omega
      have HS := Lib.hid (And.intro hs (And.intro ht (And.intro hgf (And.intro hfo (And.intro hbig (And.intro p1 (And.intro hrs (And.intro hLn (And.intro hn3 (And.intro hmi (And.intro hsrt hxf)))))))))))
      clear hil hmi hsrt hgf hkil hkx hfo hbig hks LD s1 s2 hrow ho3 hall p1 hrs hLn hn3 hxf hs ht
      obtain ⟨B, hB⟩ : ∃ B, B = decide ((i : Int) < (nk : Int)) := ⟨_, rfl⟩
      have t2 : decide ((i : Int) < (nk : Int)) = B := hB.symm
      have t2' : decide (i < nk) = B := by rw [hB, Bool.eq_iff_iff, decide_eq_true_eq, decide_eq_true_eq]; omega
      have HB := Lib.hid hB
      clear hB
      go_upto_if 36 with (first | (refine wpList_load_at rfl _ _ rfl _ _ rfl L0 ?_))
      go_cut [7] (fun s7 wx => s7 = .int .i64 ((keepK K i f : Nat) : Int) ∧ Below wo.heap.size wo wx)
      case first =>
        clear L0 IX t2 t2'
        cases B
        case true =>
          have hik : i < nk := by have := of_decide_eq_true HB.out.symm; omega
          have hikl : i < K.length := by rw [← HK.out.2.1]; exact hik
          have hkk := rs_foreign (rs_foreign HK.out.1 H3.out.2.1 (by simp) HK.out.2.2.2) HS.out.2.1 (by simp) HK.out.2.2.2
          obtain ⟨b2, q2, IX2, -, LD2⟩ := hkk.at1 tyI (i : Int) i rfl hikl
          rw [← HK.out.2.1] at IX2
          obtain ⟨kv, hkv⟩ : ∃ kv, kv = K[i]! := ⟨_, rfl⟩
          rw [← hkv] at LD2
          have LK2 : ∀ y : Later wo, (Instr.loadAt 3 (.pointer (some ⟨b2, q2, none⟩))).run Tryz.prog y.1 = .ok (.int .i64 kv) y.1 := fun y => LD2 y.1 y.2
          have LS2 : ∀ y : Later wo, y.1.cell? ⟨G x, 2, none⟩ = some (.slice a3 n3 c3) := fun y => load_later k2 y
          obtain ⟨m1, hm1⟩ : ∃ m1, m1 = max kv 0 := ⟨_, rfl⟩
          obtain ⟨m2, hm2⟩ : ∃ m2, m2 = min m1 (n3 : Int) := ⟨_, rfl⟩
          have MX := max_run kv 0 m1 hm1
          have MN := min_runI m1 (n3 : Int) m2 hm2
          have hres : m2 = ((keepK K i f : Nat) : Int) := by
            unfold keepK
            rw [if_pos hikl, ← hkv, hm2, hm1]
            have h1 := HS.out.2.2.2.2.2.2.2.2.1
            have h2 := HS.out.2.2.2.2.2.2.2.1
            rw [h1, h2]
            omega
          have HR := Lib.hid hres
          clear hkk LD2 hkv hm1 hm2 hres hik hikl
          go_upto_region 8 with (fail)
          refine wp_region_mg [(0, 0), (1, 0), (2, 0), (3, 0), (4, 0), (5, 0), (6, 0), (7, 0), (8, 0), (9, 0), (10, 0), (11, 0)] (by kernel_rfl) (by kernel_rfl) ?_
          iterate 3 (refine mg_calm rfl (fun K hK => ?_); go_simp; (refine hK _ ?_; clear hK K))
          refine mg_load rfl rfl _ _ rfl _ _ rfl LK2 ?_
          iterate 8 (refine mg_calm rfl (fun K hK => ?_); go_simp; (refine hK _ ?_; clear hK K))
          refine mg_nil fun w5 hw5 => ?_
          have H5 := Lib.hid hw5
          clear hw5
          go_wp2_with fail
          go_meet
          exact ⟨by rw [HR.out], H5.out⟩
        case false =>
          have hik : ¬ i < nk := by have := of_decide_eq_false HB.out.symm; omega
          have e0 : keepK K i f = 0 := by unfold keepK; rw [if_neg (by have := HK.out.2.1; omega)]
          have HE := Lib.hid e0
          clear e0 hik
          go_wp2_with fail
          go_meet
          exact ⟨by rw [HE.out]; rfl, Below.refl _ _⟩
      case rest =>
        obtain ⟨rfl, hwc⟩ := hcut
        have hkf : keepK K i f ≤ f.since.length := by unfold keepK; split <;> omega
        obtain ⟨k, hk⟩ : ∃ k, k = keepK K i f := ⟨_, rfl⟩
        rw [← hk] at hkf ⊢
        have hs := HS.out.1.below hwc
        obtain ⟨-, -, c2, -⟩ := hs.cells
        have hlt := lt_of_block HS.out.2.2.2.2.2.1
        have p2 := (hwc.block _ hlt).trans HS.out.2.2.2.2.2.1
        have k2 := cell_blk p2 2 _ rfl
        rw [← HS.out.2.2.2.2.2.2.2.2.1] at k2
        have SL := RsAt.to HS.out.2.2.2.2.2.2.1 tyC (j := k) (by have := HS.out.2.2.2.2.2.2.2.1; omega) (k : Int) rfl
        rw [← HS.out.2.2.2.2.2.2.2.2.1] at SL
        have hkb : k ≤ 100000000 := by have := HS.out.2.2.2.2.2.2.2.2.1; have := HS.out.2.2.2.2.2.2.2.1; omega
        have HC := Lib.hid (And.intro hs (And.intro p2 (And.intro hkf (And.intro hk (HS.out.2.1.trans (Turn.below (T := Any) hwc HS.out.1.lt))))))
        clear hs hlt p2 hkf hk hwc L0 IX LK t2 t2'
        go_wp2_with fail
        go_loopw [55] (fun s55 wy => ∃ (j : Nat) (own2 : Owns) (v1 v2 : Value), s55 = .int .i64 (j : Int) ∧ j ≤ k ∧ StoreIn own2 wy p M G { midS S K i with files := putF (midS S K i).files x { f with kept := runs f.kept (f.since.take j) } } ∧ Turn Any own own2 w3 wy ∧ wy.heap[G x]? = some (.cells #[v1, v2, .slice a3 L.length c3] 132 (0, 0))) (fun s55 _ => k - (intOf s55).toNat)
        case atStart =>
          refine ⟨0, own', v1, v2, rfl, Nat.zero_le _, ?_, HC.out.2.2.2.2, HC.out.2.1⟩
          have e0 : putF (midS S K i).files x { f with kept := runs f.kept (f.since.take 0) } = (midS S K i).files := putF_same HS.out.2.2.2.2.2.2.2.2.2.2.1 HS.out.2.2.1
          rw [e0]
          exact HC.out.1
        case round =>
          obtain ⟨j, own2, u1, u2, rfl, hj, hs, ht, hp⟩ := hrel
          have hgf2 : getF ({ midS S K i with files := putF (midS S K i).files x { f with kept := runs f.kept (f.since.take j) } } : StP).files x = some { f with kept := runs f.kept (f.since.take j) } := by show getF (putF _ x _) x = _; rw [getF_put, if_pos rfl]
          have hf2 := hs.file x _ hgf2
          obtain ⟨y1, y2, y3, L2, r1, r2, ⟨a5, c5, rfl, s5, o5⟩, r4, r5, r6⟩ := hf2.ex
          have hpp := hp
          rw [r1] at hpp
          injection hpp with hpp
          injection hpp with hpp
          simp only [Array.mk.injEq, List.cons.injEq, and_true] at hpp
          obtain ⟨rfl, rfl, rfl⟩ := hpp
          obtain ⟨m5, hm5⟩ : ∃ m5, m5 = (runs f.kept (f.since.take j)).length := ⟨_, rfl⟩
          rw [← hm5] at r1
          have k0 := cell_blk r1 0 _ rfl
          have k1 := cell_blk r1 1 _ rfl
          have k2 := cell_blk r1 2 _ rfl
          have hm5Z : m5 ≤ 100000000 := by have h1 : (runs f.kept (f.since.take j)).length ≤ Z := HS.out.2.2.2.2.1 j; have := HZ.out; omega
          by_cases hjk : j < k
          · have t3 : decide ((j : Int) < (k : Int)) = true := decide_eq_true (by omega)
            have t3' : decide (j < k) = true := decide_eq_true (by omega)
            obtain ⟨a4, c4, e4, hrs2⟩ := rows_rs tyC r4
            injection e4 with e5 e6 e7
            subst e5 e7
            clear e6
            have hL2 := r6.length
            have hjs : j < f.since.length := by have := HC.out.2.2.1; omega
            have hjL : j < L2.length := by rw [hL2]; exact hjs
            have hkL : (L2.take k).length = k := by rw [List.length_take]; have := HC.out.2.2.1; rw [hL2]; show min k f.since.length = k; omega
            obtain ⟨b6, q6, IX6, -, LD6⟩ := (hrs2.take k).at tyC (j : Int) j rfl (by rw [hkL]; exact hjk)
            rw [hkL] at IX6
            have L6 := LD6 wr (Below.refl _ _)
            obtain ⟨ca, hca⟩ : ∃ ca, ca = (L2.take k)[j]! := ⟨_, rfl⟩
            have hci : ChgIs own2 wr ca f.since[j] := by
              rw [hca, getElem!_pos _ j (by rw [hkL]; exact hjk), List.getElem_take]
              exact r6.at hjL hjs
            rw [← hca] at L6
            obtain ⟨abx, cbx, ebx, sbx, obx⟩ := hci.b
            injection ebx with eb1 eb2 eb3
            subst eb1 eb3
            obtain ⟨Zv, hZv⟩ : ∃ Zv, Zv = recA encC (⟨0, 0, none, 0, 0⟩ : ChgA) := ⟨_, rfl⟩
            have z : ∀ w, (zeroValue 134).run Tryz.prog w = .ok (.agg Zv) w := fun w => by rw [hZv]; kernel_rfl
            have zs : Zv.size = (recA encC ca).size := by rw [hZv]; rfl
            have zi : (Tryz.prog.info? 134).map (·.size) = some (recA encC ca).size := tyC.ie
            have z1 : (recA encC ca).all (·.oneCell') = true := all_oneCell_toArray (tyC.one _)
            have hzb : (wr.alloc (.cells Zv 134)).heap[wr.heap.size]? = some (.cells Zv 134 (0, 0)) := heap_alloc_last _ _ _ rfl
            have gA : Below wr.heap.size wr ((wr.alloc (.cells Zv 134)).setRow wr.heap.size (recA encC ca)) := below_setRow ((Below.refl _ _).alloc (Nat.le_refl _) _) (Nat.le_refl _) _
            have hbox : ((wr.alloc (.cells Zv 134)).setRow wr.heap.size (recA encC ca)).heap[wr.heap.size]? = some (.cells (recA encC ca) 134 (0, 0)) := setRow_heap _ _ _ _ _ _ hzb
            have hfit := fitsAll_at HS.out.2.2.2.1.1.fits hjs
            have hpl := HS.out.2.2.2.1.1.plain _ (List.getElem_mem hjs)
            have hrn : runs f.kept (f.since.take (j + 1)) = f.since[j].on (runs f.kept (f.since.take j)) := runs_at _ hjs
            have hbn : f.since[j].b.length ≤ 1000000000000 := by
              have h1 := chg_len (x := runs f.kept (f.since.take j)) hpl
              rw [← hrn] at h1
              have h2 : (runs f.kept (f.since.take (j + 1))).length ≤ Z := HS.out.2.2.2.2.1 (j + 1)
              have := HZ.out
              omega
            obtain ⟨cj, hcj⟩ : ∃ cj, cj = f.since[j] := ⟨_, rfl⟩
            rw [← hcj] at hci hfit hrn hbn sbx eb2
            have HA := Lib.hid (And.intro gA (And.intro hbox (And.intro hs (And.intro ht (And.intro hf2 (And.intro r1 (And.intro hci (And.intro hfit (And.intro hrn (And.intro hbn (And.intro s5 (And.intro hm5 (And.intro hm5Z (And.intro sbx eb2))))))))))))))
            generalize hRC : recA encC ca = RC at *
            have HRC := Lib.hid hRC
            clear hgf2 hf2 r1 r2 r4 r5 r6 hs ht hp k0 k2 hm5 hrs2 hL2 hjs hjL hkL LD6 hca hci sbx obx eb2 hZv hfit hpl hrn hbn hcj s5 o5 hRC gA hbox
            go_upto_region 12 with (first | (refine wpList_load_at rfl _ _ rfl _ _ rfl L6 ?_) | (refine wpList_store_row rfl 134 _ _ rfl wr.heap.size RC rfl rfl 134 Zv hzb zi zs z1 ?_))
            have gA := HA.out.1
            have hbox := HA.out.2.1
            obtain ⟨X, hX⟩ : ∃ X, X = wr.heap.size := ⟨_, rfl⟩
            have HX := Lib.hid hX
            clear IX6 L6 zs zi z1 hzb z
            generalize (wr.alloc (.cells Zv 134)).setRow wr.heap.size RC = w5 at *
            rw [← hX] at hbox ⊢
            clear hX
            have k1 : w5.cell? ⟨G x, 1, none⟩ = some (.slice a5 m5 c5) := (gA.cell (p := ⟨G x, 1, none⟩) (lt_of_cell k1)).trans k1
            have LB : ∀ y : Later w5, (Instr.loadAt 134 (.pointer (some ⟨X, 0, none⟩))).run Tryz.prog y.1 = .ok (.agg RC) y.1 := fun y => by
              rw [← HRC.out] at hbox ⊢
              exact tyC.load ca _ _ _ (rangeR_below (recBox hbox) y.2)
            have L1 : ∀ y : Later w5, (Instr.loadAt 24 (.pointer (some ⟨G x, 1, none⟩))).run Tryz.prog y.1 = .ok (.slice a5 m5 c5) y.1 := fun y => by
              have c := load_later k1 y
              go_simp
            clear hbox k1
            refine wp_region_mg [(0, 0), (1, 0), (2, 0), (3, 0), (4, 0), (5, 0), (6, 1), (7, 0), (8, 0), (9, 2)] (by kernel_rfl) (by kernel_rfl) ?_
            refine mg_calm rfl (fun K hK => ?_); go_simp; (refine hK _ ?_; clear hK K)
            refine mg_load rfl rfl _ _ rfl _ _ rfl LB ?_
            iterate 3 (refine mg_calm rfl (fun K hK => ?_); go_simp; (refine hK _ ?_; clear hK K))
            refine mg_load rfl rfl _ _ rfl _ _ rfl L1 ?_
            refine mg_loud rfl rfl (fun w6 hw6 K hK => ?_)
            have g6 : Below wr.heap.size wr w6 := gA.trans (Below.mono hw6 gA.size)
            have CO := on_any HA.out.2.2.2.2.2.2.1.at_ HA.out.2.2.2.2.2.2.1.cut (HA.out.2.2.2.2.2.2.2.2.2.2.2.2.2.1.below g6) HA.out.2.2.2.2.2.2.2.2.2.2.2.2.2.2 (HA.out.2.2.2.2.2.2.2.2.2.2.1.below g6) HA.out.2.2.2.2.2.2.2.2.2.2.2.1 HA.out.2.2.2.2.2.2.2.1 HA.out.2.2.2.2.2.2.2.2.2.1 (by have := HA.out.2.2.2.2.2.2.2.2.2.2.2.1; have := HA.out.2.2.2.2.2.2.2.2.2.2.2.2.1; show (runs f.kept (f.since.take j)).length ≤ _; omega)
            rw [HRC.out] at CO
            have H6 := Lib.hid g6
            clear g6 gA hw6
            go_wp2_with fail
            refine CO.mono ?_
            clear CO
            rintro e w7 ⟨v, rfl, h7⟩
            obtain ⟨av, mv, cv, rfl⟩ := h7.1.slice
            have H7 := Lib.hid (And.intro (H6.out.trans (h7.2.1.mono H6.out.size)) (h7.rebase H6.out.size H6.out (Nat.le_refl _)).1)
            have g7 := h7.2.1
            clear h7
            go_wp2_with fail
            refine hK _ _ g7 ?_
            clear hK K g7
            iterate 2 (refine mg_calm rfl (fun K hK => ?_); go_simp; (refine hK _ ?_; clear hK K))
            refine mg_sync rfl rfl (fun w8 hw8 K hK => ?_)
            have g8 : Below wr.heap.size wr w8 := H7.out.1.trans (Below.mono hw8 H7.out.1.size)
            have hb8 := (g8.block (G x) (lt_of_block HA.out.2.2.2.2.2.1)).trans HA.out.2.2.2.2.2.1
            have k8 := cell_blk hb8 1 _ rfl
            have f8 := free_blk hb8 1
            have H8 := Lib.hid (And.intro g8 (H7.out.2.below hw8))
            clear g8 hb8 hw8 LB L1
            go_wp2_with fail
            refine mg_nil fun w9 hw9 => ?_
            obtain ⟨hf9, ht9, hp9⟩ := HA.out.2.2.2.2.1.keepK HA.out.2.2.2.2.2.1 HA.out.2.2.1.lt H8.out.1 H8.out.2 (by have := hw9.mono (B' := w8.heap.size) (by simp [World.setCell]); exact this)
            have hs9 := HA.out.2.2.1.filed (x := x) (by show (getF (putF _ x _) x).isSome = true; rw [getF_put, if_pos rfl]; rfl) ht9 hf9
            change StoreIn _ w9 p M G { midS S K i with files := putF (putF (midS S K i).files x { f with kept := runs f.kept (f.since.take j) }) x { f with kept := cj.on (runs f.kept (f.since.take j)) } } at hs9
            rw [putF_put HS.out.2.2.2.2.2.2.2.2.2.2.1, ← HA.out.2.2.2.2.2.2.2.2.1] at hs9
            have HE := Lib.hid (And.intro hs9 (And.intro (HA.out.2.2.2.1.trans (turn_file ht9)) hp9))
            clear hf9 ht9 hp9 hs9 hw9 k8 f8
            go_wp2_with fail
            go_roundw
            case rel => exact ⟨j + 1, _, _, _, by go_num, by omega, HE.out.1, HE.out.2.1, HE.out.2.2⟩
            case measure => simp [intOf]; omega
          · obtain rfl : j = k := by omega
            have t3 : decide ((j : Int) < (j : Int)) = false := decide_eq_false (by omega)
            have t3' : decide (j < j) = false := decide_eq_false (by omega)
            obtain ⟨hf3, ht3⟩ := hf2.crashed hs.lt r1
            have g0 := free_blk r1 0
            have g2 := free_blk r1 2
            have hs3 := hs.filed (x := x) (by rw [hgf2]; rfl) ht3 hf3
            change StoreIn _ _ p M G { midS S K i with files := putF (putF (midS S K i).files x { f with kept := runs f.kept (f.since.take j) }) x (crashF f j) } at hs3
            rw [putF_put HS.out.2.2.2.2.2.2.2.2.2.2.1] at hs3
            have r3 : ((wr.setCell ⟨G x, 0, none⟩ (.slice a5 m5 c5)).setCell ⟨G x, 2, none⟩ (.slice none 0 0)).heap[G x]? = some (.cells #[.slice a5 m5 c5, .slice a5 m5 c5, .slice none 0 0] 132 (0, 0)) := heap_setCell_same _ (G x) 2 _ _ _ (heap_setCell_same _ (G x) 0 _ _ _ r1)
            have HE := Lib.hid (And.intro hs3 (And.intro (ht.trans (turn_file ht3)) (And.intro r3 hm5)))
            clear hgf2 hf2 r1 r2 r4 r5 r6 hs ht hp s5 o5 hm5 hf3 ht3 hs3 r3 hjk
            go_upto_region 15 with (fail)
            clear k0 k1 k2 g0 g2
            generalize (wr.setCell ⟨G x, 0, none⟩ (Value.slice a5 m5 c5)).setCell ⟨G x, 2, none⟩ (Value.slice none 0 0) = w6 at *
            have k1 := HE.out.1.cells.2.1
            have k0 := cell_blk HE.out.2.2.1 0 _ rfl
            obtain ⟨us, hus⟩ : ∃ us, us = (midS S K i).used := ⟨_, rfl⟩
            change w6.cell? ⟨p, 1, none⟩ = some (.int .i64 (midS S K i).used) at k1
            rw [← hus] at k1
            have husb : 0 ≤ us ∧ us ≤ 1000000000000 := by
              have h1 : ∀ q ∈ (crashL K 0 S.files).take i, q.2.now.length ≤ Z := fun q hq => by
                obtain ⟨a, ha⟩ := List.getElem?_of_mem (List.mem_of_mem_take hq)
                have hal : a < S.files.length := by
                  have := (List.getElem?_eq_some_iff.1 ha).1
                  rw [crashL_length] at this
                  exact this
                rw [crashL_at K S.files 0 a S.files[a] (List.getElem?_eq_getElem hal)] at ha
                injection ha with ha
                rw [← ha]
                exact HH.out.2.1.big _ (List.getElem_mem hal) _
              have h2 := sumF_le Z _ h1
              have h3 : ((crashL K 0 S.files).take i).length ≤ 10000 := by rw [List.length_take]; omega
              have h4 : Z * ((crashL K 0 S.files).take i).length ≤ 1000000000000 := Nat.le_trans (Nat.mul_le_mul HZ.out h3) (by decide)
              rw [hus]
              show 0 ≤ ((sumF ((crashL K 0 S.files).take i) : Nat) : Int) ∧ _ ≤ _
              constructor
              · omega
              · show ((sumF ((crashL K 0 S.files).take i) : Nat) : Int) ≤ _
                omega
            have LU : ∀ y : Later w6, y.1.cell? ⟨p, 1, none⟩ = some (.int .i64 us) := fun y => load_later k1 y
            have LN : ∀ y : Later w6, y.1.cell? ⟨G x, 0, none⟩ = some (.slice a5 m5 c5) := fun y => load_later k0 y
            have hwu : IntKind.i64.wrap (us + (m5 : Int)) = us + (m5 : Int) := IntWalk.i64_in _ (by omega)
            have HU := Lib.hid hus
            clear k0 k1 hus
            refine wp_region_mg [(0, 0), (1, 0), (2, 0), (3, 0), (4, 0), (5, 0), (6, 0), (7, 0), (8, 0), (9, 0), (10, 0), (11, 0), (12, 2)] (by kernel_rfl) (by kernel_rfl) ?_
            iterate 12 (refine mg_calm rfl (fun K hK => ?_); go_simp; (refine hK _ ?_; clear hK K))
            refine mg_sync rfl rfl (fun w7 hw7 K hK => ?_)
            have hs7 := HE.out.1.below hw7
            have q1 := hs7.cells.2.1
            have g1 := hs7.free 1
            have HW7 := Lib.hid hw7
            clear LU LN hw7
            go_wp2_with fail
            refine mg_nil fun w8 hw8 => ?_
            obtain ⟨hs8, ht8⟩ := hs7.setRoot (k := 1) (v := .int .i64 (us + (m5 : Int))) (S' := { midS S K i with used := us + (m5 : Int), files := putF (midS S K i).files x (crashF f j) }) rfl rfl
            have hs9 := hs8.below hw8
            have e1 : ({ midS S K i with used := us + (m5 : Int), files := putF (midS S K i).files x (crashF f j) } : StP) = midS S K (i + 1) := by
              have hxf := HS.out.2.2.2.2.2.2.2.2.2.2.2
              have hj2 : j = keepK K i f := HC.out.2.2.2.1
              have e2 := crashM_step K S.files 0 i (x, f) hxf
              have e3 : putF (midS S K i).files x (crashF f j) = crashM K 0 (i + 1) S.files := by
                rw [putF_at HS.out.2.2.2.2.2.2.2.2.2.2.1 HS.out.2.2.2.2.2.2.2.2.2.1 (crashF f j), hj2]
                rw [Nat.zero_add] at e2
                exact e2.symm
              have e4 := sum_step (crashL K 0 S.files) i _ (crashL_at K S.files 0 i (x, f) hxf)
              rw [Nat.zero_add, ← hj2] at e4
              have e5 : us + (m5 : Int) = ((sumF ((crashL K 0 S.files).take (i + 1)) : Nat) : Int) := by
                rw [e4, HU.out, HE.out.2.2.2]
                show ((sumF ((crashL K 0 S.files).take i) : Nat) : Int) + _ = _
                rw [Int.natCast_add]
                rfl
              rw [e3, e5]
              rfl
            rw [e1] at hs9
            have HE9 := Lib.hid (And.intro hs9 (((HE.out.2.1.trans (Turn.below HW7.out HE.out.1.lt)).trans (turn_root ht8)).trans (Turn.below hw8 hs8.lt)))
            clear hs7 q1 g1 hs8 ht8 hs9 e1 hw8 hwu
            go_wp2_with fail
            go_roundw
            case rel => exact ⟨i + 1, _, by go_num, by omega, HE9.out.1, HE9.out.2⟩
            case measure => simp [intOf]; omega
    · obtain rfl : i = n := by omega
      have t1 : decide ((i : Int) < (i : Int)) = false := decide_eq_false (by omega)
      have t1' : decide (i < i) = false := decide_eq_false (by omega)
      obtain ⟨-, -, -, q3, q4, -⟩ := hs.cells
      have f3 := hs.free 3
      have f4 := hs.free 4
      have HS := Lib.hid (And.intro hs ht)
      clear hs ht hin
      go_wp2_with fail
      refine bodyPost_end (results_none rfl _ _ _) rfl ?_
      obtain ⟨h1, u1⟩ := HS.out.1.setRoot (k := 3) (v := .bool false) (S' := { midS S K i with armed := false }) rfl rfl
      obtain ⟨h2, u2⟩ := h1.setRoot (k := 4) (v := .bool false) (S' := { midS S K i with armed := false, down := false }) rfl rfl
      refine ⟨rfl, own', ⟨M, G, ?_⟩, ((H3.out.2.1.trans HS.out.2).trans (turn_root u1)).trans (turn_root u2)⟩
      have e1 : crashS S K = { midS S K i with armed := false, down := false } := by
        unfold crashS midS
        rw [crashM_all K S.files 0 i (by have := H3.out.2.2.2.2; omega), List.take_of_length_le (by rw [crashL_length]; have := H3.out.2.2.2.2; omega)]
      rw [e1]
      exact h2
end Go.Proofs.YtponfkfeflnilaaGreatDoor
namespace Go.Proofs.YtponfkfeflnilaaGreatDoor

theorem OkS.mono {Z Z' : Nat} {S : StP} (h : OkS Z S) (hZ : Z ≤ Z') : OkS Z' S :=
  ⟨h.sorted, h.used, h.quota, h.neg, h.few, h.left, fun p hp => by have := h.ok p hp; exact ⟨this.1, this.2.1, by omega, by omega, by omega⟩, fun p hp k => Nat.le_trans (h.big p hp k) hZ⟩
theorem OkS.new (q : Int) (hq : -9223372036854775808 ≤ q ∧ q ≤ 9223372036854775807) : OkS 0 (newS q) :=
  ⟨List.Pairwise.nil, rfl, hq, fun _ => rfl, Nat.zero_le _, ⟨by show (0 : Int) ≤ 0; omega, by show (0 : Int) ≤ _; omega, fun h => nomatch h⟩, fun p hp => by simp [newS] at hp, fun p hp => by simp [newS] at hp⟩
theorem OkS.done {Z : Nat} {S : StP} (h : OkS Z S) (hd : S.down = false) : OkS Z (doneS S) := by
  unfold doneS
  split
  · rename_i ha
    have hl := h.left
    have h1 := hl.2.2 ha hd
    exact ⟨h.sorted, h.used, h.quota, h.neg, h.few, ⟨by show 0 ≤ S.left - 1; omega, by show S.left - 1 ≤ _; omega, fun _ h2 => by have := of_decide_eq_false h2; show 1 ≤ S.left - 1; omega⟩, h.ok, h.big⟩
  · exact h
theorem mem_put {l : Files} {x : Bytes} {f : FileP} {q : Bytes × FileP} (h : q ∈ putF l x f) : q = (x, f) ∨ q ∈ l := by
  unfold putF at h
  rcases mem_ins.1 h with h | h
  · exact .inl h
  · exact .inr (List.mem_filter.1 h).1
theorem OkS.put {Z : Nat} {S : StP} (h : OkS Z S) {x : Bytes} {f : FileP} {u : Int} (hx : x.length ≤ 255) (hf : f.ok) (h1 : f.now.length ≤ Z) (h2 : f.kept.length ≤ Z) (h3 : f.since.length ≤ Z) (hb : ∀ k, (runs f.kept (f.since.take k)).length ≤ Z)
    (hfew : (putF S.files x f).length ≤ 10000) (hu : u = (sumF (putF S.files x f) : Nat)) (hn : S.quota < 0 → u = 0) : OkS Z { S with used := u, files := putF S.files x f } :=
  ⟨sorted_put h.sorted x f, hu, h.quota, hn, hfew, h.left, fun p hp => by
    rcases mem_put hp with rfl | hp
    · exact ⟨hf, hx, h1, h2, h3⟩
    · exact h.ok p hp, fun p hp k => by
    rcases mem_put hp with rfl | hp
    · exact hb k
    · exact h.big p hp k⟩
theorem OkS.get {Z : Nat} {S : StP} (h : OkS Z S) (x : Bytes) : ((getF S.files x).getD file0).ok ∧ ((getF S.files x).getD file0).now.length ≤ Z ∧ ((getF S.files x).getD file0).kept.length ≤ Z ∧ ((getF S.files x).getD file0).since.length ≤ Z ∧ ∀ k, (runs ((getF S.files x).getD file0).kept (((getF S.files x).getD file0).since.take k)).length ≤ Z := by
  cases hx : getF S.files x with
  | none => exact ⟨file0_ok, Nat.zero_le _, Nat.zero_le _, Nat.zero_le _, fun k => by simp [file0, runs]⟩
  | some f =>
    have hm := getF_mem hx
    have := h.ok _ hm
    exact ⟨this.1, this.2.2.1, this.2.2.2.1, this.2.2.2.2, h.big _ hm⟩
theorem on_len (c : Chg) (x : Bytes) (h : c.fits x) : (c.on x).length ≤ x.length + c.b.length := by
  unfold Chg.on
  split
  · simp only [List.length_take]; omega
  · rename_i hc
    have := h.2 (by omega)
    simp only [List.length_append, List.length_take, List.length_drop]; omega
theorem big_do {f : FileP} (hf : f.ok) {c : Chg} {Z : Nat} (h : ∀ k, (runs f.kept (f.since.take k)).length ≤ Z) (hc : (c.on f.now).length ≤ Z) : ∀ k, (runs (doF f c).kept ((doF f c).since.take k)).length ≤ Z := fun k => by
  show (runs f.kept ((f.since ++ [c]).take k)).length ≤ Z
  by_cases hk : k ≤ f.since.length
  · rw [List.take_append_of_le_length hk]; exact h k
  · rw [List.take_of_length_le (by rw [List.length_append, List.length_singleton]; omega), runs_snoc, hf.now]; exact hc
theorem right_len {p : Bytes} (h : rightF p = true) : p.length ≤ 255 := by
  unfold rightF at h
  rw [Bool.and_eq_true, Bool.and_eq_true, decide_eq_true_eq] at h
  exact h.1.1

theorem write_len (x : Bytes) (at_ : Nat) (b : Bytes) (h : at_ ≤ x.length) : ((Chg.on ⟨at_, -1, b⟩ x).length : Int) = (x.length : Int) + max 0 ((at_ : Int) + (b.length : Int) - (x.length : Int)) := by
  unfold Chg.on
  rw [if_neg (by show ¬ (0 : Int) ≤ -1; decide)]
  simp only [List.length_append, List.length_take, List.length_drop]
  omega
theorem OkS.write {Z : Nat} {S : StP} (h : OkS Z S) (path : Bytes) (at_ : Int) (b : Bytes) : OkS (Z + b.length + 1) (writeS S path at_ b).1 := by
  unfold writeS
  split
  · exact h.mono (by omega)
  rename_i hd
  split
  · exact h.mono (by omega)
  rename_i hr
  split
  · exact h.mono (by omega)
  split
  · exact h.mono (by omega)
  rename_i hat
  split
  · exact h.mono (by omega)
  rename_i hfull
  rw [Bool.or_eq_true, Bool.not_eq_true', decide_eq_true_eq, not_or] at hr
  have hright : rightF path = true := by cases h1 : rightF path <;> simp_all
  have h0 : 0 ≤ at_ := by omega
  obtain ⟨g1, g2, g3, g4, g5⟩ := h.get path
  generalize hfe : (getF S.files path).getD file0 = f at *
  have hat' : at_.toNat ≤ f.now.length := by omega
  have hfit : Chg.fits ⟨at_.toNat, -1, b⟩ f.now := ⟨fun h => absurd (show (0 : Int) ≤ -1 from h) (by decide), fun _ => hat'⟩
  have hl := on_len ⟨at_.toNat, -1, b⟩ f.now hfit
  change _ ≤ f.now.length + b.length at hl
  have hwl := write_len f.now at_.toNat b hat'
  have hput := sumF_put h.sorted path (doF f ⟨at_.toNat, -1, b⟩)
  rw [hfe] at hput
  change sumF _ + f.now.length = sumF S.files + (Chg.on ⟨at_.toNat, -1, b⟩ f.now).length at hput
  have hm : (at_.toNat : Int) = at_ := by omega
  rw [hm] at hwl
  have hus := h.used
  refine ((h.mono (show Z ≤ Z + b.length + 1 by omega)).put (x := path) (f := doF f ⟨at_.toNat, -1, b⟩) (u := S.used + max 0 (at_ + (b.length : Int) - (f.now.length : Nat))) (right_len hright) (g1.do_ hfit (fun h => absurd (show (0 : Int) ≤ -1 from h) (by decide))) (by show (Chg.on ⟨at_.toNat, -1, b⟩ f.now).length ≤ _; omega) (by show f.kept.length ≤ _; omega) (by show (f.since ++ [_]).length ≤ _; rw [List.length_append, List.length_singleton]; omega) (fun k => ?_) ?_ ?_ ?_).done ?_
  · refine Nat.le_trans (big_do g1 (Z := Z + b.length) (fun k => Nat.le_trans (g5 k) (by omega)) (by omega) k) (by omega)
  · rw [length_put h.sorted]
    split
    · rename_i hn
      have hfew := h.few
      rw [hn] at hfull
      simp only [Option.isNone_none, Bool.true_and, Bool.or_eq_true, decide_eq_true_eq, not_or] at hfull
      omega
    · exact h.few
  · omega
  · intro hq
    have hu0 := h.neg hq
    rw [Bool.or_eq_true, Bool.and_eq_true, decide_eq_true_eq, decide_eq_true_eq, not_or, not_and] at hfull
    have := hfull.1
    omega
  · cases hd2 : S.down <;> simp_all
theorem OkS.cut {Z : Nat} {S : StP} (h : OkS Z S) (path : Bytes) (n : Int) : OkS (Z + 1) (cutS S path n).1 := by
  unfold cutS
  split
  · exact h.mono (by omega)
  rename_i hd
  cases hx : getF S.files path with
  | none => exact h.mono (by omega)
  | some f =>
    simp only []
    split
    · exact h.mono (by omega)
    rename_i hn
    have hm := getF_mem hx
    obtain ⟨g1, g2, g3, g4, g5⟩ := h.ok _ hm
    have g6 := h.big _ hm
    have hfit : Chg.fits ⟨0, n, []⟩ f.now := ⟨fun _ => by show n.toNat ≤ _; omega, fun h => absurd (show n < 0 from h) (by omega)⟩
    have hon : (Chg.on ⟨0, n, []⟩ f.now).length = n.toNat := by unfold Chg.on; rw [if_pos (by show 0 ≤ n; omega)]; rw [List.length_take]; show min n.toNat _ = _; omega
    have hput := sumF_put h.sorted path (doF f ⟨0, n, []⟩)
    rw [hx] at hput
    change sumF _ + f.now.length = sumF S.files + (Chg.on ⟨0, n, []⟩ f.now).length at hput
    have hus := h.used
    refine ((h.mono (show Z ≤ Z + 1 by omega)).put (x := path) (f := doF f ⟨0, n, []⟩) (u := S.used - ((f.now.length : Int) - n)) g2 (g1.do_ hfit (fun _ => rfl)) (by show (Chg.on ⟨0, n, []⟩ f.now).length ≤ _; have h3 : f.now.length ≤ Z := g3; omega) (by show f.kept.length ≤ _; have h4 : f.kept.length ≤ Z := g4; omega) (by show (f.since ++ [_]).length ≤ _; rw [List.length_append, List.length_singleton]; have h5 : f.since.length ≤ Z := g5; omega) (fun k => ?_) ?_ ?_ ?_).done ?_
    · refine Nat.le_trans (big_do g1 (Z := Z) g6 (by have h3 : f.now.length ≤ Z := g3; show (Chg.on ⟨0, n, []⟩ f.now).length ≤ Z; omega) k) (by omega)
    · rw [length_put h.sorted, hx]
      exact h.few
    · omega
    · intro hq
      have hu0 := h.neg hq
      have hle : f.now.length ≤ sumF S.files := sumF_mem hm
      omega
    · cases hd2 : S.down <;> simp_all
theorem OkS.sync {Z : Nat} {S : StP} (h : OkS Z S) (path : Bytes) : OkS Z (syncS S path).1 := by
  unfold syncS
  split
  · exact h
  rename_i hd
  cases hx : getF S.files path with
  | none => exact h
  | some f =>
    have hm := getF_mem hx
    have g := h.ok _ hm
    have g3 : f.now.length ≤ Z := g.2.2.1
    have hput := sumF_put h.sorted path (syncF f)
    rw [hx] at hput
    change sumF _ + f.now.length = sumF S.files + f.now.length at hput
    have hus := h.used
    refine (h.put (x := path) (f := syncF f) (u := S.used) g.2.1 (syncF_ok f) g3 g3 (Nat.zero_le _) (fun k => ?_) ?_ ?_ h.neg).done ?_
    · show (runs f.now (([] : List Chg).take k)).length ≤ Z
      simp only [List.take_nil, runs_nil]
      exact g3
    · rw [length_put h.sorted, hx]
      exact h.few
    · omega
    · cases hd2 : S.down <;> simp_all
theorem OkS.del {Z : Nat} {S : StP} (h : OkS Z S) {x : Bytes} {u : Int} (hu : u = (sumF (delF S.files x) : Nat)) (hn : S.quota < 0 → u = 0) : OkS Z { S with used := u, files := delF S.files x } :=
  ⟨sorted_del h.sorted x, hu, h.quota, hn, Nat.le_trans (length_del_le _ _) h.few, h.left, fun p hp => h.ok p (List.mem_filter.1 hp).1, fun p hp => h.big p (List.mem_filter.1 hp).1⟩
theorem OkS.remove {Z : Nat} {S : StP} (h : OkS Z S) (path : Bytes) : OkS Z (removeS S path).1 := by
  unfold removeS
  split
  · exact h
  rename_i hd
  cases hx : getF S.files path with
  | none => exact h
  | some f =>
    have hm := getF_mem hx
    have hsum := sumF_del h.sorted hx
    have hus := h.used
    refine (h.del (x := path) (u := S.used - (f.now.length : Int)) (by omega) (fun hq => ?_)).done ?_
    · have hu0 := h.neg hq
      have hle : f.now.length ≤ sumF S.files := sumF_mem hm
      omega
    · cases hd2 : S.down <;> simp_all
theorem OkS.rename {Z : Nat} {S : StP} (h : OkS Z S) (src dst : Bytes) : OkS Z (renameS S src dst).1 := by
  unfold renameS
  split
  · exact h
  rename_i hd
  cases hx : getF S.files src with
  | none => exact h
  | some f =>
    simp only []
    split
    · exact h
    rename_i hr
    split
    · exact h
    have hright : rightF dst = true := by cases h1 : rightF dst <;> simp_all
    have hm := getF_mem hx
    have g := h.ok _ hm
    have hsum := sumF_del h.sorted hx
    have hput := sumF_put (sorted_del h.sorted src) dst f
    rw [getF_del] at hput
    have hus := h.used
    have hlen := length_del h.sorted (x := src) (by rw [hx]; simp)
    have hd2 : OkS Z { S with used := ((sumF (delF S.files src) : Nat) : Int), files := delF S.files src } := h.del rfl (fun hq => by have := h.neg hq; omega)
    refine (hd2.put (x := dst) (f := f) (u := S.used - (if dst = src then 0 else ((((getF S.files dst).getD file0).now.length : Nat) : Int))) (right_len hright) g.1 g.2.2.1 g.2.2.2.1 g.2.2.2.2 (h.big _ hm) ?_ ?_ ?_).done ?_
    · show (putF (delF S.files src) dst f).length ≤ 10000
      rw [length_put (sorted_del h.sorted src)]
      have := h.few
      split <;> omega
    · show _ = ((sumF (putF (delF S.files src) dst f) : Nat) : Int)
      by_cases e : dst = src
      · rw [if_pos e] at hput ⊢
        simp [file0] at hput
        omega
      · rw [if_neg e] at hput ⊢
        omega
    · intro hq
      have hu0 := h.neg hq
      by_cases e : dst = src
      · rw [if_pos e]; omega
      · rw [if_neg e]
        cases hg : getF S.files dst with
        | none => simp [file0]; omega
        | some g2 =>
          have hle : g2.now.length ≤ sumF S.files := sumF_mem (getF_mem hg)
          show S.used - ((g2.now.length : Nat) : Int) = 0
          omega
    · show S.down = false
      cases hd2 : S.down <;> simp_all
theorem OkS.arm {Z : Nat} {S : StP} (h : OkS Z S) (n : Int) (hn : n ≤ 9223372036854775807) : OkS Z (armS S n) := by
  unfold armS
  split
  · exact h
  · exact ⟨h.sorted, h.used, h.quota, h.neg, h.few, ⟨by show 0 ≤ max n 0; omega, by show max n 0 ≤ _; omega, fun _ h2 => by have := of_decide_eq_false h2; show 1 ≤ max n 0; omega⟩, h.ok, h.big⟩
theorem crashL_mem {keep : List Int} : ∀ {l : Files} {i : Nat} {p : Bytes × FileP}, p ∈ crashL keep i l → ∃ q ∈ l, ∃ k, p = (q.1, crashF q.2 k)
  | q :: l, i, p, h => by
    unfold crashL at h
    rcases List.mem_cons.1 h with rfl | h
    · exact ⟨q, by simp, _, rfl⟩
    · obtain ⟨r, hr, k, e⟩ := crashL_mem h
      exact ⟨r, by simp [hr], k, e⟩
theorem crashL_keys (keep : List Int) : ∀ (l : Files) (i : Nat), keysF (crashL keep i l) = keysF l
  | [], _ => rfl
  | p :: r, i => by
    unfold crashL keysF
    rw [List.map_cons, List.map_cons]
    have := crashL_keys keep r (i + 1)
    unfold keysF at this
    rw [this]
theorem crashL_len (keep : List Int) (l : Files) (i : Nat) : (crashL keep i l).length = l.length := by
  have := congrArg List.length (crashL_keys keep l i)
  unfold keysF at this
  simpa using this
theorem OkS.crash {Z : Nat} {S : StP} (h : OkS Z S) (keep : List Int) (hn : S.quota < 0 → ∀ p ∈ S.files, ∀ k, (runs p.2.kept (p.2.since.take k)) = []) : OkS Z (crashS S keep) := by
  refine ⟨?_, rfl, h.quota, fun hq => ?_, by show (crashL keep 0 S.files).length ≤ _; rw [crashL_len]; exact h.few, ⟨h.left.1, h.left.2.1, fun h => nomatch h⟩, fun p hp => ?_, fun p hp k => ?_⟩
  · have h1 : (keysF S.files).Pairwise (· < ·) := List.pairwise_map.2 h.sorted
    rw [← crashL_keys keep S.files 0] at h1
    exact List.pairwise_map.1 h1
  · show ((sumF (crashL keep 0 S.files) : Nat) : Int) = 0
    have : ∀ l : Files, (∀ p ∈ l, p.2.now = []) → sumF l = 0 := fun l => by
      induction l with
      | nil => intro _; rfl
      | cons q r ih =>
        intro h2
        simp only [sumF]
        rw [ih fun p hp => h2 p (by simp [hp]), h2 q (by simp)]
        rfl
    rw [this _ fun p hp => ?_]
    · rfl
    · obtain ⟨q, hq2, k, rfl⟩ := crashL_mem hp
      exact hn hq q hq2 k
  · obtain ⟨q, hq, k, rfl⟩ := crashL_mem hp
    exact ⟨crashF_ok _ _, (h.ok q hq).2.1, h.big q hq k, h.big q hq k, Nat.zero_le _⟩
  · obtain ⟨q, hq, j, rfl⟩ := crashL_mem hp
    show (runs (runs q.2.kept (q.2.since.take j)) (([] : List Chg).take k)).length ≤ Z
    rw [List.take_nil, runs_nil]
    exact h.big q hq j
end Go.Proofs.YtponfkfeflnilaaGreatDoor
namespace Go.Proofs.YtponfkfeflnilaaGreatDoor
open Go.RowKit Go.Mix Go.WideMaps Go.Maps

section
variable {own : Owns} {w : World} {p Z : Nat} {S : StP}
theorem write_at (h : StoreAt own w p S) (ok : OkS Z S) (hZ : Z ≤ 100000000) (path : Bytes) (hp : path.length ≤ 100000) (at_ : Int) (hat : -9223372036854775808 ≤ at_ ∧ at_ ≤ 9223372036854775807)
    {ab : Option Addr} {nb cb : Nat} {b : Bytes} (hb : Sl w ab cb b) (hn : nb = b.length) (hbl : nb ≤ 1000000000) (hbo : ∀ x, ab = some x → own x.block = none) :
    Calls Tryz.prog 53 #[ptr p, .string (strOf path), .int .i64 at_, .slice ab nb cb] w fun e w' => Left own w p (writeS S path at_ b) e w' := by
  obtain ⟨M, G, h⟩ := h
  exact write_any h ok hZ path hp at_ hat hb hn hbl hbo
theorem cut_at (h : StoreAt own w p S) (ok : OkS Z S) (hZ : Z ≤ 100000000) (path : Bytes) (hp : path.length ≤ 100000) (n : Int) (hnb : -9223372036854775808 ≤ n ∧ n ≤ 9223372036854775807) :
    Calls Tryz.prog 95 #[ptr p, .string (strOf path), .int .i64 n] w fun e w' => Left own w p (cutS S path n) e w' := by
  obtain ⟨M, G, h⟩ := h
  exact cut_any h ok hZ path hp n hnb
theorem sync_at (h : StoreAt own w p S) (ok : OkS Z S) (path : Bytes) (hp : path.length ≤ 100000) :
    Calls Tryz.prog 97 #[ptr p, .string (strOf path)] w fun e w' => Left own w p (syncS S path) e w' := by
  obtain ⟨M, G, h⟩ := h
  exact sync_any h ok path hp
theorem remove_at (h : StoreAt own w p S) (ok : OkS Z S) (hZ : Z ≤ 100000000) (path : Bytes) (hp : path.length ≤ 100000) :
    Calls Tryz.prog 66 #[ptr p, .string (strOf path)] w fun e w' => Left own w p (removeS S path) e w' := by
  obtain ⟨M, G, h⟩ := h
  exact remove_any h ok hZ path hp
theorem rename_at (h : StoreAt own w p S) (ok : OkS Z S) (hZ : Z ≤ 100000000) (src dst : Bytes) (hp : src.length ≤ 100000) (hp2 : dst.length ≤ 100000) :
    Calls Tryz.prog 99 #[ptr p, .string (strOf src), .string (strOf dst)] w fun e w' => Left own w p (renameS S src dst) e w' := by
  obtain ⟨M, G, h⟩ := h
  exact rename_any h ok hZ src dst hp hp2
theorem read_at (h : StoreAt own w p S) (ok : OkS Z S) (hZ : Z ≤ 100000000) (path : Bytes) (hp : path.length ≤ 100000) :
    Calls Tryz.prog 54 #[ptr p, .string (strOf path)] w fun e w' => ReadIs S.files path w e w' := by
  obtain ⟨M, G, h⟩ := h
  exact read_any h path hp fun q hq => by have := (ok.ok q hq).2.2.1; omega
theorem list_at (h : StoreAt own w p S) (ok : OkS Z S) (under : Bytes) :
    Calls Tryz.prog 32 #[ptr p, .string (strOf under)] w fun e w' => ∃ a c, e = .returned (.slice a (listS S under).length c) ∧ RsAt encS 1 w' a c (listS S under) ∧ Below w.heap.size w w' := by
  obtain ⟨M, G, h⟩ := h
  exact list_any h ok under
theorem arm_at (h : StoreAt own w p S) (n : Int) : Calls Tryz.prog 37 #[ptr p, .int .i64 n] w fun e w' => CrashLeft own w p (armS S n) e w' := by
  obtain ⟨M, G, h⟩ := h
  exact (arm_any h n).mono fun e w' ⟨h1, h2, h3⟩ => ⟨h1, own, ⟨M, G, h2⟩, turn_root h3⟩
theorem crash_at (h : StoreAt own w p S) (ok : OkS Z S) (hZ : Z ≤ 100000000) {ak : Option Addr} {ck nk : Nat} {K : List Int} (hk : RsAt encI 1 w ak ck K) (hnk : nk = K.length) (hkl : nk ≤ 1000000) (hko : ∀ x, ak = some x → own x.block = none) :
    Calls Tryz.prog 38 #[ptr p, .slice ak nk ck] w fun e w' => CrashLeft own w p (crashS S K) e w' := by
  obtain ⟨M, G, h⟩ := h
  exact crash_any h ok hZ hk hnk hkl hko
/-- What was made behind the store is none of it. -/
theorem StoreAt.none_new (h : StoreAt own w p S) {k : Nat} (hk : w.heap.size ≤ k) : own k = none := by
  cases ho : own k with
  | none => rfl
  | some t => exact absurd (h.lt k (by rw [ho]; simp)) (by omega)
end

/-- Bytes of a constant. -/
theorem flat_ints (l : List Int) : flatR encI l = l.map intV := by
  unfold flatR encI one1
  induction l with
  | nil => rfl
  | cons x l ih => rw [List.flatMap_cons, List.map_cons, ih]; rfl
theorem const_bytes (w : World) (l : List UInt8) (hl : l.length ≤ 1000000) (fr : Nat × Nat) : Sl (w.alloc (.cells (bcells l).toArray 5 fr)) (some ⟨w.heap.size, 0, none⟩) l.length l :=
  ⟨.block (heap_alloc_last _ _ _ rfl) (by rw [List.take_of_length_le (by simp [bcells])]; rfl), Nat.le_refl _, by omega, fun h => nomatch h⟩
theorem const_ints (w : World) (l : List Int) (hl : l.length ≤ 1000000) (fr : Nat × Nat) : RsAt encI 1 (w.alloc (.cells (l.map intV).toArray 3 fr)) (some ⟨w.heap.size, 0, none⟩) l.length l :=
  ⟨Nat.le_refl _, by omega, (fun h => nomatch h), .inr ⟨w.heap.size, 0, rfl, (tyI.range_flat l 0).1 fun j v hj => by
    rw [flat_ints] at hj
    rw [cell_of_row _ _ _ _ _ _ (heap_alloc_last w _ _ rfl), Nat.zero_add]
    simpa using hj⟩⟩

/-! ### The example -/
def kn1 : StP := ⟨100, 2, [([97], ⟨[120, 121], [], [⟨0, -1, [120, 121]⟩]⟩)], false, false, 0⟩
def kn2 : StP := ⟨100, 2, [([97], ⟨[120, 121], [120, 121], []⟩)], false, false, 0⟩
def kn3 : StP := ⟨100, 2, [([97], ⟨[120, 122], [120, 121], [⟨1, -1, [122]⟩]⟩)], false, false, 0⟩
def kn4 : StP := ⟨100, 1, [([97], ⟨[120], [120, 121], [⟨1, -1, [122]⟩, ⟨0, 1, []⟩]⟩)], false, false, 0⟩
def kn5 : StP := ⟨100, 2, [([97], ⟨[120, 122], [120, 122], []⟩)], false, false, 0⟩
theorem kn1_eq : writeS (newS 100) [97] 0 [120, 121] = (kn1, 0) := rfl
theorem kn2_eq : syncS kn1 [97] = (kn2, 0) := rfl
theorem kn3_eq : writeS kn2 [97] 1 [122] = (kn3, 0) := rfl
theorem kn4_eq : cutS kn3 [97] 1 = (kn4, 0) := rfl
theorem kn4_no : writeS kn4 [97, 47, 98] 0 [] = (kn4, 9) := rfl
theorem kn5_eq : crashS kn4 [1] = kn5 := rfl
theorem ok0 : OkS 0 (newS 100) := OkS.new 100 ⟨by decide, by decide⟩
theorem ok1 : OkS 3 kn1 := by have := ok0.write [97] 0 [120, 121]; rw [kn1_eq] at this; exact this
theorem ok2 : OkS 3 kn2 := by have := ok1.sync [97]; rw [kn2_eq] at this; exact this
theorem ok3 : OkS 5 kn3 := by have := ok2.write [97] 1 [122]; rw [kn3_eq] at this; exact this
theorem ok4 : OkS 6 kn4 := by have := ok3.cut [97] 1; rw [kn4_eq] at this; exact this
theorem ok5 : OkS 6 kn5 := by have := ok4.crash [1] (fun h => absurd (show (100 : Int) < 0 from h) (by decide)); rw [kn5_eq] at this; exact this

/-- A store that a call has made behind the world w0. -/
structure Live (B : Nat) (w0 : World) (own : Owns) (w : World) (p : Nat) (S : StP) : Prop where
  at_ : StoreAt own w p S
  far : ∀ k, own k ≠ none → B ≤ k
  frame : Below B w0 w
  le : B ≤ w0.heap.size
section
variable {B p : Nat} {w0 w w' : World} {own own' : Owns} {S S' : StP}
theorem Live.turn (h : Live B w0 own w p S) (hs : StoreAt own' w' p S') (g : Turn Any own own' w w') : Live B w0 own' w' p S' := by
  have hB : B ≤ w.heap.size := Nat.le_trans h.le h.frame.size
  refine ⟨hs, fun k hk => ?_, ⟨g.frame.os.trans h.frame.os, g.frame.tape.trans h.frame.tape, g.frame.output.trans h.frame.output, Nat.le_trans h.frame.size g.frame.size, fun k hk => ?_⟩, h.le⟩
  · by_cases hlt : k < w.heap.size
    · rw [g.ow.old k hlt] at hk
      exact h.far k hk
    · omega
  · refine (g.frame.keep k ⟨Nat.lt_of_lt_of_le hk hB, fun ho => ?_⟩).2.trans (h.frame.block k hk)
    exact absurd (h.far k ho) (by omega)
theorem Live.below (h : Live B w0 own w p S) (g : Below w.heap.size w w') : Live B w0 own w' p S := ⟨h.at_.below g, h.far, h.frame.trans (g.mono (Nat.le_trans h.le h.frame.size)), h.le⟩
theorem Live.left (h : Live B w0 own w p S) {r : StP × Int} {e : Ending} (k : Left own w p r e w') : e = .returned (.int .i64 r.2) ∧ ∃ own', Live B w0 own' w' p r.1 := by
  obtain ⟨e1, own', h1, h2⟩ := k
  exact ⟨e1, own', h.turn h1 h2⟩
theorem Live.crashed (h : Live B w0 own w p S) {e : Ending} (k : CrashLeft own w p S' e w') : e = .returned (.tuple #[]) ∧ ∃ own', Live B w0 own' w' p S' := by
  obtain ⟨e1, own', h1, h2⟩ := k
  exact ⟨e1, own', h.turn h1 h2⟩
theorem Live.not_new (h : Live B w0 own w p S) {k : Nat} (hk : w.heap.size ≤ k) : own k = none := h.at_.none_new hk
theorem Live.not_old (h : Live B w0 own w p S) {k : Nat} (hk : k < B) : own k = none := by
  cases ho : own k with
  | none => rfl
  | some t => exact absurd (h.far k (by rw [ho]; simp)) (by omega)
end
theorem new_live (q : Int) (w : World) : Calls Tryz.prog 33 #[.int .i64 q] w fun e w' => ∃ p own, e = .returned (ptr p) ∧ Live w.heap.size w own w' p (newS q) :=
  (new_any q w).mono fun _ _ ⟨p, own, h1, h2, h3, h4⟩ => ⟨p, own, h1, h2, h3, h4, Nat.le_refl _⟩

end Go.Proofs.YtponfkfeflnilaaGreatDoor
namespace Go.Proofs.YtponfkfeflnilaaGreatDoor
open Go.RowKit Go.Mix Go.WideMaps Go.Maps

theorem Sl.foreign2 {own own' : Owns} {w w' : World} {T : Option Own → Prop} {a : Option Addr} {c : Nat} {l : Bytes} (h : Sl w a c l) (g : Turn T own own' w w') (hT : ¬ T none) (ho : l ≠ [] → ∀ x, a = some x → own x.block = none) : Sl w' a c l := by
  by_cases hl : l = []
  · subst hl; exact ⟨.inl rfl, h.le, h.max, h.non⟩
  · exact h.foreign g hT (ho hl)
theorem Sl.blk {w : World} {a : Option Addr} {c : Nat} {l : Bytes} (h : Sl w a c l) (hl : l ≠ []) : ∀ x, a = some x → x.block < w.heap.size := fun x hx => by
  rcases h.bs with h | ⟨b, off, e, hc⟩
  · exact absurd h hl
  · rw [e] at hx
    injection hx with hx
    subst hx
    exact lt_of_cell (hc 0 (List.length_pos_iff.2 hl))

set_option maxRecDepth 100000 in
set_option maxHeartbeats 8000000 in
theorem write_any2 {own : Owns} {w : World} {p M Z : Nat} {G : Bytes → Nat} {S : StP} (h : StoreIn own w p M G S) (ok : OkS Z S) (hZ : Z ≤ 100000000) (path : Bytes) (hp : path.length ≤ 100000) (at_ : Int) (hat : -9223372036854775808 ≤ at_ ∧ at_ ≤ 9223372036854775807)
    {ab : Option Addr} {nb cb : Nat} {b : Bytes} (hb : Sl w ab cb b) (hn : nb = b.length) (hbl : nb ≤ 1000000000) (hbo : b ≠ [] → ∀ x, ab = some x → own x.block = none) :
    Calls Tryz.prog 53 #[ptr p, .string (strOf path), .int .i64 at_, .slice ab nb cb] w fun e w' => Left own w p (writeS S path at_ b) e w' := by
  have C1 := off_any h
  have C2 := right_any path hp w
  have HH := Lib.hid (And.intro h (And.intro ok (And.intro hb hn)))
  have HZ := Lib.hid (And.intro hZ hp)
  have HBO := Lib.hid hbo
  clear h ok hb hn hZ hp hbo
  obtain ⟨D, hD⟩ : ∃ D, D = S.down := ⟨_, rfl⟩
  obtain ⟨R, hR⟩ : ∃ R, R = rightF path := ⟨_, rfl⟩
  rw [← hD] at C1
  rw [← hR] at C2
  have HD := Lib.hid hD
  have HR := Lib.hid hR
  clear hD hR
  go_enter Tryz.func53, Tryz.ntmps53
  go_wp2_with fail
  refine C1.mono ?_
  clear C1
  rintro e w' ⟨rfl, rfl⟩
  cases D
  case true =>
    go_wp2_with fail
    go_ret
    unfold writeS
    rw [if_pos HD.out.symm]
    exact Left.same HH.out.1 (Below.refl _ _) _
  go_wp2_with fail
  refine C2.mono ?_
  clear C2
  rintro e w1 ⟨rfl, hw1⟩
  have H1 := Lib.hid hw1
  clear hw1
  cases R
  case false =>
    go_wp2_with fail
    go_ret
    unfold writeS
    rw [if_neg (by rw [← HD.out]; simp), if_pos (by rw [← HR.out]; rfl)]
    exact Left.same HH.out.1 H1.out _
  by_cases h0 : at_ < 0
  · have t0 : decide (at_ < 0) = true := decide_eq_true h0
    go_wp2_with fail
    go_ret
    unfold writeS
    rw [if_neg (by rw [← HD.out]; simp), if_pos (by rw [decide_eq_true h0]; simp)]
    exact Left.same HH.out.1 H1.out _
  have t0 : decide (at_ < 0) = false := decide_eq_false h0
  have C3 := free_any (HH.out.1.below H1.out) (fun q hq => (HH.out.2.1.ok q hq).2.1) path path HZ.out.2
  obtain ⟨F, hF⟩ : ∃ F, F = freeF S.files path path := ⟨_, rfl⟩
  rw [← hF] at C3
  have HF := Lib.hid hF
  clear hF
  go_wp2_with fail
  refine C3.mono ?_
  clear C3
  rintro e w2 ⟨rfl, hw2⟩
  have H2 := Lib.hid (H1.out.trans (hw2.mono H1.out.size))
  clear hw2
  cases F
  case false =>
    go_wp2_with fail
    go_ret
    unfold writeS
    rw [if_neg (by rw [← HD.out]; simp), if_neg (by rw [← HR.out, decide_eq_false (by omega)]; simp), if_pos (by rw [← HF.out]; rfl)]
    exact Left.same HH.out.1 H2.out _
  have h2 := HH.out.1.below H2.out
  obtain ⟨-, -, c2, -⟩ := h2.cells
  have LK := h2.map.look_ok path (by have := HZ.out.2; omega)
  have HS2 := Lib.hid h2
  clear h2
  obtain ⟨K, hK⟩ : ∃ K, K = (getF S.files path).isSome := ⟨_, rfl⟩
  have HK := Lib.hid hK
  obtain ⟨V, hV⟩ : ∃ V, V = placeV G S.files path := ⟨_, rfl⟩
  have HV := Lib.hid hV
  rw [← hK, ← hV] at LK
  clear hK hV
  go_upto_if 36 with (fail)
  go_cut [9] (fun s9 wx => ∃ b own3, s9 = ptr b ∧ StoreIn own3 wx p M G S ∧ FileAt own3 wx b ((getF S.files path).getD file0) ∧ Turn Any own own3 w wx ∧ ∀ y, y ≠ path → (getF S.files y).isSome = true → G y ≠ b)
  case first =>
    have HX := HK.out
    cases hx : getF S.files path with
    | none =>
      rw [hx] at HX
      obtain rfl : K = false := HX
      have hv : V = .pointer none := by rw [HV.out]; exact placeV_none hx
      subst hv
      have HX2 := Lib.hid hx
      clear hx
      go_wp2_with fail
      go_meet
      obtain ⟨g1, g2⟩ := HS2.out.newBytes ((Below.refl w2.heap.size w2).alloc (Nat.le_refl _) (.cells #[.slice none 0 0, .slice none 0 0, .slice none 0 0] 132)) (fun _ => .file w2.heap.size)
      refine ⟨_, _, rfl, g1, ?_, (Turn.below (T := Any) H2.out HH.out.1.lt).trans (turn_no g2), fun y _ hy e => ?_⟩
      · rw [HX2.out]; exact file_new own w2
      · obtain ⟨f, hf⟩ := Option.isSome_iff_exists.1 hy
        have := HS2.out.lt (G y) (by rw [(HS2.out.file y f hf).tag]; simp)
        omega
    | some f =>
      rw [hx] at HX
      obtain rfl : K = true := HX
      have hv : V = ptr (G path) := by rw [HV.out]; exact placeV_some hx
      subst hv
      have HX2 := Lib.hid hx
      clear hx
      go_wp2_with fail
      go_meet
      refine ⟨_, _, rfl, HS2.out, ?_, Turn.below (T := Any) H2.out HH.out.1.lt, fun y hy hs e => hy (HS2.out.inj y path hs (by rw [HX2.out]; rfl) e)⟩
      rw [HX2.out]; exact HS2.out.file path f HX2.out
  case rest =>
    obtain ⟨bf, own3, rfl, hs3, hf3, ht3, hG3⟩ := hcut
    obtain ⟨f, hf⟩ : ∃ f, f = (getF S.files path).getD file0 := ⟨_, rfl⟩
    rw [← hf] at hf3
    have hfo : f.ok ∧ f.now.length ≤ Z ∧ f.since.length ≤ Z := by
      rw [hf]
      cases hx : getF S.files path with
      | none => exact ⟨file0_ok, Nat.zero_le _, Nat.zero_le _⟩
      | some g =>
        have := HH.out.2.1.ok _ (getF_mem hx)
        exact ⟨this.1, this.2.2.1, this.2.2.2.2⟩
    obtain ⟨v1, v2, v3, L, p1, ⟨a1, c1, rfl, s1, o1⟩, -⟩ := hf3.ex
    have k0 := cell_blk p1 0 _ rfl
    obtain ⟨nn, hnn⟩ : ∃ nn, nn = f.now.length := ⟨_, rfl⟩
    rw [← hnn] at k0
    obtain ⟨q0, q1, q2, -⟩ := hs3.cells
    have SZ := hs3.map.size HH.out.2.1.sorted
    obtain ⟨nf, hnf⟩ : ∃ nf, nf = S.files.length := ⟨_, rfl⟩
    rw [← hnf] at SZ
    have hused := HH.out.2.1.used
    have hsum := sumF_le Z S.files (fun q hq => (HH.out.2.1.ok q hq).2.2.1)
    have hfew := HH.out.2.1.few
    have hZ := HZ.out.1
    have hmul : Z * S.files.length ≤ 1000000000000 := Nat.le_trans (Nat.mul_le_mul hZ hfew) (by decide)
    have husedb : 0 ≤ S.used ∧ S.used ≤ 1000000000000 := by rw [hused]; omega
    have hquota := HH.out.2.1.quota
    have hneg := HH.out.2.1.neg
    have hwq : IntKind.i64.wrap (S.quota - S.used) = S.quota - S.used := IntWalk.i64_in _ (by omega)
    have hnnb : nn ≤ 100000000 := by rw [hnn]; omega
    have H3 := Lib.hid (And.intro hs3 (And.intro hf3 (And.intro ht3 (And.intro hG3 (And.intro hf (And.intro hfo (And.intro hnn (And.intro hnf (And.intro hfew husedb)))))))))
    have HQ := Lib.hid hwq
    clear hs3 hf3 ht3 hG3 hf hfo p1 s1 o1 hnn hnf hused hsum hfew hZ hmul hneg hquota hwq c2 LK
    by_cases h1 : (nn : Int) < at_
    · have t1 : decide ((nn : Int) < at_) = true := decide_eq_true h1
      go_wp2_with fail
      go_ret
      unfold writeS
      rw [if_neg (by rw [← HD.out]; simp), if_neg (by rw [← HR.out, decide_eq_false (by omega)]; simp), if_neg (by rw [← HF.out]; simp), if_pos (by rw [← H3.out.2.2.2.2.1, ← H3.out.2.2.2.2.2.2.1]; exact h1)]
      exact ⟨rfl, own3, ⟨M, G, H3.out.1⟩, H3.out.2.2.1⟩
    have t1 : decide ((nn : Int) < at_) = false := decide_eq_false h1
    obtain ⟨mo, hmo⟩ : ∃ mo, mo = max 0 (at_ + (nb : Int) - (nn : Int)) := ⟨_, rfl⟩
    have MX := max_run 0 (at_ + (nb : Int) - (nn : Int)) mo hmo
    have HM := Lib.hid hmo
    have hmob : 0 ≤ mo ∧ mo ≤ 1000000000 := by omega
    clear hmo
    obtain ⟨qu, hqu⟩ : ∃ qu, qu = S.quota := ⟨_, rfl⟩
    obtain ⟨us, hus⟩ : ∃ us, us = S.used := ⟨_, rfl⟩
    have HQU := Lib.hid (And.intro hqu hus)
    have hwq := HQ.out
    rw [← hqu] at q0
    rw [← hus] at q1
    rw [← hqu, ← hus] at hwq
    have LQ : ∀ x : Later wc, x.1.cell? ⟨p, 0, none⟩ = some (.int .i64 qu) := fun x => load_later q0 x
    have LU : ∀ x : Later wc, x.1.cell? ⟨p, 1, none⟩ = some (.int .i64 us) := fun x => load_later q1 x
    have LM : ∀ x : Later wc, x.1.cell? ⟨p, 2, none⟩ = some (.map (some M)) := fun x => load_later q2 x
    have LZ : ∀ (x : Later wc) (ty : TypeId), (Builtin.len_ #[126] ty #[.map (some M)]).run Tryz.prog x.1 = .ok (.int .i64 (nf : Int)) x.1 := fun x ty => by
      have h1 := (H3.out.1.map.same (x.2.block M H3.out.1.map.lt)).size HH.out.2.1.sorted ty
      rw [← H3.out.2.2.2.2.2.2.2.1] at h1
      exact h1
    obtain ⟨B1, hB1⟩ : ∃ B, B = decide (qu - us < mo) := ⟨_, rfl⟩
    obtain ⟨B2, hB2⟩ : ∃ B, B = decide (0 < mo) := ⟨_, rfl⟩
    obtain ⟨B4, hB4⟩ : ∃ B, B = decide ((10000 : Int) ≤ (nf : Int)) := ⟨_, rfl⟩
    have HB := Lib.hid (And.intro hB1 (And.intro hB2 hB4))
    clear hqu hus q0 q1 q2 SZ hB1 hB2 hB4
    go_upto_region 13 with (fail)
    clear k0 MX
    go_cut [83] (fun s83 wx => s83 = .bool ((B1 && B2) || (!K && B4)) ∧ Below wc.heap.size wc wx)
    case first =>
      have e1 : decide (qu - us < mo) = B1 := HB.out.1.symm
      have e2 : decide (0 < mo) = B2 := HB.out.2.1.symm
      have e4 : decide ((10000 : Int) ≤ (nf : Int)) = B4 := HB.out.2.2.symm
      clear HB
      have hca : (B1 = true ∧ B2 = true) ∨ ((B1 = false ∨ (B1 = true ∧ B2 = false)) ∧ (K = true ∨ (K = false ∧ (B4 = true ∨ B4 = false)))) := by
        cases B1 <;> cases B2 <;> cases K <;> cases B4 <;> simp
      rcases hca with ⟨rfl, rfl⟩ | ⟨rfl | ⟨rfl, rfl⟩, rfl | ⟨rfl, rfl | rfl⟩⟩
      all_goals
        refine wp_region_mg [(0, 0), (1, 0), (2, 0), (3, 0), (4, 0), (5, 0), (6, 0), (7, 0), (8, 0), (9, 0), (10, 0), (11, 0), (12, 0), (13, 0), (14, 0), (15, 0), (16, 0), (17, 0), (18, 0), (19, 0), (20, 0), (21, 0), (22, 0), (23, 0), (24, 0), (25, 0), (26, 0)] (by kernel_rfl) (by kernel_rfl) ?_
        iterate 27 (refine mg_calm rfl (fun K hK => ?_); go_simp; (refine hK _ ?_; clear hK K))
        refine mg_nil fun w5 hw5 => ?_
        have H5 := Lib.hid hw5
        clear hw5
        go_wp2_with fail
        go_meet
        exact ⟨by simp, H5.out⟩
    case rest =>
      obtain ⟨rfl, hw5⟩ := hcut
      have H5 := Lib.hid hw5
      clear hw5 LQ LU LM LZ hwq
      obtain ⟨full, hfull⟩ : ∃ full, full = ((B1 && B2) || (!K && B4)) := ⟨_, rfl⟩
      have hfull2 : full = ((decide (max 0 (at_ + (b.length : Int) - (((getF S.files path).getD file0).now.length : Nat)) > S.quota - S.used) && decide (max 0 (at_ + (b.length : Int) - (((getF S.files path).getD file0).now.length : Nat)) > 0)) || ((getF S.files path).isNone && decide (10000 ≤ S.files.length))) := by
        rw [hfull, HB.out.1, HB.out.2.1, HB.out.2.2, HM.out, HQU.out.1, HQU.out.2, HK.out, HH.out.2.2.2, H3.out.2.2.2.2.2.2.1, H3.out.2.2.2.2.1, H3.out.2.2.2.2.2.2.2.1]
        have e4 : decide ((10000 : Int) ≤ (S.files.length : Int)) = decide (10000 ≤ S.files.length) := by rw [Bool.eq_iff_iff, decide_eq_true_eq, decide_eq_true_eq]; omega
        rw [e4]
        cases getF S.files path <;> rfl
      have HFU := Lib.hid hfull2
      rw [← hfull]
      clear hfull hfull2
      cases full
      case true =>
        go_wp2_with fail
        go_ret
        unfold writeS
        rw [if_neg (by rw [← HD.out]; simp), if_neg (by rw [← HR.out, decide_eq_false (by omega)]; simp), if_neg (by rw [← HF.out]; simp), if_neg (by rw [← H3.out.2.2.2.2.1, ← H3.out.2.2.2.2.2.2.1]; omega), if_pos HFU.out.symm]
        exact ⟨rfl, own3, ⟨M, G, H3.out.1.below H5.out⟩, H3.out.2.2.1.trans (Turn.below H5.out H3.out.1.lt)⟩
      have hs5 := H3.out.1.below H5.out
      have hf5 := H3.out.2.1.turn (T := fun _ => False) (Turn.below H5.out H3.out.1.lt) H3.out.1.lt id id
      obtain ⟨w6, hrun, hs6, ht6⟩ := hs5.putMap HH.out.2.1.sorted (by have := HH.out.2.1.few; omega) (x := path) (by have := HZ.out.2; omega) hf5 H3.out.2.2.2.1
      obtain ⟨-, -, q2, -⟩ := hs5.cells
      have HT5 := Lib.hid (H3.out.2.2.1.trans (Turn.below (T := Any) H5.out H3.out.1.lt))
      have H6 := Lib.hid (And.intro hs6 ht6)
      clear hs5 hf5 hs6 ht6
      go_upto_region 16 with (fail)
      obtain ⟨-, q1, -⟩ := H6.out.1.cells
      have f1 := H6.out.1.free 1
      have hwu : IntKind.i64.wrap (us + mo) = us + mo := IntWalk.i64_in _ (by have := H3.out.2.2.2.2.2.2.2.2.2; rw [← HQU.out.2] at this; omega)
      change _ = some (Value.int .i64 S.used) at q1
      rw [← HQU.out.2] at q1
      obtain ⟨hs7, ht7⟩ := H6.out.1.setRoot (k := 1) (v := .int .i64 (us + mo)) (S' := { S with used := us + mo, files := putF S.files path f }) rfl rfl
      have H7 := Lib.hid (And.intro hs7 ((HT5.out.trans (turn_root H6.out.2)).trans (turn_root ht7)))
      clear hs7 ht7 q2
      go_upto_region 17 with (fail)
      clear q1 f1 hwu
      generalize w6.setCell ⟨p, 1, none⟩ (Value.int .i64 (us + mo)) = w7 at *
      have s7 := HH.out.2.2.1.foreign2 H7.out.2 (by simp) HBO.out
      have CC := clone_any s7 rfl (by have := HH.out.2.2.2; omega)
      rw [← HH.out.2.2.2] at CC
      clear s7
      go_wp2_with fail
      refine CC.mono ?_
      clear CC
      rintro e w8 ⟨v, rfl, h8⟩
      obtain ⟨av, nv, cv, rfl⟩ := h8.1.slice
      obtain ⟨hs8, ht8⟩ := H7.out.1.newBytes h8.2.1 (fun _ => .bytes)
      have sb8 := slO_buf own3 h8.1
      have hfit : Chg.fits ⟨at_.toNat, -1, b⟩ f.now := ⟨fun h => absurd (show (0 : Int) ≤ -1 from h) (by decide), fun _ => by show at_.toNat ≤ f.now.length; rw [← H3.out.2.2.2.2.2.2.1]; omega⟩
      have hf8 := hs8.file path f (by show getF (putF S.files path f) path = some f; rw [getF_put, if_pos rfl])
      have hG : updG G path bf path = bf := by simp [updG]
      rw [hG] at hf8
      have CD := do_any hf8 hs8.lt (ca := ⟨at_, -1, av, nv, cv⟩) (c := ⟨at_.toNat, -1, b⟩) ⟨by show at_ = (at_.toNat : Int); omega, rfl, sb8⟩ hfit (by have := H3.out.2.2.2.2.2.2.1; omega) (by show b.length ≤ _; have := HH.out.2.2.2; omega) (by have := H3.out.2.2.2.2.2.1.2.2; have := HZ.out.1; omega)
      rw [show recA encC (⟨at_, -1, av, nv, cv⟩ : ChgA) = #[Value.int .i64 at_, Value.int .i64 (-1), Value.slice av nv cv] from rfl] at CD
      have H8 := Lib.hid (And.intro hs8 (H7.out.2.trans (turn_no ht8)))
      have HG := Lib.hid hG
      clear h8 hs8 ht8 sb8 hfit hf8 hG
      go_wp2_with fail
      refine CD.mono ?_
      clear CD
      rintro e w9 ⟨rfl, own9, hf9, ht9⟩
      have hs9 := H8.out.1.filed (x := path) (f := doF f ⟨at_.toNat, -1, b⟩) (by show (getF (putF S.files path f) path).isSome = true; rw [getF_put, if_pos rfl]; rfl) (by rw [HG.out]; exact ht9) (by rw [HG.out]; exact hf9)
      rw [show (({ S with used := us + mo, files := putF S.files path f } : StP).files) = putF S.files path f from rfl, putF_put HH.out.2.1.sorted] at hs9
      have CE := done_any hs9 (fun _ => by have := HH.out.2.1.left; show -1000 ≤ S.left ∧ S.left ≤ _; omega)
      have H9 := Lib.hid (H8.out.2.trans (turn_file ht9))
      clear hs9 hf9 ht9
      go_wp2_with fail
      refine CE.mono ?_
      clear CE
      rintro e w10 ⟨rfl, hs10, ht10⟩
      have H10 := Lib.hid (And.intro hs10 (H9.out.trans (turn_root ht10)))
      clear hs10 ht10
      go_wp2_with fail
      go_ret
      unfold writeS
      rw [if_neg (by rw [← HD.out]; simp), if_neg (by rw [← HR.out, decide_eq_false (by omega)]; simp), if_neg (by rw [← HF.out]; simp), if_neg (by rw [← H3.out.2.2.2.2.1, ← H3.out.2.2.2.2.2.2.1]; omega), if_neg (by rw [← HFU.out]; simp)]
      refine ⟨rfl, _, ⟨M, updG G path bf, ?_⟩, H10.out.2⟩
      have e1 : S.used + max 0 (at_ + (b.length : Int) - (((getF S.files path).getD file0).now.length : Nat)) = us + mo := by
        rw [HM.out, HQU.out.2, HH.out.2.2.2, H3.out.2.2.2.2.2.2.1, H3.out.2.2.2.2.1]
      show StoreIn _ _ _ _ _ (doneS { S with used := S.used + max 0 (at_ + (b.length : Int) - (((getF S.files path).getD file0).now.length : Nat)), files := putF S.files path (doF ((getF S.files path).getD file0) ⟨at_.toNat, -1, b⟩) })
      rw [e1, ← H3.out.2.2.2.2.1]
      exact H10.out.1

theorem write_at2 {own : Owns} {w : World} {p Z : Nat} {S : StP} (h : StoreAt own w p S) (ok : OkS Z S) (hZ : Z ≤ 100000000) (path : Bytes) (hp : path.length ≤ 100000) (at_ : Int) (hat : -9223372036854775808 ≤ at_ ∧ at_ ≤ 9223372036854775807)
    {ab : Option Addr} {nb cb : Nat} {b : Bytes} (hb : Sl w ab cb b) (hn : nb = b.length) (hbl : nb ≤ 1000000000) (hbo : b ≠ [] → ∀ x, ab = some x → own x.block = none) :
    Calls Tryz.prog 53 #[ptr p, .string (strOf path), .int .i64 at_, .slice ab nb cb] w fun e w' => Left own w p (writeS S path at_ b) e w' := by
  obtain ⟨M, G, h⟩ := h
  exact write_any2 h ok hZ path hp at_ hat hb hn hbl hbo
set_option maxRecDepth 100000 in
set_option maxHeartbeats 2000000 in
/-- A path however long. -/
theorem right_all (s : List UInt8) (w : World) : Calls Tryz.prog 85 #[.string (strOf s)] w fun e w' => e = .returned (.bool (rightF s)) ∧ Below w.heap.size w w' := by
  by_cases hl : s.length ≤ 100000
  · exact right_any s hl w
  · have hsz : (strOf s).size = s.length := strOf_size s
    have hN : rightF s = false := by unfold rightF; rw [decide_eq_false (by omega)]; rfl
    rw [hN]
    obtain ⟨n, hn⟩ : ∃ n, n = s.length := ⟨_, rfl⟩
    rw [← hn] at hsz hl
    clear hN hn
    generalize strOf s = S at *
    have h1' : decide ((255 : Int) < (n : Int)) = true := decide_eq_true (by omega)
    have h1'' : decide (255 < n) = true := decide_eq_true (by omega)
    have HB := Lib.hid (Below.refl w.heap.size w)
    clear hl
    go_enter Tryz.func85, Tryz.ntmps85
    go_wp2_with fail
    go_ret
    exact ⟨rfl, HB.out⟩
set_option maxRecDepth 100000 in
set_option maxHeartbeats 2000000 in
theorem write_bad {own : Owns} {w : World} {p : Nat} {S : StP} (h : StoreAt own w p S) (hd : S.down = false) (path : Bytes) (hr : rightF path = false) (at_ : Int) (v : Value) :
    Calls Tryz.prog 53 #[ptr p, .string (strOf path), .int .i64 at_, v] w fun e w' => e = .returned (.int .i64 1) ∧ Below w.heap.size w w' := by
  obtain ⟨M, G, h⟩ := h
  have C1 := off_any h
  have C2 := right_all path w
  rw [hd] at C1
  rw [hr] at C2
  clear h hd hr
  go_enter Tryz.func53, Tryz.ntmps53
  go_wp2_with fail
  refine C1.mono ?_
  clear C1
  rintro e w' ⟨rfl, rfl⟩
  go_wp2_with fail
  refine C2.mono ?_
  clear C2
  rintro e w1 ⟨rfl, hw1⟩
  have H1 := Lib.hid hw1
  clear hw1
  go_wp2_with fail
  go_ret
  exact ⟨rfl, H1.out⟩
end Go.Proofs.YtponfkfeflnilaaGreatDoor
