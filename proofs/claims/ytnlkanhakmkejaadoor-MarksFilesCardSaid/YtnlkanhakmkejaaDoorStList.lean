/-
  (*Store).List: the walk.
-/
import Derived.Test.YtnlkanhakmkejaaDoorStOps2
import Derived.Test.YtnlkanhakmkejaaDoorIter
import Derived.Test.YtnlkanhakmkejaaDoorShelfD
import Derived.Test.YtnlkanhakmkejaaDoorTexts
import Derived.Sort.OwnSorted
namespace Go.Proofs.YtnlkanhakmkejaaDoor
open Go.RowKit Go.Mix Go.WideMaps Go.Maps

theorem keys_sorted {l : Files} (hs : Sorted l) {D : DataW Unit} {ss : List Bytes} (hp : ss.Perm (strKeys D)) (hk : (keysF l).Perm (strKeys D)) : ss.mergeSort (fun x y => decide (x ≤ y)) = keysF l := by
  rw [mergeSort_of_perm (hp.trans hk.symm)]
  refine List.mergeSort_of_pairwise ?_
  unfold keysF
  refine List.pairwise_map.2 (hs.imp fun h => ?_)
  exact decide_eq_true (List.le_of_lt h)
theorem listS_all (S : StP) : listS S [] = keysF S.files := by
  unfold listS
  exact List.filter_eq_self.2 fun _ _ => rfl

set_option maxRecDepth 100000 in
theorem begins_not (x under : Bytes) (B : Nat) (W : World) (hc : W.cell? ⟨B, 0, none⟩ = some (.string (strOf under))) : Calls Tryd.prog 23 #[.string (strOf x), ptr B] W fun e w' => e = .returned (.bool (!under.isPrefixOf x)) ∧ W = w' := by
  have C := pre_any x under W
  generalize under.isPrefixOf x = b at *
  go_enter Tryd.func23, Tryd.ntmps23
  go_wp2_with fail
  refine C.mono ?_
  clear C
  rintro e w' ⟨rfl, rfl⟩
  go_wp2_with fail
  go_ret
  exact ⟨rfl, rfl⟩
theorem begins_gives (x under : Bytes) (B : Nat) (W : World) (hc : W.cell? ⟨B, 0, none⟩ = some (.string (strOf under))) : FnGives Tryd.prog 23 #[ptr B] #[strV x] (.bool (!under.isPrefixOf x)) W := by
  have := begins_not x under B W hc
  exact this.mono fun e w' ⟨h1, h2⟩ => ⟨h1, 0, h2.symm⟩

set_option maxRecDepth 100000 in
theorem idxNone (v : Value) (w : World) : Calls Tryd.prog 40 #[.slice none 0 0, v] w fun e w' => e = .returned (.int .i64 (-1)) ∧ w = w' := by
  go_enter Tryd.func40, Tryd.ntmps40
  go_wp2_with fail
  refine wp_loop_rounds 1 ?_
  rw [rounds_succ]
  go_wp2_with fail
  go_ret
  exact ⟨rfl, rfl⟩
set_option maxRecDepth 100000 in
theorem delNone (v : Value) (w : World) : Calls Tryd.prog 20 #[.slice none 0 0, v] w fun e w' => e = .returned (.slice none 0 0) ∧ w = w' := by
  have C := idxNone v w
  go_enter Tryd.func20, Tryd.ntmps20
  go_wp2_with fail
  refine C.mono ?_
  clear C
  rintro e w' ⟨rfl, rfl⟩
  go_wp2_with fail
  go_ret
  exact ⟨rfl, rfl⟩
/-- slices.DeleteFunc of texts that don't begin so. -/
theorem delBegins {w : World} {g B n cap : Nat} {cur : Array Value} {e : TypeId} (l : List Bytes) (under : Bytes) (hb : w.heap[g]? = some (.cells cur e (0, 0))) (hn : n = l.length) (hc : cur.toList.take l.length = l.map strV) (hcs : cur.size = cap) (hcap : l.length ≤ cap) (hlen : cap ≤ 9223372036854775807) (hB : B < w.heap.size) (hne : B ≠ g) (hcell : w.cell? ⟨B, 0, none⟩ = some (.string (strOf under))) (N : Nat) (hN : N ≤ g) :
    Calls Tryd.prog 20 #[.slice (some ⟨g, 0, none⟩) n cap, .func (.func 23) #[] #[ptr B]] w fun e w' => e = .returned (.slice (some ⟨g, 0, none⟩) (l.filter fun p => under.isPrefixOf p).length cap) ∧ RsAt encS 1 w' (some ⟨g, 0, none⟩) cap (l.filter fun p => under.isPrefixOf p) ∧ Below N w w' := by
  subst hn
  have hH : Go.Sort.Holds strV w g 0 l.toArray := holds_of_block hb hc
  have eg : ∀ args w, (callFunc 23 args).run Tryd.prog w = .ok (.enter 23 args) w := enters_of Tryd.func23 (by kernel_rfl) rfl
  have hcon := AnyE.slices_DeleteFunc Tryd.lgDelete strV (fun _ => rfl) (fun x => !under.isPrefixOf x) 23 #[ptr B] eg [] (fun w => by kernel_rfl) g 0 cap l.toArray w
    (fun W x hb => begins_gives x under B W ((hb.cell (p := ⟨B, 0, none⟩) hB).trans hcell))
    (fun n os dk x _ => begins_gives x under B _ (by
      unfold sortWorld
      rw [Go.Sort.cell?_grow _ _ _ (by show B < (Go.Sort.putRow _ _ _ _ _).heap.size; rw [Go.Sort.size_putRow]; exact hB), Go.Sort.cell?_putRow_other _ _ g 0 _ _ (Or.inl hne)]
      exact hcell)) hH (by simp; omega) (by simpa using hcap)
  have e1 : (l.toArray.toList.filter fun x => !(!under.isPrefixOf x)) = l.filter fun p => under.isPrefixOf p := by simp
  rw [e1] at hcon
  refine hcon.mono ?_
  rintro e w' ⟨rfl, q, rfl⟩
  have hle : (l.filter fun p => under.isPrefixOf p).length ≤ l.length := List.length_filter_le _ _
  refine ⟨rfl, ⟨by omega, hlen, (fun h => nomatch h), .inr ⟨g, 0, rfl, (tyS.range_flat _ 0).1 fun j v hj => ?_⟩⟩, ⟨rfl, rfl, rfl, by simp [Go.Sort.putRow, Go.Sort.mapBlock, Go.Sort.ahead], fun k hk => ?_⟩⟩
  · have hh : (Go.Sort.putRow strV (Go.Sort.ahead w q) g 0 ((l.filter fun p => under.isPrefixOf p) ++ List.replicate (l.toArray.size - (l.filter fun p => under.isPrefixOf p).length) []).toArray).heap[g]? = some (.cells (Go.Sort.putCells strV 0 ((l.filter fun p => under.isPrefixOf p) ++ List.replicate (l.toArray.size - (l.filter fun p => under.isPrefixOf p).length) []).toArray cur) e (0, 0)) := by
      simp [Go.Sort.putRow, Go.Sort.mapBlock, Go.Sort.ahead, Array.getElem?_modify, hb, Go.Sort.onCells]
    rw [cell_of_row _ _ _ _ _ _ hh, Nat.zero_add]
    rw [flat_texts] at hj
    have hjl : j < (l.filter fun p => under.isPrefixOf p).length := by
      rcases Nat.lt_or_ge j (l.filter fun p => under.isPrefixOf p).length with h | h
      · exact h
      · rw [List.getElem?_eq_none (by simpa using h)] at hj; cases hj
    rw [List.getElem?_map, List.getElem?_eq_getElem hjl] at hj
    simp only [Option.map_some, Option.some.injEq] at hj
    subst hj
    have hjc : j < cur.size := by omega
    simp only [Go.Sort.putCells, Array.getElem?_mapIdx, Array.getElem?_eq_getElem hjc, Option.map_some, Option.some.injEq]
    rw [if_pos ⟨Nat.zero_le _, by simp; omega⟩]
    congr 1
    rw [Nat.sub_zero, getElem!_pos _ j (by simp; omega)]
    simp only [List.getElem_toArray]
    rw [List.getElem_append_left hjl]
  · have : k ≠ g := by omega
    simp [Go.Sort.putRow, Go.Sort.mapBlock, Go.Sort.ahead, Array.getElem?_modify, Ne.symm this]

set_option maxRecDepth 100000 in
theorem list_nil (under : Bytes) (w : World) : Calls Tryd.prog 9 #[.pointer none, .string (strOf under)] w fun e w' => e = .returned (.slice none 0 0) ∧ Below w.heap.size w w' := by
  go_enter Tryd.func9, Tryd.ntmps9
  go_wp2_with fail
  go_ret
  exact ⟨rfl, (Below.refl _ _).alloc (Nat.le_refl _) _⟩

set_option maxRecDepth 100000 in
set_option maxHeartbeats 4000000 in
theorem list_any {own : Owns} {w : World} {p M Z : Nat} {G : Bytes → Nat} {S : StP} (h : StoreIn own w p M G S) (ok : OkS Z S) (under : Bytes) :
    Calls Tryd.prog 9 #[ptr p, .string (strOf under)] w fun e w' => ∃ a c, e = .returned (.slice a (listS S under).length c) ∧ RsAt encS 1 w' a c (listS S under) ∧ Below w.heap.size w w' := by
  obtain ⟨w1, hw1⟩ : ∃ w1, w1 = w.alloc (.cells #[.string (strOf under)] 9) := ⟨_, rfl⟩
  have g1 : Below w.heap.size w w1 := by rw [hw1]; exact (Below.refl _ _).alloc (Nat.le_refl _) _
  have b1 : w1.heap[w.heap.size]? = some (.cells #[.string (strOf under)] 9 (0, 0)) := by rw [hw1]; exact heap_alloc_last _ _ _ rfl
  have s1 : w1.heap.size = w.heap.size + 1 := by rw [hw1]; simp
  have hs1 := h.below g1
  obtain ⟨-, -, c2, -⟩ := hs1.cells
  obtain ⟨D, hown, hkp, hsz⟩ := hs1.map.keys ok.sorted
  have hfew := ok.few
  have CK := callsIn_wide.1 (Tryd.keysOfF (some M) w1)
  have CS := callsIn_wide.1 (Tryd.sortedOfF M _ D ptrR w1 hown (by rw [hsz]; unfold maxLen; omega) (by rw [hsz]; omega))
  have HH := Lib.hid (And.intro g1 (And.intro b1 (And.intro s1 (And.intro hkp (And.intro ok.sorted hfew)))))
  have HW := Lib.hid hw1
  clear h g1 b1 s1 hs1 hown hkp hsz hfew ok
  go_enter Tryd.func9, Tryd.ntmps9
  go_upto_region 1 with (fail)
  rw [← HW.out]
  clear hw1 HW
  go_wp2_with fail
  refine CK.mono ?_
  clear CK
  rintro e w2 ⟨rfl, rfl⟩
  go_wp2_with fail
  refine CS.mono ?_
  clear CS
  rintro e w3 ⟨v, ss, rfl, hperm, hrow, -, hb⟩
  have hks := keys_sorted HH.out.2.2.2.2.1 hperm HH.out.2.2.2.1
  have hlen : ss.length = (keysF S.files).length := by rw [← hks, List.length_mergeSort]
  rw [hks, hlen] at hrow
  have g3 : Below w1.heap.size w1 w3 := ((Below.refl _ _).alloc (Nat.le_refl _) _).trans (hb.mono (by simp))
  have c3 : w3.cell? ⟨w.heap.size, 0, none⟩ = some (.string (strOf under)) := by
    have := cell_blk HH.out.2.1 0 _ rfl
    rw [g3.cell (p := ⟨w.heap.size, 0, none⟩) (by have := HH.out.2.2.1; show w.heap.size < w1.heap.size; omega)]
    exact this
  have hkl : (keysF S.files).length ≤ 10000 := by unfold keysF; rw [List.length_map]; exact HH.out.2.2.2.2.2
  obtain ⟨hr1, hr2⟩ := hrow
  have H3 := Lib.hid (And.intro g3 c3)
  clear hb g3 hperm hks hlen
  rcases hr2 with ⟨rfl, h0⟩ | ⟨g, cap, cur, rfl, hbase, hh, hle, hmx, hcs, htake⟩
  · have hk0 : keysF S.files = [] := List.eq_nil_of_length_eq_zero h0
    have hl0 : listS S under = [] := by unfold listS; rw [hk0]; rfl
    have HL0 := Lib.hid hl0
    clear hr1 h0 hl0 hk0
    go_wp2_with fail
    refine (delNone _ _).mono ?_
    rintro e w4 ⟨rfl, rfl⟩
    go_wp2_with fail
    go_ret
    rw [HL0.out]
    exact ⟨none, 0, rfl, RsAt.nil _, HH.out.1.trans (H3.out.1.mono HH.out.1.size)⟩
  · unfold maxLen at hmx
    have hs1 : w1.heap.size + 1 ≤ g := by simpa using hbase
    have CD := delBegins (keysF S.files) under hh rfl (by rw [Nat.mul_one] at htake; exact htake) (by rw [hcs, Nat.mul_one]) hle (by omega) (Nat.lt_of_lt_of_le (by have := HH.out.2.2.1; omega) H3.out.1.size) (by have := HH.out.2.2.1; omega) H3.out.2 w1.heap.size (by omega)
    change Calls _ _ _ _ (fun e w' => e = .returned (.slice (some ⟨g, 0, none⟩) (listS S under).length cap) ∧ RsAt encS 1 w' (some ⟨g, 0, none⟩) cap (listS S under) ∧ Below w1.heap.size w3 w') at CD
    obtain ⟨nk, hnk⟩ : ∃ nk, nk = (keysF S.files).length := ⟨_, rfl⟩
    rw [← hnk] at CD ⊢
    clear hr1 hh hle hmx hcs htake hkl hbase hnk
    go_wp2_with fail
    refine CD.mono ?_
    clear CD
    rintro e w4 ⟨rfl, hrs, hw4⟩
    have H4 := Lib.hid (And.intro hrs hw4)
    clear hrs hw4
    go_wp2_with fail
    go_ret
    exact ⟨_, _, rfl, H4.out.1, HH.out.1.trans ((H3.out.1.trans H4.out.2).mono HH.out.1.size)⟩
end Go.Proofs.YtnlkanhakmkejaaDoor
