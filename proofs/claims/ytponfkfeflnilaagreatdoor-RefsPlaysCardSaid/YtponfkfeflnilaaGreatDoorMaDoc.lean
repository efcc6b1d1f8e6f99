/-
  The document's answer for refs, of files as a list: plain.
  The document's id (a ref's file) and put: the walks.
  The document's files as they lie; how an argument that is a slice of them is opened.
  The document's files taken out of a store: the walk.
  A store that is laid down of files: the walk.
-/
import Derived.Test.YtponfkfeflnilaaGreatDoorMaGet
import Derived.Test.YtponfkfeflnilaaGreatDoorMaRef
import Derived.Test.YtponfkfeflnilaaGreatDoorMaKnown
namespace Go.Proofs.YtponfkfeflnilaaGreatDoor
open Go.RowKit Go.Mix

/-- A file, as data. -/
structure FlP where
  path : Bytes
  bytes : Bytes
instance : Inhabited FlP := ⟨⟨[], []⟩⟩

/-- A ref into a list that rises. -/
def putD : List RefP → RefP → List RefP
  | [], r => [r]
  | x :: l, r => if x.name < r.name then x :: putD l r else if x.name = r.name then r :: l else r :: x :: l
theorem insP_first {l : Refs} {x : Bytes} {f : Id20} (h : ∀ q ∈ l, x < q.name) : insP x f l = ⟨x, f⟩ :: l := by
  cases l with
  | nil => rfl
  | cons p r =>
    unfold insP
    rw [if_neg fun h2 => lt_irr _ (lt_tr h2 (h p (by simp)))]
theorem putD_eq : ∀ {l : Refs}, SortedP l → ∀ r : RefP, putD l r = putP l r.name r.id
  | [], _, r => rfl
  | p :: l, hs, r => by
    obtain ⟨h1, h2⟩ := List.pairwise_cons.1 hs
    unfold putD putP
    by_cases hlt : p.name < r.name
    · have hne : p.name ≠ r.name := fun e => by rw [e] at hlt; exact lt_irr _ hlt
      have e1 : delP (p :: l) r.name = p :: delP l r.name := by unfold delP; rw [List.filter_cons_of_pos (by simp [hne])]
      rw [if_pos hlt, e1, insP, if_pos hlt, putD_eq h2 r, putP]
    · rw [if_neg hlt]
      have hgt : ∀ q ∈ l, r.name < q.name := fun q hq => by
        have h3 := h1 q hq
        by_cases he : p.name = r.name
        · rw [← he]; exact h3
        · exact lt_tr (lt_of_not hlt he) h3
      have hno : delP l r.name = l := delP_none (getP_none.2 fun q hq e => by have := hgt q hq; rw [e] at this; exact lt_irr _ this)
      by_cases he : p.name = r.name
      · have e1 : delP (p :: l) r.name = l := by unfold delP at hno ⊢; rw [List.filter_cons_of_neg (by simp [he]), hno]
        rw [if_pos he, e1, insP_first hgt]
      · have e1 : delP (p :: l) r.name = p :: l := by unfold delP at hno ⊢; rw [List.filter_cons_of_pos (by simp [he]), hno]
        rw [if_neg he, e1, insP_first (x := r.name) (f := r.id) (l := p :: l) fun q hq => by
          rcases List.mem_cons.1 hq with rfl | hq
          · exact lt_of_not hlt he
          · exact hgt q hq]
/-- Where it is put. -/
theorem putD_at : ∀ (l : List RefP) (r : RefP) (k : Nat), k ≤ l.length → (∀ i, i < k → l[i]!.name < r.name) → (k < l.length → ¬ l[k]!.name < r.name) →
    putD l r = l.take k ++ r :: l.drop (if k < l.length ∧ l[k]!.name = r.name then k + 1 else k)
  | [], r, k, hk, _, _ => by
    obtain rfl : k = 0 := by simpa using hk
    simp [putD]
  | x :: l, r, 0, _, _, h2 => by
    have h3 : ¬ x.name < r.name := by simpa using h2 (by simp)
    rw [putD, if_neg h3]
    by_cases he : x.name = r.name
    · rw [if_pos he, if_pos ⟨by simp, he⟩]; simp
    · rw [if_neg he, if_neg fun h => he h.2]; simp
  | x :: l, r, k + 1, hk, h1, h2 => by
    have h0 := h1 0 (by omega)
    have ih := putD_at l r k (by simpa using hk) (fun i hi => by simpa using h1 (i + 1) (by omega)) (fun hkl => by simpa using h2 (by simpa using hkl))
    rw [putD, if_pos (by simpa using h0), ih]
    by_cases hc : k < l.length ∧ l[k]!.name = r.name
    · rw [if_pos hc, if_pos ⟨by simpa using hc.1, by simpa using hc.2⟩]; simp
    · rw [if_neg hc, if_neg fun h => hc ⟨by simpa using h.1, by simpa using h.2⟩]; simp
theorem putD_len (l : List RefP) (r : RefP) : (putD l r).length ≤ l.length + 1 := by
  induction l with
  | nil => simp [putD]
  | cons x l ih =>
    unfold putD
    split
    · simp; omega
    · split <;> simp
theorem putD_mem {l : List RefP} {r q : RefP} (h : q ∈ putD l r) : q = r ∨ q ∈ l := by
  induction l with
  | nil => simpa [putD] using h
  | cons x l ih =>
    unfold putD at h
    split at h
    · rcases List.mem_cons.1 h with h | h
      · exact .inr (by simp [h])
      · exact (ih h).imp id fun h => by simp [h]
    · split at h
      · rcases List.mem_cons.1 h with h | h
        · exact .inl h
        · exact .inr (by simp [h])
      · rcases List.mem_cons.1 h with h | h
        · exact .inl h
        · exact .inr h

/-! ### The document's List -/
noncomputable def docPk : List FlP → List RefP → Option (List RefP)
  | [], out => some out
  | x :: l, out => if x.path = packedT then (match parsePk x.bytes with | some m => docPk l m | none => none) else docPk l out
noncomputable def docOne (x : FlP) (out : List RefP) : Option (List RefP) :=
  if refsT.isPrefixOf x.path then (match fileK x.bytes with | some n => if rightN x.path then some (putD out ⟨x.path, n⟩) else none | none => none) else some out
noncomputable def docLs : List FlP → List RefP → Option (List RefP)
  | [], out => some out
  | x :: l, out => match docOne x out with | some m => docLs l m | none => none
noncomputable def docK (l : List FlP) : Option (List RefP) := match docPk l [] with | some m => docLs l m | none => none
theorem docPk_snoc (x : FlP) : ∀ (l : List FlP) (out : List RefP), docPk (l ++ [x]) out = match docPk l out with | some m => docPk [x] m | none => none
  | [], out => rfl
  | y :: l, out => by
    simp only [List.cons_append, docPk]
    split
    · cases parsePk y.bytes with
      | none => rfl
      | some m => exact docPk_snoc x l m
    · exact docPk_snoc x l out
theorem docLs_snoc (x : FlP) : ∀ (l : List FlP) (out : List RefP), docLs (l ++ [x]) out = match docLs l out with | some m => docOne x m | none => none
  | [], out => by
    simp only [List.nil_append, docLs]
    cases docOne x out <;> rfl
  | y :: l, out => by
    simp only [List.cons_append, docLs]
    cases docOne y out with
    | none => rfl
    | some m => exact docLs_snoc x l m
theorem docPk_none : ∀ {l : List FlP} {k : List FlP} {out : List RefP}, docPk k out = none → docPk (k ++ l) out = none
  | l, [], out, h => by cases h
  | l, y :: k, out, h => by
    simp only [List.cons_append, docPk] at h ⊢
    split
    · rename_i hp
      rw [if_pos hp] at h
      cases hy : parsePk y.bytes with
      | none => rfl
      | some m => rw [hy] at h; exact docPk_none h
    · rename_i hp
      rw [if_neg hp] at h
      exact docPk_none h
theorem docLs_none : ∀ {l : List FlP} {k : List FlP} {out : List RefP}, docLs k out = none → docLs (k ++ l) out = none
  | l, [], out, h => by cases h
  | l, y :: k, out, h => by
    simp only [List.cons_append, docLs] at h ⊢
    cases hy : docOne y out with
    | none => rfl
    | some m => rw [hy] at h; exact docLs_none h

/-- The files of a store, as data. -/
noncomputable def takenP (S : StP) (f : Bytes) : List FlP := (listS S f).map fun p => ⟨p.drop f.length, nowO S.files p⟩

def putDs (l : List RefP) (m : List RefP) : List RefP := m.foldl putD l
theorem putDs_eq : ∀ (m : List RefP) {l : Refs}, SortedP l → putDs l m = putsP l m
  | [], _, _ => rfl
  | r :: m, l, h => by
    show putDs (putD l r) m = putsP (putP l r.name r.id) m
    rw [putD_eq h, putDs_eq m (sorted_putP h _ _)]
theorem docPk_keys (F : Bytes → Bytes) : ∀ (ks : List Bytes) (out : List RefP), docPk (ks.map fun p => ⟨p, F p⟩) out = if packedT ∈ ks then parsePk (F packedT) else some out
  | [], out => by simp [docPk]
  | k :: ks, out => by
    rw [List.map_cons]
    unfold docPk
    by_cases hk : k = packedT
    · subst hk
      rw [if_pos rfl, if_pos (by simp)]
      cases hp : parsePk (F packedT) with
      | none => rfl
      | some m =>
        show docPk _ m = some m
        rw [docPk_keys F ks m]
        split
        · exact hp
        · rfl
    · rw [if_neg (show ¬ (FlP.mk k (F k)).path = packedT from hk), docPk_keys F ks out]
      by_cases hm : packedT ∈ ks
      · rw [if_pos hm, if_pos (by simp [hm])]
      · rw [if_neg hm, if_neg (by simp [hm]; exact fun e => hk e.symm)]
theorem allSome_cons {α β : Type} (f : α → Option β) (x : α) (l : List α) : allSome f (x :: l) = match f x, allSome f l with | some y, some ys => some (y :: ys) | _, _ => none := by
  simp only [allSome]
  cases f x <;> cases allSome f l <;> rfl
theorem docLs_keys (files : Files) : ∀ (ks : List Bytes) (out : List RefP), docLs (ks.map fun p => ⟨p, nowO files p⟩) out = (allSome (looseOne files []) (ks.filter fun p => refsT.isPrefixOf p)).map (putDs out)
  | [], out => rfl
  | k :: ks, out => by
    rw [List.map_cons]
    unfold docLs docOne
    by_cases hp : refsT.isPrefixOf k = true
    · rw [if_pos (show refsT.isPrefixOf (FlP.mk k (nowO files k)).path = true from hp), List.filter_cons_of_pos hp]
      have ho : looseOne files [] k = match fileK (nowO files k) with | some x => if rightN k then some ⟨k, x⟩ else none | none => none := rfl
      rw [allSome_cons, ho]
      simp only []
      cases hf : fileK (nowO files k) with
      | none => rfl
      | some n =>
        by_cases hr : rightN k = true
        · simp only [hr, if_true]
          rw [docLs_keys files ks]
          cases allSome (looseOne files []) (ks.filter fun p => refsT.isPrefixOf p) <;> rfl
        · simp only [hr]
          rfl
    · rw [if_neg (show ¬ refsT.isPrefixOf (FlP.mk k (nowO files k)).path = true from hp), List.filter_cons_of_neg hp]
      exact docLs_keys files ks out
theorem listS_nil (S : StP) : listS S [] = keysF S.files := by
  unfold listS
  rw [List.filter_eq_self.2]
  intro p _
  cases p <;> rfl
theorem takenP_nil (S : StP) : takenP S [] = (keysF S.files).map fun p => ⟨p, nowO S.files p⟩ := by unfold takenP; rw [listS_nil]; rfl
theorem nowO_none {l : Files} {x : Bytes} (h : x ∉ keysF l) : nowO l x = [] := by
  unfold nowO
  rw [getF_none.2 fun p hp e => h (by rw [← e]; exact List.mem_map_of_mem hp)]
  rfl
/-- The document's List is the program's. -/
theorem doc_all (S : StP) : docK (takenP S []) = allK S [] := by
  unfold docK allK packK looseK
  rw [takenP_nil, docPk_keys]
  have hpk : (if packedT ∈ keysF S.files then parsePk (nowO S.files packedT) else some []) = parsePk (nowO S.files ([] ++ packedT)) := by
    rw [List.nil_append]
    split
    · rfl
    · rename_i h; rw [nowO_none h, parsePk_nil]
  rw [hpk]
  cases hp : parsePk (nowO S.files ([] ++ packedT)) with
  | none => rfl
  | some a =>
    show docLs _ a = _
    rw [docLs_keys, List.nil_append]
    unfold listS
    have ha : SortedP a := ord_sorted (parsePk_some hp).1
    cases allSome (looseOne S.files []) ((keysF S.files).filter fun p => refsT.isPrefixOf p) with
    | none => rfl
    | some b =>
      show some (putDs a b) = some (putsP [] (a ++ b))
      rw [putDs_eq b ha]
      have e : putsP [] (a ++ b) = putsP (putsP [] a) b := by unfold putsP; rw [List.foldl_append]
      rw [e, putsP_sorted a [] ha, List.nil_append]

/-! ### The document's Head -/
noncomputable def docHead : List FlP → Bytes × Id20 × Int
  | [] => ([], id0, 6)
  | x :: l => if x.path = headT then headB x.bytes else docHead l
theorem docHead_keys (F : Bytes → Bytes) : ∀ ks : List Bytes, docHead (ks.map fun p => ⟨p, F p⟩) = if headT ∈ ks then headB (F headT) else ([], id0, 6)
  | [] => by simp [docHead]
  | k :: ks => by
    rw [List.map_cons]
    unfold docHead
    by_cases hk : k = headT
    · subst hk
      rw [if_pos rfl, if_pos (by simp)]
    · rw [if_neg (show ¬ (FlP.mk k (F k)).path = headT from hk), docHead_keys F ks]
      by_cases hm : headT ∈ ks
      · rw [if_pos hm, if_pos (by simp [hm])]
      · rw [if_neg hm, if_neg (by simp [hm]; exact fun e => hk e.symm)]
theorem doc_head (S : StP) : docHead (takenP S []) = headK S.files [] := by
  rw [takenP_nil, docHead_keys]
  unfold headK
  rw [List.nil_append]
  cases hg : getF S.files headT with
  | none =>
    rw [if_neg]
    intro hm
    obtain ⟨q, hq, he⟩ := List.mem_map.1 hm
    exact getF_none.1 hg q hq he
  | some g =>
    have hm : headT ∈ keysF S.files := List.mem_map.2 ⟨(headT, g), getF_mem hg, rfl⟩
    rw [if_pos hm]
    unfold nowO
    rw [hg]
    rfl
/-- A HEAD of these bytes, as the document tells it. -/
noncomputable def idD14 (b : Bytes) : Option Id20 := if b.length = 41 ∧ b[40]? = some 10 then unhex (b.take 40) else none
theorem idD_file (b : Bytes) : idD14 b = fileK b := by
  unfold idD14 fileK
  by_cases hl : b.length = 41
  · have e : b = b.take 40 ++ [b[40]'(by omega)] := by
      have := List.take_append_drop 40 b
      rw [List.drop_eq_getElem_cons (by omega), List.drop_eq_nil_of_le (by omega)] at this
      exact this.symm
    have hs : ([10] : Bytes).isSuffixOf b = decide (b[40]? = some 10) := by
      rw [Bool.eq_iff_iff, decide_eq_true_eq, List.isSuffixOf_iff_suffix, List.getElem?_eq_getElem (by omega)]
      constructor
      · rintro ⟨t, ht⟩
        have h1 : t.length = 40 := by have := congrArg List.length ht; simp at this; omega
        have h2 : b[40]? = some 10 := by rw [← ht, List.getElem?_append_right (by omega), h1]; rfl
        rw [← h2, List.getElem?_eq_getElem (by omega)]
      · intro h
        injection h with h
        rw [h] at e
        exact ⟨_, e.symm⟩
    rw [hs]
    by_cases h10 : b[40]? = some 10
    · rw [if_pos ⟨hl, h10⟩, if_pos (by simp [h10]), hl]
    · rw [if_neg fun h => h10 h.2, if_neg (by simp [h10])]
  · rw [if_neg fun h => hl h.1]
    split
    · rename_i hs
      rw [unhex_len]
      rw [List.length_take]
      have : 1 ≤ b.length := by
        obtain ⟨t, ht⟩ := List.isSuffixOf_iff_suffix.1 hs
        rw [← ht]; simp
      omega
    · rfl
theorem fileK_refc {b : Bytes} (h : refcT.isPrefixOf b = true) : fileK b = none := by
  rw [← idD_file]
  unfold idD14
  split
  · rename_i hb
    cases hu : unhex (b.take 40) with
    | none => rfl
    | some x =>
      obtain ⟨t, ht⟩ := List.isPrefixOf_iff_prefix.1 h
      have h1 := unhex_hex hu
      refine absurd ?_ (hexL_no x.1).2
      rw [← h1]
      refine List.mem_of_getElem? (i := 4) ?_
      rw [List.getElem?_take, if_pos (by decide), ← ht]
      simp [refcT]
  · rfl
end Go.Proofs.YtponfkfeflnilaaGreatDoor
namespace Go.Proofs.YtponfkfeflnilaaGreatDoor
open Go.RowKit Go.Mix Go.WideMaps Go.Maps

set_option maxRecDepth 100000 in
set_option maxHeartbeats 2000000 in
theorem refId_any {w : World} {b : Bytes} {a : Option Addr} {cap : Nat} (hg : Sl w a cap b) : Calls Tryz.prog 55 #[.slice a b.length cap] w fun e w' => e = .returned (.tuple #[.agg (idA ((fileK b).getD id0)), .bool (fileK b).isSome]) ∧ Below w.heap.size w w' := by
  obtain ⟨Z, hZ⟩ : ∃ Z, Z = idA id0 := ⟨_, rfl⟩
  have z : ∀ w, (zeroValue 41).run Tryz.prog w = .ok (.agg Z) w := fun w => by rw [hZ]; kernel_rfl
  have b0 : ∀ w, (Instr.build 41 #[]).run Tryz.prog w = .ok (.agg Z) w := fun w => by rw [hZ]; kernel_rfl
  have zi : ∀ x : Id20, (Tryz.prog.info? 41).map (·.size) = some (idA x).size := fun x => by rw [idA_size]; kernel_rfl
  have ziZ : (Tryz.prog.info? 41).map (·.size) = some Z.size := by rw [hZ]; exact zi _
  have z1Z : Z.all (·.oneCell') = true := by rw [hZ]; exact idA_one id0
  have HZ := Lib.hid hZ
  have hz1 : (w.alloc (.cells Z 41)).heap[w.heap.size]? = some (.cells Z 41 (0, 0)) := heap_alloc_last _ _ _ rfl
  have hb1 : Below w.heap.size w (w.alloc (.cells Z 41)) := (Below.refl _ _).alloc (Nat.le_refl _) _
  have hg1 := hg.below hb1
  obtain ⟨R, hR⟩ : ∃ R, R = w.heap.size := ⟨_, rfl⟩
  have hRw : w.heap.size ≤ R := Nat.le_of_eq hR.symm
  obtain ⟨w1, hw1⟩ : ∃ w1, w1 = w.alloc (.cells Z 41) := ⟨_, rfl⟩
  rw [← hw1, ← hR] at hz1
  rw [← hw1] at hb1 hg1
  have HW := Lib.hid (And.intro hw1 hR)
  have HB1 := Lib.hid hb1
  have HK := Lib.hid (idD_file b)
  obtain ⟨n, hn⟩ : ∃ n, n = b.length := ⟨_, rfl⟩
  clear hZ hb1 hg
  by_cases h41 : n = 41
  · have h40 : 40 < b.length := by omega
    obtain ⟨IX, LD⟩ := hg1.at 40 40 rfl h40
    have t0 : ((n : Int) != 41) = false := by rw [bne_eq_false_iff_eq]; omega
    by_cases h10 : b[40] = 10
    · have t1 : ((b[40].toNat : Int) != 10) = false := by rw [h10]; rfl
      obtain ⟨l2, hl2, hl2n, hg2, SL⟩ := hg1.to 40 40 rfl (by omega)
      have ST := hg2.str
      change (convert 24 9 (.slice a l2.length cap)).run Tryz.prog w1 = .ok (.string (strOf l2)) w1 at ST
      have C := refParse_any (strOf l2) w1
      change Calls _ _ _ w1 (fun e w' => e = .returned (.tuple #[.agg (idA (shaX l2)), .bool (unhex l2).isSome]) ∧ Below w1.heap.size w1 w') at C
      have hK : fileK b = unhex l2 := by
        rw [← HK.out]; unfold idD14; rw [if_pos ⟨hn.symm.trans h41, by rw [List.getElem?_eq_getElem h40, h10]⟩, hl2]
      rw [← hn] at IX SL ⊢
      rw [hK]
      obtain ⟨m, hm⟩ : ∃ m, m = l2.length := ⟨_, rfl⟩
      rw [← hm] at SL ST
      generalize b[40].toNat = c at *
      have HL := Lib.hid (And.intro hl2n hm)
      clear hl2 hl2n hg2 hg1 hK h10 h40 hn hm hw1 hR hRw h41
      obtain ⟨X, hX⟩ : ∃ X, X = strOf l2 := ⟨_, rfl⟩
      rw [← hX] at ST C
      obtain ⟨V, hV⟩ : ∃ V, V = (unhex l2).getD id0 := ⟨_, rfl⟩
      obtain ⟨ok, hok⟩ : ∃ ok, ok = (unhex l2).isSome := ⟨_, rfl⟩
      rw [show shaX l2 = V from hV.symm, ← hok] at C
      rw [← hV, ← hok]
      clear hX hV hok
      go_enter Tryz.func55, Tryz.ntmps55
      go_upto_region 1 with (fail)
      rw [← HW.out.1, ← HW.out.2]
      go_wp2_with fail
      refine C.mono ?_
      rintro e w3 ⟨rfl, hw3⟩
      clear C
      have hz3 := blockR_below hz1 hw3
      have hb3 := HB1.out.trans (hw3.mono HB1.out.size)
      have hr := setRow_heap _ _ _ (idA V) _ _ hz3
      have gA : Below w.heap.size w (w3.setRow R (idA V)) := below_setRow hb3 (Nat.le_of_eq HW.out.2.symm) _
      have zs : Z.size = (idA V).size := by rw [HZ.out, idA_size, idA_size]
      have zx := zi V
      have z1 := idA_one V
      have HG := Lib.hid (And.intro hr gA)
      clear hr gA hb3 hw3 hz1
      go_wp2_with (first | (refine wpList_store_row rfl 41 _ _ rfl R (idA V) rfl rfl 41 Z hz3 zx zs z1 ?_))
      refine bodyPost_ret (results_cell_tmp rfl _ _ R 41 (idA V) (0, 0) _ rfl HG.out.1 Tryz.underlying41 rfl zx) rfl ?_
      exact ⟨rfl, HG.out.2⟩
    · have t1 : ((b[40].toNat : Int) != 10) = true := by
        rw [bne_iff_ne]; intro h; exact h10 (UInt8.toNat_inj.1 (by show b[40].toNat = 10; omega))
      have hK : fileK b = none := by
        rw [← HK.out]; unfold idD14; rw [if_neg fun h => h10 (by have := h.2; rw [List.getElem?_eq_getElem h40] at this; injection this)]
      rw [← hn] at IX ⊢
      rw [hK]
      generalize b[40].toNat = c at *
      have hr := setRow_heap _ _ _ Z _ _ hz1
      have gA : Below w.heap.size w (w1.setRow R Z) := below_setRow HB1.out hRw _
      have HG := Lib.hid (And.intro hr gA)
      clear hr gA hg1 hK h10 h40 hn hw1 hR hRw h41
      go_enter Tryz.func55, Tryz.ntmps55
      go_upto_region 1 with (fail)
      rw [← HW.out.1, ← HW.out.2]
      go_wp2_with (first | (refine wpList_build_at rfl _ _ rfl [] _ rfl (b0 _) ?_) | (refine wpList_store_row rfl 41 _ _ rfl R Z rfl rfl 41 Z hz1 ziZ rfl z1Z ?_))
      refine bodyPost_ret (results_cell_tmp rfl _ _ R 41 Z (0, 0) _ rfl HG.out.1 Tryz.underlying41 rfl ziZ) rfl ?_
      exact ⟨by rw [HZ.out]; rfl, HG.out.2⟩
  · have t0 : ((n : Int) != 41) = true := by rw [bne_iff_ne]; omega
    have hK : fileK b = none := by
      rw [← HK.out]; unfold idD14; rw [if_neg fun h => h41 (hn.trans h.1)]
    rw [← hn, hK]
    have hr := setRow_heap _ _ _ Z _ _ hz1
    have gA : Below w.heap.size w (w1.setRow R Z) := below_setRow HB1.out hRw _
    have HG := Lib.hid (And.intro hr gA)
    clear hr gA hg1 hK hn hw1 hR hRw h41
    go_enter Tryz.func55, Tryz.ntmps55
    go_upto_region 1 with (fail)
    rw [← HW.out.1, ← HW.out.2]
    go_wp2_with (first | (refine wpList_build_at rfl _ _ rfl [] _ rfl (b0 _) ?_) | (refine wpList_store_row rfl 41 _ _ rfl R Z rfl rfl 41 Z hz1 ziZ rfl z1Z ?_))
    refine bodyPost_ret (results_cell_tmp rfl _ _ R 41 Z (0, 0) _ rfl HG.out.1 Tryz.underlying41 rfl ziZ) rfl ?_
    exact ⟨by rw [HZ.out]; rfl, HG.out.2⟩
end Go.Proofs.YtponfkfeflnilaaGreatDoor
namespace Go.Proofs.YtponfkfeflnilaaGreatDoor
open Go.RowKit Go.ChangeShapes Go.WideShapes Go.Deep Go.WideMaps

/-- A file as it lies. -/
structure FlA where
  path : Bytes
  a : Option Addr
  n : Nat
  c : Nat
def fl0 : FlA := ⟨[], none, 0, 0⟩
instance : Inhabited FlA := ⟨fl0⟩
def encF (x : FlA) : List Value := [.string (strOf x.path), .slice x.a x.n x.c]
set_option maxRecDepth 100000 in
theorem tyF : RecTy FlA encF 2 40 51 :=
  ⟨by decide, by decide, fun _ => rfl, fun x u hu => by simp [encF] at hu; rcases hu with rfl | rfl <;> rfl, Tryz.underlying40, ⟨_, Tryz.underlying51⟩, fun w => by kernel_rfl, by kernel_rfl, ⟨(encF fl0).toArray, 40, by kernel_rfl, rfl, by decide⟩⟩
/-- What it says. -/
structure FlIs (w : World) (x : FlA) (d : FlP) : Prop where
  path : x.path = d.path
  n : x.n = d.bytes.length
  sl : Sl w x.a x.c d.bytes
theorem FlIs.below {w w' : World} {x : FlA} {d : FlP} (h : FlIs w x d) (g : Below w.heap.size w w') : FlIs w' x d := ⟨h.path, h.n, h.sl.below g⟩
/-- A slice of files that reads as these. -/
structure FlsAt (w : World) (a : Option Addr) (c : Nat) (l : List FlP) : Prop where
  ex : ∃ m : List FlA, m.length = l.length ∧ RsAt encF 2 w a c m ∧ ∀ i, i < l.length → FlIs w m[i]! l[i]!
theorem FlsAt.below {w w' : World} {a : Option Addr} {c : Nat} {l : List FlP} (h : FlsAt w a c l) (g : Below w.heap.size w w') : FlsAt w' a c l := by
  obtain ⟨m, h1, h2, h3⟩ := h.ex
  exact ⟨m, h1, h2.below g, fun i hi => (h3 i hi).below g⟩
/-- Where file k lies: its index, its path, its bytes. -/
theorem FlsAt.at {w : World} {a : Option Addr} {c : Nat} {l : List FlP} (h : FlsAt w a c l) (ki : Int) (k : Nat) (hki : ki = (k : Int)) (hk : k < l.length) :
    ∃ b q aa cc, (∀ W : World, (Instr.indexAt 40 (.slice a l.length c) (.int .i64 ki)).run Tryz.prog W = .ok (.pointer (some ⟨b, q, none⟩)) W) ∧ w.cell? ⟨b, q, none⟩ = some (.string (strOf l[k]!.path)) ∧
      w.cell? ⟨b, q + 1, none⟩ = some (.slice aa l[k]!.bytes.length cc) ∧ Sl w aa cc l[k]!.bytes := by
  obtain ⟨m, h1, h2, h3⟩ := h.ex
  obtain ⟨b, q, IX, R, -⟩ := h2.at tyF ki k hki (by rw [h1]; exact hk)
  obtain ⟨e1, e2, e3⟩ := h3 k hk
  rw [h1] at IX
  refine ⟨b, q, _, _, IX, ?_, ?_, e3⟩
  · rw [← e1]; exact R 0 _ rfl
  · rw [← e2]; exact R 1 _ rfl
/-- Files of the call's own. -/
structure OwnF (w0 w : World) (v : Value) (l : List FlP) : Prop where
  ex : ∃ m : List FlA, OwnR encF 2 51 w0 w v m ∧ m.length = l.length ∧ ∀ i, i < l.length → FlIs w m[i]! l[i]! ∧ ∀ x, m[i]!.a = some x → w0.heap.size ≤ x.block ∧ x.block < w.heap.size
/-- Files that no store has. -/
structure FlsO (own : Owns) (w : World) (a : Option Addr) (c : Nat) (l : List FlP) : Prop where
  ex : ∃ m : List FlA, m.length = l.length ∧ RsAt encF 2 w a c m ∧ (∀ x, a = some x → own x.block = none ∧ x.block < w.heap.size) ∧ ∀ i, i < l.length → FlIs w m[i]! l[i]! ∧ ∀ x, m[i]!.a = some x → own x.block = none ∧ x.block < w.heap.size
theorem OwnF.o {own : Owns} {w0 w : World} {v : Value} {l : List FlP} (h : OwnF w0 w v l) (ho : ∀ k, w0.heap.size ≤ k → own k = none) : ∃ a c, v = .slice a l.length c ∧ FlsO own w a c l ∧ Below w0.heap.size w0 w := by
  obtain ⟨m, h1, h2, h3⟩ := h.ex
  obtain ⟨a, c, hv, h4, -⟩ := h1.rs tyF
  rw [h2] at hv
  refine ⟨a, c, hv, ⟨m, h2, h4, fun x hx => ?_, fun i hi => ⟨(h3 i hi).1, fun x hx => ?_⟩⟩, h1.frame⟩
  · have := h1.block x.block (by rw [hv, hx]; rfl)
    exact ⟨ho _ this.1, this.2⟩
  · obtain ⟨q1, q2⟩ := (h3 i hi).2 x hx
    exact ⟨ho _ q1, q2⟩
theorem FlsO.fls {own : Owns} {w : World} {a : Option Addr} {c : Nat} {l : List FlP} (h : FlsO own w a c l) : FlsAt w a c l := by
  obtain ⟨m, h1, h2, -, h4⟩ := h.ex
  exact ⟨m, h1, h2, fun i hi => (h4 i hi).1⟩
theorem FlsO.below {own : Owns} {w w' : World} {a : Option Addr} {c : Nat} {l : List FlP} (h : FlsO own w a c l) (g : Below w.heap.size w w') : FlsO own w' a c l := by
  obtain ⟨m, h1, h2, h3, h4⟩ := h.ex
  have hs := g.size
  refine ⟨m, h1, h2.below g, fun x hx => ⟨(h3 x hx).1, ?_⟩, fun i hi => ⟨(h4 i hi).1.below g, fun x hx => ⟨((h4 i hi).2 x hx).1, ?_⟩⟩⟩
  · have := (h3 x hx).2; omega
  · have := ((h4 i hi).2 x hx).2; omega
theorem FlsO.turn {own own' : Owns} {w w' : World} {a : Option Addr} {c : Nat} {l : List FlP} (h : FlsO own w a c l) (g : Turn Any own own' w w') : FlsO own' w' a c l := by
  obtain ⟨m, h1, h2, h3, h4⟩ := h.ex
  have hs := g.frame.size
  refine ⟨m, h1, h2.keepB fun y hy => (turn_block g (h3 y hy).1 (h3 y hy).2).1, fun x hx => ⟨(turn_block g (h3 x hx).1 (h3 x hx).2).2, ?_⟩, fun i hi => ⟨⟨(h4 i hi).1.path, (h4 i hi).1.n, sl_same (h4 i hi).1.sl fun y hy => (turn_block g ((h4 i hi).2 y hy).1 ((h4 i hi).2 y hy).2).1⟩, fun x hx => ⟨(turn_block g ((h4 i hi).2 x hx).1 ((h4 i hi).2 x hx).2).2, ?_⟩⟩⟩
  · have := (h3 x hx).2; omega
  · have := ((h4 i hi).2 x hx).2; omega

section
variable {H : Type} {enc' : TypeId × Value → H} {w : World}
theorem addr_plain {y : Addr} {v : Value} (h : w.cell? y = some v) : ∃ b o, y = ⟨b, o, none⟩ := by
  obtain ⟨yb, yo, ys⟩ := y
  simp only [World.cell?] at h
  cases ys with
  | none => exact ⟨yb, yo, rfl⟩
  | some z => split at h <;> simp at h
/-- One-cell values that lie behind each other. -/
theorem rs_ones {α : Type} [Inhabited α] {v1 : α → Value} {y : Addr} {cap len : Nat} (F : Nat → α) (hl : len ≤ cap) (hm : cap ≤ 9223372036854775807) (h : ∀ i, i < len → w.cell? (y.add i) = some (v1 (F i))) : RsAt (one1 v1) 1 w (some y) cap ((List.range len).map F) := by
  have gl : ((List.range len).map F).length = len := by rw [List.length_map, List.length_range]
  refine ⟨by rw [gl]; exact hl, hm, (fun h => nomatch h), ?_⟩
  by_cases h0 : len = 0
  · subst h0; exact .inl rfl
  · have h1 := h 0 (by omega)
    have e0 : y.add 0 = y := by simp [Addr.add]
    rw [e0] at h1
    obtain ⟨b, o, rfl⟩ := addr_plain h1
    refine .inr ⟨b, o, rfl, fun j hj i v hv => ?_⟩
    rw [gl] at hj
    have e1 : ((List.range len).map F)[j]! = F j := by rw [getElem!_pos _ j (by rw [gl]; exact hj)]; simp
    rw [e1] at hv
    unfold one1 at hv
    cases i with
    | zero =>
      simp only [List.getElem?_cons_zero, Option.some.injEq] at hv
      have := h j hj
      rw [Addr.add_mid] at this
      rw [Nat.mul_one, Nat.add_zero, this, hv]
    | succ i => simp at hv
/-- A slice of ints as it was opened. -/
theorem ints_rs {fuel : Nat} {x : DataW H × List MemPlace} {cs : List Value} (h : DataW.trod enc' Tryz.prog w 0 (fun _ => true) true fuel 70 cs = some x) :
    ∃ (a : Option Addr) (n c : Nat) (K : List Int), cs = [.slice a n c] ∧ n = K.length ∧ RsAt encI 1 w a c K := by
  rcases open_ints Tryz.underlying70 Tryz.underlying3 (by kernel_rfl) h with ⟨hcs, _⟩ | ⟨y, l, c, zs, hcs, _, hl, hm, hz, _, hcell, hwz⟩
  · exact ⟨none, 0, 0, [], hcs, rfl, RsAt.nil w⟩
  · have hm' : c ≤ 9223372036854775807 := Nat.le_trans hm (by decide)
    simp only [if_true] at hz
    exact ⟨some y, l, c, (List.range l).map fun i => zs.getD i 0, hcs, by rw [List.length_map, List.length_range], rs_ones _ hl hm' (fun i hi => hcell i (by omega))⟩
theorem bytes_sl {fuel : Nat} {x : DataW H × List MemPlace} {cs : List Value} (h : DataW.trod enc' Tryz.prog w 0 (fun _ => true) true fuel 24 cs = some x) :
    ∃ (a : Option Addr) (n c : Nat) (b : Bytes), cs = [.slice a n c] ∧ n = b.length ∧ Sl w a c b := by
  rcases open_ints Tryz.underlying24 Tryz.underlying5 (by kernel_rfl) h with ⟨hcs, _⟩ | ⟨y, l, c, zs, hcs, _, hl, hm, hz, _, hcell, hwz⟩
  · exact ⟨none, 0, 0, [], hcs, rfl, ⟨.inl rfl, Nat.le_refl _, by decide, fun _ => rfl⟩⟩
  · simp only [if_true] at hz
    obtain ⟨b, hb1, hb2⟩ := open_sl (w := w) (a := some y) (len := l) (cap := c) (zs := zs) (.inr ⟨y, rfl, hl, hm, hz, hcell, hwz⟩)
    exact ⟨some y, l, c, b, hcs, hb1.symm, hb2⟩
set_option maxRecDepth 100000 in
theorem open_fls {a : Option Addr} {len cap fuel : Nat} {x : DataW H × List MemPlace} (h : DataW.trod enc' Tryz.prog w 0 (fun _ => true) true fuel 40 (Value.slice a len cap).cells.toList = some x) :
    ∃ l : List FlP, l.length = len ∧ FlsAt w a cap l ∧ ∀ p ∈ l, p.path.length ≤ 9223372036854775807 := by
  rcases open_slice Tryz.underlying40 h with ⟨hcs, _⟩ | ⟨y, l, c, m, n, D, Pl, hcs, _, hl, hmx, hm, _, hi⟩
  · simp [Value.cells] at hcs
    obtain ⟨rfl, rfl, rfl⟩ := hcs
    exact ⟨[], rfl, ⟨[], rfl, RsAt.nil w, fun _ h => (by simp at h)⟩, fun _ h => (by simp at h)⟩
  · simp [Value.cells] at hcs
    obtain ⟨rfl, rfl, rfl⟩ := hcs
    have hC : Tryz.prog.cellsOf 51 = 2 := by kernel_rfl
    have hC1 : Tryz.prog.cellsOf 9 = 1 := by kernel_rfl
    have hC2 : Tryz.prog.cellsOf 24 = 1 := by kernel_rfl
    have hml : len ≤ m := by rw [hm]; simp; exact hl
    have hbig : cap ≤ 9223372036854775807 := Nat.le_trans hmx (by decide)
    have key : ∀ i, ∃ (p : FlA) (d : FlP), i < len → d.path.length ≤ 9223372036854775807 ∧ FlIs w p d ∧ ∀ j v, (encF p)[j]? = some v → w.cell? ((y.add (i * 2)).add j) = some v := by
      intro i
      by_cases hil : i < len
      · obtain ⟨cs', hc, ht⟩ := hi i (by omega)
        rw [hC] at hc
        obtain ⟨_, hcl, hat⟩ := World.cells?_some hc
        obtain ⟨y0, y1, k, -, -, h0, h1⟩ := trod_struct2 Tryz.underlying51 ht
        simp only [hC1, hC2] at h0 h1
        obtain ⟨c0, c1, rfl⟩ : ∃ c0 c1, cs' = [c0, c1] := by
          match cs', hcl with
          | [c0, c1], _ => exact ⟨c0, c1, rfl⟩
        simp only [List.drop_zero, List.drop_succ_cons, List.take_succ_cons, List.take_zero] at h0 h1
        obtain ⟨s, e0, -, w1⟩ := DataW.trod_string Tryz.underlying9 h0
        obtain ⟨a4, l4, c4, b4, e1, w4, s4⟩ := bytes_sl h1
        injection e0 with e0
        injection e1 with e1
        subst e0 e1
        refine ⟨⟨s.data.toList, a4, l4, c4⟩, ⟨s.data.toList, b4⟩, fun _ => ⟨str_lenR s w1, ⟨rfl, w4, s4⟩, fun j v hj => ?_⟩⟩
        have hjl : j < 2 := (List.getElem?_eq_some_iff.1 hj).1
        rw [hat j hjl]
        have es : strOf s.data.toList = s := by cases s; simp [strOf]
        have he : encF ⟨s.data.toList, a4, l4, c4⟩ = [.string s, .slice a4 l4 c4] := by unfold encF; rw [es]
        rw [he] at hj; exact hj
      · exact ⟨default, default, fun h => absurd h hil⟩
    obtain ⟨F, hF⟩ := Classical.axiomOfChoice key
    obtain ⟨G, hF⟩ := Classical.axiomOfChoice hF
    have gl : ((List.range len).map F).length = len := by rw [List.length_map, List.length_range]
    have gl2 : ((List.range len).map G).length = len := by rw [List.length_map, List.length_range]
    refine ⟨(List.range len).map G, gl2, ⟨(List.range len).map F, by rw [gl, gl2], ⟨by rw [gl]; exact hl, hbig, (fun h => nomatch h), ?_⟩, fun i hi => ?_⟩, fun p hp => ?_⟩
    · by_cases h0 : len = 0
      · subst h0; exact .inl rfl
      · have hp := plain_of_strR ((hF 0 (by omega)).2.2 0 _ rfl)
        obtain ⟨yb, yo, ys⟩ := y
        have hys : ys = none := by
          obtain ⟨b, o, e⟩ := hp
          revert e
          simp only [Addr.add]
          cases ys <;> simp
        subst hys
        refine .inr ⟨yb, yo, rfl, fun j hj k v hk => ?_⟩
        rw [gl] at hj
        have e1 : ((List.range len).map F)[j]! = F j := by
          rw [getElem!_pos _ j (by rw [gl]; exact hj)]; simp
        rw [e1] at hk
        have := (hF j hj).2.2 k v hk
        rw [Addr.add_mid, Addr.add_mid] at this
        exact this
    · rw [gl2] at hi
      rw [getElem!_pos _ i (by rw [gl]; exact hi), getElem!_pos _ i (by rw [gl2]; exact hi)]
      simp only [List.getElem_map, List.getElem_range]
      exact (hF i hi).2.1
    · obtain ⟨i, hi, rfl⟩ := List.mem_map.1 hp
      exact (hF i (List.mem_range.1 hi)).1
end
end Go.Proofs.YtponfkfeflnilaaGreatDoor
namespace Go.Proofs.YtponfkfeflnilaaGreatDoor
open Go.RowKit Go.Mix Go.WideMaps Go.Maps

/-- Bytes that lie in a block of bytes. -/
def BlkU (B : Nat) (w : World) (a : Option Addr) : Prop := ∀ x, a = some x → B ≤ x.block ∧ ∃ C fr, w.heap[x.block]? = some (.cells C 5 fr)
theorem BlkU.below {B : Nat} {w w' : World} {a : Option Addr} (h : BlkU B w a) (g : Below w.heap.size w w') : BlkU B w' a := fun x hx => by
  obtain ⟨h0, C, fr, h1⟩ := h x hx
  exact ⟨h0, C, fr, blockR_below h1 g⟩
theorem BlkU.mono {B B' : Nat} {w : World} {a : Option Addr} (h : BlkU B w a) (hB : B' ≤ B) : BlkU B' w a := fun x hx => ⟨Nat.le_trans hB (h x hx).1, (h x hx).2⟩
theorem ReadIs.nowU {l : Files} {path : Bytes} {w w' : World} {e : Ending} (h : ReadIs l path w e w') : ∃ a c x, e = .returned (.tuple #[.slice a (nowO l path).length c, .int .i64 x]) ∧ Sl w' a c (nowO l path) ∧ BlkU w.heap.size w' a ∧ Below w.heap.size w w' := by
  obtain ⟨h1, h2, hb⟩ := h
  unfold nowO
  cases hx : getF l path with
  | none => exact ⟨none, 0, 6, h2 hx, ⟨.inl rfl, Nat.le_refl _, by decide, fun _ => rfl⟩, (fun _ h => by cases h), hb⟩
  | some f =>
    obtain ⟨v, e1, b⟩ := h1 f hx
    obtain ⟨a, c, hv, hs⟩ := b.1.sl
    refine ⟨a, c, 0, by rw [e1, hv]; rfl, hs, fun x hxa => ?_, hb⟩
    have ho := b.1
    unfold OwnB at ho
    rcases ho.2 with ⟨h0, _⟩ | ⟨g, cap, cur, h0, hg, hh, _⟩
    · rw [hv] at h0; injection h0 with h0; rw [h0] at hxa; cases hxa
    · rw [hv] at h0
      injection h0 with h0
      rw [h0] at hxa
      injection hxa with hxa
      subst hxa
      exact ⟨hg, cur, _, hh⟩
structure FlT (B : Nat) (w : World) (x : FlA) (d : FlP) : Prop where
  is : FlIs w x d
  blk : BlkU B w x.a
theorem FlT.below {B : Nat} {w w' : World} {x : FlA} {d : FlP} (h : FlT B w x d) (g : Below w.heap.size w w') : FlT B w' x d := ⟨h.is.below g, h.blk.below g⟩
theorem FlT.grown {B : Nat} {w0 w w' : World} {x : FlA} {d : FlP} {v : Value} {m : List FlA} (h : FlT B w x d) (ho : OwnR encF 2 51 w0 w v m) (g : w.grownBy w' v.ownBlock) : FlT B w' x d := by
  have hk : ∀ y, x.a = some y → w'.heap[y.block]? = w.heap[y.block]? := fun y hy => by
    obtain ⟨h0, C, fr, h1⟩ := h.blk y hy
    refine g.block _ (lt_of_block h1) fun he => ?_
    rcases ho.own.2 with ⟨hv, _⟩ | ⟨b, cap, cur, hv, _, hh, _⟩
    · rw [hv] at he; cases he
    · rw [hv] at he
      injection he with he
      have he : y.block = b := he
      rw [he, hh] at h1
      injection h1 with h1
      injection h1 with _ h1
      exact absurd h1 (by decide)
  refine ⟨⟨h.is.path, h.is.n, sl_same h.is.sl hk⟩, fun y hy => ?_⟩
  obtain ⟨h0, C, fr, h1⟩ := h.blk y hy
  exact ⟨h0, C, fr, (hk y hy).trans h1⟩
set_option maxRecDepth 100000 in
theorem placesF : ∃ fs, Tryz.prog.underlying 51 = some (.struct fs) ∧ fs.toList.mapM (fun f => (Tryz.prog.info? f.type).map fun i => (f.offset, i.size)) = some [(0, 1), (1, 1)] := ⟨_, Tryz.underlying51, by kernel_rfl⟩
theorem fillF (a b : Value) (ha : a.cells.toList = [a]) (hb : b.cells.toList = [b]) (ha2 : a.cells.size = 1) (hb2 : b.cells.size = 1) : Instr.fill (([(0, 1), (1, 1)] : List (Nat × Nat)).toArray[·]?) #[.string ByteArray.empty, .slice none 0 0] [(0, a), (1, b)] = some #[a, b] := by
  rw [fill_cons (o := 0) (n := 1) rfl ha2 (by simp), fill_cons (o := 1) (n := 1) rfl hb2 (by simp [ha]), fill_nil]
  simp [ha, hb]
theorem buildF (x : FlA) (w : World) : (Instr.build 51 #[(0, .string (strOf x.path)), (1, .slice x.a x.n x.c)]).run Tryz.prog w = .ok (.agg (recA encF x)) w := by
  obtain ⟨fs, h1, h2⟩ := placesF
  exact built_at (Z := [.string ByteArray.empty, .slice none 0 0]) (by kernel_rfl) h1 h2 (fillF (.string (strOf x.path)) (.slice x.a x.n x.c) rfl rfl rfl rfl) w

set_option maxRecDepth 100000 in
set_option maxHeartbeats 8000000 in
theorem taken_any {own : Owns} {w : World} {p Z : Nat} {S : StP} (h : StoreAt own w p S) (ok : OkS Z S) (hZ : Z ≤ 1000000) :
    Calls Tryz.prog 21 #[ptr p, .string ⟨#[]⟩] w fun e w' => ∃ v, e = .returned v ∧ OwnF w w' v (takenP S []) := by
  have CL := list_at h ok []
  change Calls _ _ #[ptr p, .string ⟨#[]⟩] _ _ at CL
  obtain ⟨L, hL⟩ : ∃ L, L = listS S [] := ⟨_, rfl⟩
  rw [← hL] at CL
  have hLm : ∀ x ∈ L, x.length ≤ 255 := fun x hx => by
    rw [hL, listS_nil] at hx
    unfold keysF at hx
    obtain ⟨q, hq, rfl⟩ := List.mem_map.1 hx
    exact (ok.ok q hq).2.1
  have hLl : L.length ≤ 10000 := by rw [hL, listS_nil]; unfold keysF; rw [List.length_map]; exact ok.few
  have hT : takenP S [] = L.map fun p => ⟨p, nowO S.files p⟩ := by rw [hL]; unfold takenP; rfl
  rw [hT]
  obtain ⟨n, hn⟩ : ∃ n, n = L.length := ⟨_, rfl⟩
  rw [← hn] at CL hLl
  have HB := Lib.hid (And.intro h (And.intro ok (And.intro hZ (And.intro hLm hn))))
  clear h ok hZ hLm hn hL hT
  go_enter Tryz.func21, Tryz.ntmps21
  go_wp2_with fail
  refine CL.mono ?_
  clear CL
  rintro e w2 ⟨aL, cL, rfl, hrs, hb2⟩
  have H2 := Lib.hid (And.intro hrs hb2)
  clear hrs hb2
  go_wp2_with fail
  go_loopw [5, 7, 8, 9] (fun s5 s7 _ _ wr => ∃ (i : Nat) (m : List FlA), s7 = .int .i64 (i : Int) ∧ i ≤ n ∧ m.length = i ∧ OwnR encF 2 51 w2 wr s5 m ∧ ∀ k, k < i → FlT w.heap.size wr m[k]! ⟨L[k]!, nowO S.files L[k]!⟩) (fun _ s7 _ _ _ => n - (intOf s7).toNat)
  case atStart => exact ⟨0, [], rfl, Nat.zero_le _, rfl, OwnR.nil (Below.refl _ _), fun k hk => absurd hk (Nat.not_lt_zero _)⟩
  case round =>
    obtain ⟨i, m, rfl, hi, hml, hrow, hfl⟩ := hrel
    have HACC := Lib.hid (And.intro hml (And.intro hrow hfl))
    clear hml hrow hfl
    by_cases hin : i < n
    · have t1 : decide ((i : Int) < (n : Int)) = true := decide_eq_true (by omega)
      have t1' : decide (i < n) = true := decide_eq_true hin
      have hil : i < L.length := by rw [← HB.out.2.2.2.2]; exact hin
      have hbr := HACC.out.2.1.frame
      obtain ⟨b, q, IX, -, LD⟩ := (H2.out.1.below hbr).at1 tyS (i : Int) i rfl hil
      rw [← HB.out.2.2.2.2] at IX
      have L0 := LD wr (Below.refl _ _)
      have hwm : L[i]! ∈ L := by rw [getElem!_pos L i hil]; exact List.getElem_mem hil
      obtain ⟨x, hx⟩ : ∃ x, x = L[i]! := ⟨_, rfl⟩
      rw [← hx] at L0 LD hwm
      have hxl := HB.out.2.2.2.1 x hwm
      have hbX : Below w.heap.size w wr := H2.out.2.trans (hbr.mono H2.out.2.size)
      have SL := fun W => str_from Tryz.underlying9 x (i := 0) (Nat.zero_le _) W
      rw [List.drop_zero] at SL
      have CR := read_at (HB.out.1.below hbX) HB.out.2.1 (by have := HB.out.2.2.1; omega) x (by omega)
      have HRR := Lib.hid (fun (e : Ending) (w' : World) (hh : ReadIs S.files x wr e w') => hh.nowU)
      have HS := Lib.hid (And.intro hx hbX)
      have HLD := Lib.hid LD
      have BF := fun (a : Option Addr) (k c : Nat) (W : World) => buildF ⟨x, a, k, c⟩ W
      obtain ⟨XS, hXS⟩ : ∃ X, X = strOf x := ⟨_, rfl⟩
      unfold strV at L0 HLD
      simp only [← hXS] at L0 HLD SL CR BF
      clear hwm hbX hxl hx hbr LD hil hXS
      go_wp2_with (refine wpList_load_at rfl _ _ rfl _ _ rfl L0 ?_)
      refine CR.mono ?_
      clear CR L0
      rintro e w3 hrd
      obtain ⟨a3, c3, x3, rfl, hs3, hu3, hb3⟩ := HRR.out _ _ hrd
      have L3 := HLD.out w3 hb3
      obtain ⟨n3, hn3⟩ : ∃ k, k = (nowO S.files x).length := ⟨_, rfl⟩
      have BX := BF a3 n3 c3
      have hrow3 := HACC.out.2.1.later hb3
      obtain ⟨A, hA⟩ : ∃ A : FlA, A = ⟨x, a3, n3, c3⟩ := ⟨_, rfl⟩
      have hft : FlT w.heap.size w3 A ⟨x, nowO S.files x⟩ := by rw [hA]; exact ⟨⟨rfl, hn3, hs3⟩, hu3.mono (HS.out.2.size)⟩
      rw [← hA] at BX
      have S1 := tyF.slice1 A w3
      have hg4 : Below w3.heap.size w3 (w3.alloc (.cells (recA encF A) 51)) := (Below.refl _ _).alloc (Nat.le_refl _) _
      have HP := Lib.hid (And.intro (hrow3.later hg4) (And.intro (RsAt.one (enc := encF) (L := 2) w3 51 A) (And.intro (hft.below hg4) (fun k hk => ((HACC.out.2.2 k hk).below hb3).below hg4))))
      rw [← hn3]
      have hm1 : m.length + 1 ≤ 1000000000 := by rw [HACC.out.1]; omega
      clear hrd hs3 hu3 hb3 hrow3 hft hn3 hA hg4 BF
      change (Instr.loadAt 9 (.pointer (some ⟨b, q, none⟩))).run Tryz.prog w3 = .ok (.string XS) w3 at L3
      change ∀ W, (Instr.build 51 #[(0, .string XS), (1, .slice a3 n3 c3)]).run Tryz.prog W = .ok (.agg (recA encF A)) W at BX
      go_wp2_with (first | (refine wpList_load_at rfl _ _ rfl _ _ rfl L3 ?_) | (refine wpList_slice_at rfl _ _ _ _ _ rfl _ _ _ _ _ rfl rfl rfl rfl (SL _) ?_) | (refine wpList_build_at rfl _ _ rfl [(0, .string XS), (1, .slice a3 n3 c3)] _ rfl (BX _) ?_) | (refine wpList_buildSlice_at rfl _ _ _ rfl [(0, .agg (recA encF A))] _ rfl S1 ?_) | (refine wpList_append_r tyF rfl (.tmp 32) (.tmp 42) rfl _ m rfl HP.out.1 (some ⟨w3.heap.size, 0, none⟩) 1 1 [A] rfl rfl HP.out.2.1 (by simp; omega) ?_; intro v5 w5 hv5 hg5 hn5; have HV := Lib.hid (And.intro hv5 hg5); clear hv5 hg5 hn5 L3 S1 BX))
      go_roundw
      case rel =>
        refine ⟨i + 1, m ++ [A], by go_num, by omega, by rw [List.length_append, HACC.out.1]; rfl, HV.out.1, fun k hk => ?_⟩
        have hml := HACC.out.1
        by_cases hki : k < i
        · have e1 : (m ++ [A])[k]! = m[k]! := by
            rw [getElem!_pos _ k (by rw [List.length_append]; omega), getElem!_pos _ k (by omega), List.getElem_append_left]
          rw [e1]
          exact (HP.out.2.2.2 k hki).grown HP.out.1 HV.out.2
        · obtain rfl : k = i := by omega
          have e1 : (m ++ [A])[k]! = A := by
            rw [getElem!_pos _ k (by rw [List.length_append]; simp; omega), List.getElem_append_right (by omega)]
            simp
          rw [e1, ← HS.out.1]
          exact HP.out.2.2.1.grown HP.out.1 HV.out.2
      case measure => simp [intOf]; omega
    · obtain rfl : i = n := by omega
      have t1 : decide ((i : Int) < (i : Int)) = false := decide_eq_false (by omega)
      have t1' : decide (i < i) = false := decide_eq_false (by omega)
      have HF := Lib.hid (HACC.out.2.1.rebase H2.out.2)
      go_wp2_with fail
      go_ret
      refine ⟨_, rfl, ⟨m, HF.out, by rw [HACC.out.1, HB.out.2.2.2.2, List.length_map], fun k hk => ?_⟩⟩
      rw [List.length_map, ← HB.out.2.2.2.2] at hk
      have hkl : k < L.length := by rw [← HB.out.2.2.2.2]; exact hk
      have e1 : (L.map fun p => (⟨p, nowO S.files p⟩ : FlP))[k]! = ⟨L[k]!, nowO S.files L[k]!⟩ := by
        rw [getElem!_pos _ k (by rw [List.length_map]; exact hkl), getElem!_pos _ k hkl, List.getElem_map]
      rw [e1]
      refine ⟨(HACC.out.2.2 k hk).is, fun x hx => ?_⟩
      obtain ⟨q1, C, fr, q2⟩ := (HACC.out.2.2 k hk).blk x hx
      exact ⟨q1, lt_of_block q2⟩
end Go.Proofs.YtponfkfeflnilaaGreatDoor
namespace Go.Proofs.YtponfkfeflnilaaGreatDoor
open Go.RowKit Go.Mix Go.WideMaps Go.Maps

/-- The store with a file more. -/
def laid1 (S : StP) (x : FlP) : StP := (writeS S (x.path.take 250) 0 (x.bytes.take 500)).1
def laidS (l : List FlP) : StP := (l.take 12).foldl laid1 (newS 1048576)
theorem laid_snoc (l : List FlP) (x : FlP) (S : StP) : (l ++ [x]).foldl laid1 S = laid1 (l.foldl laid1 S) x := by rw [List.foldl_append]; rfl
theorem length_insF (x : Bytes) (f : FileP) (l : Files) : (insF x f l).length = l.length + 1 := by
  induction l with
  | nil => rfl
  | cons p r ih => unfold insF; split <;> simp [ih]
theorem length_putF (l : Files) (x : Bytes) (f : FileP) : (putF l x f).length ≤ l.length + 1 := by
  unfold putF
  rw [length_insF]
  have : (delF l x).length ≤ l.length := List.length_filter_le _ _
  omega
theorem doneF (S : StP) : (doneS S).files = S.files := by unfold doneS; split <;> rfl
theorem write_len1 (S : StP) (p : Bytes) (at_ : Int) (b : Bytes) : (writeS S p at_ b).1.files.length ≤ S.files.length + 1 := by
  unfold writeS
  repeat' split
  all_goals first | omega | (rw [doneF]; exact length_putF _ _ _) | simp
theorem write_calm (S : StP) (p : Bytes) (at_ : Int) (b : Bytes) (h : S.armed = false) : (writeS S p at_ b).1.armed = false ∧ (writeS S p at_ b).1.down = S.down := by
  unfold writeS
  repeat' split
  all_goals first | exact ⟨h, rfl⟩ | (unfold doneS; rw [if_neg (by simp [h])]; exact ⟨h, rfl⟩)
structure LaidOk (k : Nat) (S : StP) : Prop where
  ok : OkS (k * 501) S
  few : S.files.length ≤ k
  armed : S.armed = false
  down : S.down = false
  quota : S.quota = 1048576
theorem write_quota (S : StP) (p : Bytes) (at_ : Int) (b : Bytes) : (writeS S p at_ b).1.quota = S.quota := by
  unfold writeS
  repeat' split
  all_goals first | rfl | (unfold doneS; split <;> rfl)
theorem LaidOk.step {k : Nat} {S : StP} (h : LaidOk k S) (x : FlP) : LaidOk (k + 1) (laid1 S x) := by
  have h1 := h.ok.write (x.path.take 250) 0 (x.bytes.take 500)
  have h2 := write_len1 S (x.path.take 250) 0 (x.bytes.take 500)
  obtain ⟨h3, h4⟩ := write_calm S (x.path.take 250) 0 (x.bytes.take 500) h.armed
  refine ⟨h1.mono ?_, ?_, h3, h4.trans h.down, (write_quota _ _ _ _).trans h.quota⟩
  · rw [List.length_take]; omega
  · have := h.few; exact Nat.le_trans h2 (by omega)
theorem laid_okN (l : List FlP) : LaidOk l.length (l.foldl laid1 (newS 1048576)) := by
  obtain ⟨n, hn⟩ : ∃ n, n = l.length := ⟨_, rfl⟩
  rw [← hn]
  induction n generalizing l with
  | zero =>
    obtain rfl : l = [] := List.eq_nil_of_length_eq_zero hn.symm
    exact ⟨(OkS.new 1048576 ⟨by decide, by decide⟩).mono (Nat.zero_le _), Nat.zero_le _, rfl, rfl, rfl⟩
  | succ n ih =>
    have hne : l ≠ [] := fun e => by rw [e] at hn; cases hn
    rw [← List.dropLast_concat_getLast hne, laid_snoc]
    exact (ih l.dropLast (by rw [List.length_dropLast]; omega)).step _
theorem laid_ok (l : List FlP) : LaidOk 12 (laidS l) := by
  have h := laid_okN (l.take 12)
  have hl : (l.take 12).length ≤ 12 := by rw [List.length_take]; omega
  exact ⟨h.ok.mono (by omega), Nat.le_trans h.few hl, h.armed, h.down, h.quota⟩
theorem LaidOk.refs {k : Nat} {S : StP} (h : LaidOk k S) (hk : k ≤ 50) (f : Bytes) (hf : f.length ≤ 1000) : RefsIn (k * 501) S f := by
  refine ⟨h.ok, by omega, hf, Nat.le_trans (h.ok.now_len _) (by omega), ?_⟩
  have h1 : (listS S (f ++ refsT)).length ≤ (keysF S.files).length := List.length_filter_le _ _
  have h2 : (keysF S.files).length = S.files.length := by unfold keysF; rw [List.length_map]
  have := h.few
  omega

set_option maxRecDepth 100000 in
set_option maxHeartbeats 8000000 in
theorem laid_any {w : World} {a : Option Addr} {cap : Nat} {l : List FlP} (h : FlsAt w a cap l) (hp : ∀ x ∈ l, x.path.length ≤ 9223372036854775807) :
    Calls Tryz.prog 20 #[.slice a l.length cap] w fun e w' => ∃ p own, e = .returned (ptr p) ∧ Live w.heap.size w own w' p (laidS l) := by
  obtain ⟨n, hn⟩ : ∃ n, n = l.length := ⟨_, rfl⟩
  have HH := Lib.hid (And.intro h (And.intro hn hp))
  rw [← hn]
  clear h hn hp
  obtain ⟨M, hM⟩ : ∃ M, M = min n 12 := ⟨_, rfl⟩
  go_enter Tryz.func20, Tryz.ntmps20
  go_wp2_with fail
  refine (new_live 1048576 w).mono ?_
  rintro e w1 ⟨p, own1, rfl, l1⟩
  have H1 := Lib.hid l1
  clear l1
  go_wp2_with fail
  go_loopw [4] (fun s4 wr => ∃ (i : Nat) (own : Owns), s4 = .int .i64 (i : Int) ∧ i ≤ M ∧ Live w.heap.size w own wr p ((l.take i).foldl laid1 (newS 1048576))) (fun s4 _ => M - (intOf s4).toNat)
  case atStart => exact ⟨0, own1, rfl, Nat.zero_le _, H1.out⟩
  case round =>
    obtain ⟨i, own, rfl, hi, hlive⟩ := hrel
    have HL := Lib.hid hlive
    clear hlive
    by_cases him : i < M
    · have t1 : decide ((i : Int) < (n : Int)) = true := decide_eq_true (by omega)
      have t1' : decide (i < n) = true := decide_eq_true (by omega)
      have t2 : decide ((i : Int) < 12) = true := decide_eq_true (by omega)
      have t2' : decide (i < 12) = true := decide_eq_true (by omega)
      have hil : i < l.length := by rw [← HH.out.2.1]; omega
      obtain ⟨b, q, aa, cc, IX, c0, c1, hsl⟩ := HH.out.1.at (i : Int) i rfl hil
      rw [← HH.out.2.1] at IX
      have hpn := HH.out.2.2 l[i]! (by rw [getElem!_pos l i hil]; exact List.getElem_mem hil)
      have hst : (l.take (i + 1)).foldl laid1 (newS 1048576) = laid1 ((l.take i).foldl laid1 (newS 1048576)) l[i]! := by
        rw [List.take_succ_eq_append_getElem hil, laid_snoc, getElem!_pos l i hil]
      have hok := laid_okN (l.take i)
      obtain ⟨d, hd⟩ : ∃ d, d = l[i]! := ⟨_, rfl⟩
      rw [← hd] at c0 c1 hsl hpn hst
      have L1 : ∀ y : Later wr, (Instr.loadAt 9 (.pointer (some ⟨b, q, none⟩))).run Tryz.prog y.1 = .ok (.string (strOf d.path)) y.1 := fun y => by
        have c := load_later c0 ⟨y.1, HL.out.frame.trans (y.2.mono HL.out.frame.size)⟩
        go_simp
      have L2 : ∀ y : Later wr, (Instr.loadAt 24 (.pointer (some ⟨b, q + 1, none⟩))).run Tryz.prog y.1 = .ok (.slice aa d.bytes.length cc) y.1 := fun y => by
        have c := load_later c1 ⟨y.1, HL.out.frame.trans (y.2.mono HL.out.frame.size)⟩
        go_simp
      obtain ⟨k, hk⟩ : ∃ k, k = min d.path.length 250 := ⟨_, rfl⟩
      obtain ⟨j, hj⟩ : ∃ j, j = min d.bytes.length 500 := ⟨_, rfl⟩
      have MR := min_run (d.path.length : Int) 250 k (by split <;> omega)
      have MR2 := min_run (d.bytes.length : Int) 500 j (by split <;> omega)
      have SL := fun W => str_to Tryz.underlying9 d.path (i := k) (by omega) W
      obtain ⟨l2, hl2, hl2n, hg2, SB⟩ := hsl.to (j : Int) j rfl (by omega)
      have htk : d.path.take k = d.path.take 250 := by
        rw [hk]
        rcases Nat.le_total d.path.length 250 with h | h
        · rw [Nat.min_eq_left h, List.take_of_length_le (Nat.le_refl _), List.take_of_length_le h]
        · rw [Nat.min_eq_right h]
      have htb : l2 = d.bytes.take 500 := by
        rw [hl2, hj]
        rcases Nat.le_total d.bytes.length 500 with h | h
        · rw [Nat.min_eq_left h, List.take_of_length_le (Nat.le_refl _), List.take_of_length_le h]
        · rw [Nat.min_eq_right h]
      rw [htk] at SL
      have hsz := strOf_size d.path
      have HS := Lib.hid (And.intro hst (And.intro hok (And.intro htb (And.intro hg2 (And.intro (show l2.length ≤ 500 by omega) (show (d.path.take 250).length ≤ 250 by rw [List.length_take]; omega))))))
      have HLT := Lib.hid (show (l.take i).length ≤ 12 by rw [List.length_take]; omega)
      generalize hnl : d.path.length = nl at *
      generalize hnb : d.bytes.length = nb at *
      obtain ⟨P2, hP2⟩ : ∃ P, P = strOf (d.path.take 250) := ⟨_, rfl⟩
      have HP2 := Lib.hid hP2
      rw [← hP2] at SL
      generalize strOf d.path = P1 at *
      clear hil hk hj htk htb hl2 hl2n hg2 hst hok hsl hpn hd c0 c1 hP2
      obtain ⟨m2, hm2⟩ : ∃ m, m = l2.length := ⟨_, rfl⟩
      rw [← hm2] at SB
      have HM2 := Lib.hid hm2
      clear hm2
      go_upto_region 5 with (fail)
      refine wp_region_mg [(0, 0), (1, 0), (2, 0), (3, 0), (4, 0), (5, 0), (6, 0), (7, 0), (8, 0), (9, 0), (10, 0), (11, 0), (12, 0), (13, 0), (14, 0), (15, 0), (16, 0), (17, 0), (18, 0), (19, 0), (20, 0), (21, 0), (22, 0), (23, 0), (24, 0), (25, 0), (26, 0), (27, 2)] (by kernel_rfl) (by kernel_rfl) ?_
      iterate 27 (first | (refine mg_load rfl rfl _ _ rfl _ _ rfl L1 ?_) | (refine mg_load rfl rfl _ _ rfl _ _ rfl L2 ?_) | (refine mg_slice rfl rfl _ _ _ _ _ rfl _ none (some (.int .i64 (k : Int))) none _ rfl rfl rfl rfl SL ?_) | (refine mg_calm rfl (fun K hK => ?_); go_simp; (refine hK _ ?_; clear hK K)))
      refine mg_sync rfl rfl (fun w5 hw5 K hK => ?_)
      have hlive := HL.out.below hw5
      have CW := write_at2 hlive.at_ HS.out.2.1.ok (by have := HLT.out; omega) (d.path.take 250) (by have := HS.out.2.2.2.2.2; omega) 0 (by decide) ((HS.out.2.2.2.1).below hlive.frame) HM2.out (by have := HS.out.2.2.2.2.1; have := HM2.out; omega) (fun hne x hx => hlive.not_old (HS.out.2.2.2.1.blk hne x hx))
      rw [← HP2.out] at CW
      have H5 := Lib.hid hlive
      clear hlive hw5 L1 L2 MR MR2 SL SB
      go_wp2_with fail
      refine CW.mono ?_
      clear CW
      rintro e w6 hleft
      obtain ⟨rfl, own6, l6⟩ := H5.out.left hleft
      have H6 := Lib.hid l6
      clear hleft l6 H5
      go_wp2_with fail
      refine mg_nil fun w7 hw7 => ?_
      have H7 := Lib.hid (H6.out.below hw7)
      clear hw7
      go_wp2_with fail
      go_roundw
      case rel =>
        refine ⟨i + 1, own6, by go_num, by omega, ?_⟩
        rw [HS.out.1]
        unfold laid1
        rw [← HS.out.2.2.1]
        exact H7.out
      case measure => simp [intOf]; omega
    · obtain rfl : i = M := by omega
      have e : l.take i = l.take 12 := by
        rw [hM, HH.out.2.1]
        rcases Nat.lt_or_ge l.length 12 with h | h
        · rw [show min l.length 12 = l.length by omega, List.take_of_length_le (Nat.le_refl _), List.take_of_length_le (by omega)]
        · rw [show min l.length 12 = 12 by omega]
      have hres := HL.out
      rw [e] at hres
      have HRES := Lib.hid hres
      clear hres
      by_cases hin : i < n
      · have t1 : decide ((i : Int) < (n : Int)) = true := decide_eq_true (by omega)
        have t1' : decide (i < n) = true := decide_eq_true hin
        have t2 : decide ((i : Int) < 12) = false := decide_eq_false (by omega)
        have t2' : decide (i < 12) = false := decide_eq_false (by omega)
        go_wp2_with fail
        go_ret
        exact ⟨p, own, rfl, HRES.out⟩
      · have t1 : decide ((i : Int) < (n : Int)) = false := decide_eq_false (by omega)
        have t1' : decide (i < n) = false := decide_eq_false hin
        go_wp2_with fail
        go_ret
        exact ⟨p, own, rfl, HRES.out⟩
end Go.Proofs.YtponfkfeflnilaaGreatDoor
