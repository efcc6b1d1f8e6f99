/-
  The walk of Order.
-/
import Derived.Test.YtkkfolfplpafhaaOrderMain
import Derived.Test.YtkkfolfplpafhaaWalkPure2
import Derived.Laws.CopyOwn
namespace Go.Proofs.Ytkkfolfplpafhaa
open Go.RowKit Go.Mix

theorem elemRow : Elem1 24 22 (.slice none 0 0) 24 := ⟨Try.underlying22, by kernel_rfl, rfl, fun w => by kernel_rfl⟩

theorem kcell {S : Nat → Prop} {e : TypeId} {w0 w : World} {G n c : Nat} {xs : List Value} (h : Row S e w0 w (.slice (some ⟨G, 0, none⟩) n c) xs) (p : Nat) (hp : p < xs.length) : (∃ u, w.cell? ⟨G, p, none⟩ = some u) ∧ w.frozen? ⟨G, p, none⟩ = false := by
  obtain ⟨a', c', e1, hc, -, -, -⟩ := h.slice
  injection e1 with e1 e2 e3
  subst e1
  have := hc.2 p hp
  rw [elt_own] at this
  exact ⟨⟨_, this⟩, h.free p⟩
theorem start_own (n : Nat) (v : Value) (L : List Nat) (i : Nat) (hi : i ≠ 1) : (((Value.slice none 0 0, ([] : List Nat)) :: (v, L) :: (.slice none 0 0, []) :: List.replicate n (.slice none 0 0, [])).getD i (undef, [])).1.ownBlock = none := by
  match i, hi with
  | 0, _ => rfl
  | 2, _ => rfl
  | i + 3, _ =>
    show ((List.replicate n (Value.slice none 0 0, ([] : List Nat))).getD i (undef, [])).1.ownBlock = none
    rw [List.getD_eq_getElem?_getD, List.getElem?_replicate]
    split <;> rfl
theorem Rows.start {S : Nat → Prop} {w0 w : World} {v : Value} {L : List Nat} (n : Nat) (h : Row S 3 w0 w v (icells L)) : Rows S w0 w ((.slice none 0 0, []) :: (v, L) :: (.slice none 0 0, []) :: List.replicate n (.slice none 0 0, [])) := by
  refine ⟨h.frame, fun r hr => ?_, fun i j _ _ hij b hb => ?_⟩
  · have hnil : Row S 3 w0 w (.slice none 0 0) (icells []) := Row.nil h.frame
    rcases List.mem_cons.1 hr with h1 | h1
    · rw [h1]; exact hnil
    rcases List.mem_cons.1 h1 with h1 | h1
    · rw [h1]; exact h
    rcases List.mem_cons.1 h1 with h1 | h1
    · rw [h1]; exact hnil
    · rw [List.eq_of_mem_replicate h1]; exact hnil
  · by_cases hi : i = 1
    · rw [start_own n v L j (by omega)]; exact fun e => nomatch e
    · rw [start_own n v L i hi] at hb; cases hb

section
variable {w : World} {g : List (List Int)} {es : List (Option Addr × Nat)} {a : Option Addr} {cap : Nat}

set_option maxRecDepth 100000 in
set_option maxHeartbeats 2000000 in
theorem order_any (hg : GraphAt w a cap g es) (hn1 : g.length ≤ 1000) (hgb : ∀ k, (g.getD k []).length ≤ 1000) :
    Calls Try.prog 9 #[.slice a g.length cap] w (OrderEnds g w) := by
  obtain ⟨n, hn⟩ : ∃ n, n = g.length := ⟨_, rfl⟩
  have HNG := Lib.hid hn
  rw [← hn] at hn1
  have HGA := Lib.hid hg
  rw [← hn]
  clear hn hg
  have hF0 : FrameS (· < w.heap.size) w w := FrameS.refl fun _ hk => hk
  go_enter Try.func9, Try.ntmps9
  go_upto_region 2 with (at_make; refine wpList_make_row (S := (· < w.heap.size)) (w0 := w) elemInt rfl rfl _ _ rfl .i64 .i64 _ _ n rfl rfl rfl rfl (by omega) (by omega) hF0 ?_; intro w1 hrow1 hgr1)
  go_upto_region 3 with (at_make; refine wpList_make_row (S := (· < w.heap.size)) (w0 := w) elemRow rfl rfl _ _ rfl .i64 .i64 _ _ n rfl rfl rfl rfl (by omega) (by omega) hrow1.frame ?_; intro w2 hrow2 hgr2)
  go_upto_region 4 with (refine wpList_store_row rfl 42 (.tmp 6) (.tmp 21) rfl w2.heap.size #[.slice none 0 0, lessV] rfl rfl _ _ (heap_alloc_last _ _ _ rfl) (by kernel_rfl) rfl (by kernel_rfl) ?_)
  have hP3 : (w2.alloc (.cells #[.slice none 0 0, .nilFunc] 42)).heap[w2.heap.size]? = some (.cells #[.slice none 0 0, .nilFunc] 42 (0, 0)) := heap_alloc_last _ _ _ rfl
  have g23 : Below w2.heap.size w2 ((w2.alloc (.cells #[.slice none 0 0, .nilFunc] 42)).setRow w2.heap.size #[.slice none 0 0, lessV]) := below_setRow ((Below.refl _ _).alloc (Nat.le_refl _) _) (Nat.le_refl _) _
  have hP : ((w2.alloc (.cells #[.slice none 0 0, .nilFunc] 42)).setRow w2.heap.size #[.slice none 0 0, lessV]).heap[w2.heap.size]? = some (.cells #[.slice none 0 0, lessV] 42 (0, 0)) := setRow_heap _ _ _ _ _ _ hP3
  have hz0 : List.replicate n (Value.int .i64 0) = icells (List.replicate n 0) := by simp [icells]
  rw [hz0] at hrow1
  have hrow12 := hrow1.kept hgr2 (.inr (fun e => nomatch e)) (fun _ h => nomatch h)
  have hrow13 := hrow12.later g23
  have hrow23 := hrow2.later g23
  have hsz12 := hrow1.frame.size
  have hsz23 := hrow2.frame.size
  have hkv : List.replicate n (Value.slice none 0 0) = (List.replicate n (Value.slice none 0 0, ([] : List Nat))).map (·.1) := by simp
  rw [hkv] at hrow23
  obtain ⟨GL, hGL⟩ : ∃ GL, GL = w.heap.size := ⟨_, rfl⟩
  obtain ⟨KB, hKB⟩ : ∃ KB, KB = w1.heap.size := ⟨_, rfl⟩
  obtain ⟨P, hPe⟩ : ∃ P, P = w2.heap.size := ⟨_, rfl⟩
  rw [← hKB] at hrow23
  rw [← hPe] at hP
  have W0 : WAt w ((w2.alloc (.cells #[.slice none 0 0, .nilFunc] 42)).setRow w2.heap.size #[.slice none 0 0, lessV]) P KB n (.slice none 0 0) (.slice (some ⟨w.heap.size, 0, none⟩) n n) (.slice none 0 0) [] (List.replicate n 0) [] (List.replicate n (.slice none 0 0, [])) :=
    ⟨Rows.start n hrow13, by rw [hPe] at hP ⊢; exact hP, hrow23, by omega, by simp⟩
  rw [← hGL] at W0 ⊢
  rw [← hKB]
  rw [← hPe] at W0 ⊢
  generalize (w2.alloc (.cells #[.slice none 0 0, .nilFunc] 42)).setRow P #[.slice none 0 0, lessV] = w3 at *
  have B0 := BInv.start g
  rw [← HNG.out] at B0
  have HB0 := Lib.hid B0
  clear hrow1 hgr1 hrow2 hgr2 hP3 g23 hP hz0 hrow12 hrow13 hrow23 hsz12 hsz23 hkv hGL hKB hPe B0 hF0
  go_wp2_with fail
  go_loopw [24] (fun s24 wr => ∃ (m : Nat) (h L : List Nat) (vh : Value) (kr : List (Value × List Nat)), s24 = .int .i64 (m : Int) ∧ m ≤ n ∧ WAt w wr P KB n vh (.slice (some ⟨GL, 0, none⟩) n n) (.slice none 0 0) h L [] kr ∧ BInv g h L (kr.map (·.2)) m 0) (fun s24 _ => n - (intOf s24).toNat)
  case atStart => exact ⟨0, [], _, _, _, rfl, Nat.zero_le _, W0, by simpa using HB0.out⟩
  case round =>
    clear W0 HB0
    obtain ⟨m, h, L, vh, kr, rfl, hm, W, b⟩ := hrel
    have HB := Lib.hid b
    have HKN := Lib.hid W.kn
    clear b
    by_cases hmn : m < n
    · have t1 : decide ((m : Int) < (n : Int)) = true := decide_eq_true (by omega)
      have t1' : decide (m < n) = true := decide_eq_true hmn
      have hgw := HGA.out.below W.frame
      have hmg : m < g.length := by rw [← HNG.out]; exact hmn
      obtain ⟨IKg, ICg⟩ := hgw.at (m : Int) m rfl hmg
      rw [← HNG.out] at IKg
      have hint := hgw.ints m hmg
      have hl1 := hgb m
      have hLl := HB.out.ll
      rw [← HNG.out] at hLl
      obtain ⟨l, hl⟩ : ∃ l, l = g.getD m [] := ⟨_, rfl⟩
      have HL := Lib.hid hl
      rw [← hl] at ICg hint hl1
      obtain ⟨IKm, ICm, fm, -⟩ := W.aloneL.idx (by omega) (m : Int) m rfl (by omega)
      have cm0 := ICm ⟨wr, Grow.refl _⟩
      have hr9 := (W.aloneL.stored m (.int .i64 (l.length : Int))).1
      rw [icells_set] at hr9
      have W9 := W.updL hr9
      have HB9 := Lib.hid (HB.out.setL l.length hmg)
      have hg9 := W9.frame
      have hint9 := (HGA.out.below hg9).ints m hmg
      rw [← hl] at hint9
      simp only at cm0
      generalize hE1 : (es.getD m (none, 0)).1 = e1 at *
      have HE1 := Lib.hid hE1
      clear hE1
      generalize (es.getD m (none, 0)).2 = e2 at *
      clear ICm hr9 hl hmg hgw HB
      go_upto_region 8 with (fail)
      clear IKg ICg IKm cm0 fm hint W
      generalize wr.setCell ⟨GL, m, none⟩ (.int .i64 (l.length : Int)) = w9 at *
      generalize L.set m l.length = L9 at *
      go_wp2_with fail
      go_loopw [36] (fun s36 wx => ∃ (t : Nat) (kr : List (Value × List Nat)), s36 = .int .i64 (t : Int) ∧ t ≤ l.length ∧ WAt w wx P KB n vh (.slice (some ⟨GL, 0, none⟩) n n) (.slice none 0 0) h L9 [] kr ∧ BInv g h L9 (kr.map (·.2)) m t) (fun s36 _ => l.length - (intOf s36).toNat)
      case atStart => exact ⟨0, kr, rfl, Nat.zero_le _, W9, HB9.out.1⟩
      case round =>
        clear W9 hint9 HKN
        obtain ⟨t, kr, rfl, ht, W, b⟩ := hrel
        have HB := Lib.hid b
        clear b
        by_cases htl : t < l.length
        · have t1 : decide ((t : Int) < (l.length : Int)) = true := decide_eq_true (by omega)
          have t1' : decide (t < l.length) = true := decide_eq_true htl
          have hmg : m < g.length := by rw [← HNG.out]; exact hmn
          have hint := (HGA.out.below W.frame).ints m hmg
          have hes : (es.getD m (none, 0)).1 = e1 := HE1.out
          rw [← HL.out, hes] at hint
          obtain ⟨IKt, ICt⟩ := zs_at hint e2 (t : Int) t rfl htl
          have hzm : l.getD t 0 ∈ g.getD m [] := by rw [← HL.out]; exact getD_mem l 0 t htl
          have HZM := Lib.hid hzm
          have HZ := Lib.hid (show (g.getD m []).getD t 0 = l.getD t 0 by rw [← HL.out])
          clear hint hes hzm
          generalize l.getD t 0 = z at *
          by_cases hz0 : z < 0
          · have u1 : decide (z < 0) = true := decide_eq_true hz0
            have HO := Lib.hid (order_bad hmg HZM.out (.inl hz0))
            have hfr := W.frame
            clear hmg
            go_wp2_with fail
            go_ret2
            unfold OrderEnds
            rw [HO.out]
            exact ⟨rfl, hfr⟩
          · have u1 : decide (z < 0) = false := decide_eq_false hz0
            by_cases hzn : (n : Int) ≤ z
            · have u2 : decide ((n : Int) ≤ z) = true := decide_eq_true hzn
              have HO := Lib.hid (order_bad hmg HZM.out (.inr (by rw [← HNG.out]; exact hzn)))
              have hfr := W.frame
              clear hmg
              go_wp2_with fail
              go_ret2
              unfold OrderEnds
              rw [HO.out]
              exact ⟨rfl, hfr⟩
            · have u2 : decide ((n : Int) ≤ z) = false := decide_eq_false hzn
              obtain ⟨p, hp⟩ : ∃ p : Nat, z = (p : Int) := ⟨z.toNat, by omega⟩
              have hpn : p < n := by omega
              have hB2 := HB.out.kid (p := p) (by rw [← HL.out]; exact htl) (by rw [← HNG.out]; exact hpn) (HZ.out.trans hp)
              have hkl : p < kr.length := by rw [W.kn]; exact hpn
              have ekp : (kr.map (·.2)).getD p [] = (kr.getD p (undef, [])).2 := by
                rw [List.getD_eq_getElem?_getD, List.getD_eq_getElem?_getD, List.getElem?_map, List.getElem?_eq_getElem hkl]; rfl
              have hkb := HB.out.kb p (by rw [← HNG.out]; exact hpn)
              rw [ekp] at hB2 hkb
              have HB2 := Lib.hid hB2
              obtain ⟨IKp, ICp, -⟩ := W.kidsAt (p : Int) p rfl hpn
              have hrowK := W.aloneK p hkl
              have HKK := Lib.hid (fun (w' : World) (v' : Value) (hr : Row (but wr (kr.getD p (undef, [])).1 wr.heap.size) 3 wr w' v' (icells ((kr.getD p (undef, [])).2 ++ [m]))) => W.updK p hkl hr)
              generalize hkpe : (kr.getD p (undef, [])).2 = kp at *
              generalize (kr.getD p (undef, [])).1 = kv at *
              have HIC := Lib.hid (show icells kp ++ [Value.int .i64 (m : Int)] = icells (kp ++ [m]) by simp [icells])
              have HIL := Lib.hid (icells_length kp)
              have HXL := Lib.hid (show p < (kr.map (·.1)).length by rw [List.length_map]; exact hkl)
              subst hp
              clear hB2 ekp hmg hkl
              go_upto_region 14 with (at_builtin; refine wpList_append_fresh elemInt rfl (.tmp 53) (.tmp 55) rfl _ _ rfl hrowK _ [.int .i64 (m : Int)] rfl 1 1 rfl rfl (by simp [Value.oneCell']) (by rw [HIL.out]; simp only [List.length_singleton]; omega) (by rw [HIL.out]; simp only [List.length_singleton]; omega) ?_; intro v5 w5 hb5 hgr5; rw [HIC.out] at hb5; obtain ⟨hK5, W5⟩ := HKK.out _ _ hb5; obtain ⟨⟨uk, ck5⟩, fk5⟩ := kcell hK5 p HXL.out; obtain ⟨a5, k5, hv5, -, -, -, -⟩ := hb5.slice; obtain ⟨n5, hn5⟩ : ∃ n5, n5 = (icells (kp ++ [m])).length := ⟨_, rfl⟩; rw [← hn5] at hv5; subst hv5; clear hn5 hK5 hb5 hgr5)
              clear ck5 fk5 IKp ICp IKt ICt hrowK
              generalize w5.setCell ⟨KB, p, none⟩ (.slice a5 n5 k5) = w6 at *
              clear W
              go_wp2_with fail
              go_roundw
              case rel =>
                refine ⟨t + 1, _, by go_num, by omega, W5, ?_⟩
                rw [List.map_set]
                exact HB2.out
              case measure => simp [intOf]; omega
        · obtain rfl : t = l.length := by omega
          have t1 : decide ((l.length : Int) < (l.length : Int)) = false := decide_eq_false (by omega)
          have t1' : decide (l.length < l.length) = false := decide_eq_false (by omega)
          have HD := Lib.hid (fun h' hh => (BInv.done (h' := h') (by rw [← HL.out]; exact HB.out) (by rw [← HL.out]; exact hl1) (by rw [← HL.out]; exact HB9.out.2) hh))
          rw [← HL.out] at HD
          have hhl : h.length ≤ 1000 := by
            have := heap_len (n := m) (p := fun i => (g.getD i []).length = 0) HB.out.hc
            omega
          by_cases hl0 : l.length = 0
          · have u1 : ((l.length : Int) == 0) = true := by rw [beq_iff_eq]; omega
            have u1' : l = [] := List.eq_nil_of_length_eq_zero hl0
            have C2 := put_any W.heapAt HB.out.ok hhl m (m : Int) rfl
            clear u1'
            go_wp2_with fail
            refine C2.mono ?_
            rintro e w10 ⟨rfl, h3, H3, hok3, hl3, hc3⟩
            obtain ⟨vh3, W10⟩ := W.heap_upd H3
            have HU := Lib.hid (HD.out h3 (by rw [if_pos hl0]; exact ⟨hok3, hc3⟩))
            clear C2 H3 hok3 hc3 HD
            go_wp2_with fail
            go_roundw
            case rel => exact ⟨m + 1, h3, L9, vh3, kr, by go_num, by omega, W10, HU.out⟩
            case measure => simp [intOf]; omega
          · have u1 : ((l.length : Int) == 0) = false := by rw [beq_eq_false_iff_ne]; omega
            have HU := Lib.hid (HD.out h (by rw [if_neg hl0]))
            clear HD
            go_wp2_with fail
            go_roundw
            case rel => exact ⟨m + 1, h, L9, vh, kr, by go_num, by omega, W, HU.out⟩
            case measure => simp [intOf]; omega
    · obtain rfl : m = n := by omega
      have t1 : decide ((m : Int) < (m : Int)) = false := decide_eq_false (by omega)
      go_upto_if 25 with (fail)
      refine wp_cond_split rfl (fun h => ?_) (fun _ => ?_)
      · cases h
      refine wp_exit ?_
      refine ‹∀ (a : Act) (w : World), Code.wp Try.prog _ _ a w → _› _ _ ?_
      have hall : BInv g h L (kr.map (·.2)) g.length 0 := by rw [← HNG.out]; exact HB.out
      refine order_main W hall.all HNG.out hn1 hgb (fun p hp => ?_) _ _ _ _ _ _ _ _ _ _ _ _ _ _ _ _ _ _ _ _ _ _ _ _ _ _ _ _ _ _ _ _ _ _ _ _ _ _ _ _ _ _ _ _ _ _ _ _ _ _ _ _ _ _ _ _ _ _ _ _ _ _ _ _ _ _ _ _ _ _ _ _ _ _ _ _ _ _ _ _ _ _ _ _ _ _ _ _ _ _ _ _ _ _ _ _ _ _ _
      have := hall.kb p (by rw [← HNG.out]; exact hp)
      have e : (kr.map (·.2)).getD p [] = (kr.getD p (undef, [])).2 := by
        rw [List.getD_eq_getElem?_getD, List.getD_eq_getElem?_getD, List.getElem?_map, List.getElem?_eq_getElem (by rw [HKN.out]; exact hp)]; rfl
      rw [e, ← HNG.out] at this
      omega
end
end Go.Proofs.Ytkkfolfplpafhaa
