/-
  The walk of inflate.Raw.
-/
import Derived.Test.YtaapnjhkflpiiaaInf11
namespace Go.Proofs.Ytaapnjhkflpiiaa
open Go.RowKit Go.Mix

/-- What Raw leaves: bytes of its own or old ones, and the numbers. -/
def RawEnds (d : List UInt8) (most : Int) (w : World) (e : Ending) (w' : World) : Prop :=
  ∃ a2 c2, e = .returned (.tuple #[.slice a2 (rawOf d most).1.length c2, .int .i64 ((rawOf d most).2.1 : Nat), .int .i64 ((rawOf d most).2.2 : Nat)]) ∧ Sl w' a2 c2 (rawOf d most).1 ∧ Below w.heap.size w w' ∧ ∀ x, a2 = some x → w.heap.size ≤ x.block

theorem results_raw (tmps : Array Value) (w : World) (A : Nat) (x y z : Value) (h4 : tmps.getD 4 undef = .pointer (some ⟨A, 0, none⟩)) (h5 : tmps.getD 5 undef = .pointer (some ⟨A + 1, 0, none⟩)) (h6 : tmps.getD 6 undef = .pointer (some ⟨A + 2, 0, none⟩))
    (k0 : w.heap[A]? = some (.cells #[x] 22 (0, 0))) (k1 : w.heap[A + 1]? = some (.cells #[y] 3 (0, 0))) (k2 : w.heap[A + 2]? = some (.cells #[z] 29 (0, 0))) :
    (results Try.f22 tmps).run Try.prog w = .ok (.tuple #[x, y, z]) w := by
  have h4' : tmps[4]?.getD undef = .pointer (some ⟨A, 0, none⟩) := by simpa using h4
  have h5' : tmps[5]?.getD undef = .pointer (some ⟨A + 1, 0, none⟩) := by simpa using h5
  have h6' : tmps[6]?.getD undef = .pointer (some ⟨A + 2, 0, none⟩) := by simpa using h6
  have c0 := cell_of_one k0
  have c1 := cell_of_one k1
  have c2 := cell_of_one k2
  simp [results, Try.results22, go_sem, h4', h5', h6', c0, c1, c2]

abbrev rawDefers (A : Nat) : List Deferred := [{ target := Target.fn (Fn.func 34) #[.pointer (some ⟨A, 0, none⟩), .pointer (some ⟨A + 1, 0, none⟩), .pointer (some ⟨A + 2, 0, none⟩)], args := #[] }]

theorem raw_thrown (d : List UInt8) (most : Int) (w w' : World) (n A : Nat) (tmps : Array Value) (x y z : Value) (h4 : tmps.getD 4 undef = .pointer (some ⟨A, 0, none⟩)) (h5 : tmps.getD 5 undef = .pointer (some ⟨A + 1, 0, none⟩)) (h6 : tmps.getD 6 undef = .pointer (some ⟨A + 2, 0, none⟩))
    (k0 : w'.heap[A]? = some (.cells #[x] 22 (0, 0))) (k1 : w'.heap[A + 1]? = some (.cells #[y] 3 (0, 0))) (k2 : w'.heap[A + 2]? = some (.cells #[z] 29 (0, 0))) (hA : w.heap.size = A) (hb : Below A w w') (hE : rawOf d most = ([], 0, n)) :
    bodyPostD Try.prog Try.f22 (RawEnds d most w) (.panic (thrown n)) { tmps := tmps, defers := rawDefers A } w' := by
  refine leaves_cons (f := 34) (args := #[.pointer (some ⟨A, 0, none⟩), .pointer (some ⟨A + 1, 0, none⟩), .pointer (some ⟨A + 2, 0, none⟩)]) (by simp) (by simp [go_sem]) ?_
  refine (raw1_panic A n w' x y z k0 k1 k2).mono ?_
  rintro e u' w'' ⟨rfl, rfl, e0, e1, e2, g⟩
  have hr := results_raw tmps w'' A _ _ _ h4 h5 h6 e0 e1 e2
  refine ⟨_, hr, none, 0, ?_, ?_, ?_, fun x hx => by cases hx⟩
  · rw [hE]; rfl
  · rw [hE]; exact ⟨.inl rfl, Nat.le_refl _, by decide, fun _ => rfl⟩
  · rw [hA]; exact hb.trans g

theorem raw_returns (d : List UInt8) (most : Int) (w w' : World) (A : Nat) (tmps : Array Value) (a2 : Option Addr) (c2 : Nat) (p : Nat) (out : List UInt8) (h4 : tmps.getD 4 undef = .pointer (some ⟨A, 0, none⟩)) (h5 : tmps.getD 5 undef = .pointer (some ⟨A + 1, 0, none⟩)) (h6 : tmps.getD 6 undef = .pointer (some ⟨A + 2, 0, none⟩))
    (k0 : w'.heap[A]? = some (.cells #[.slice a2 out.length c2] 22 (0, 0))) (k1 : w'.heap[A + 1]? = some (.cells #[.int .i64 (((p + 7) / 8 : Nat) : Int)] 3 (0, 0))) (k2 : w'.heap[A + 2]? = some (.cells #[.int .i64 0] 29 (0, 0)))
    (hA : w.heap.size = A) (hb : Below A w w') (hs : Sl w' a2 c2 out) (hnew : ∀ x, a2 = some x → A ≤ x.block) (hE : rawOf d most = (out, (p + 7) / 8, 0)) :
    bodyPostD Try.prog Try.f22 (RawEnds d most w) .ret { tmps := tmps, defers := rawDefers A } w' := by
  refine leaves_cons (f := 34) (args := #[.pointer (some ⟨A, 0, none⟩), .pointer (some ⟨A + 1, 0, none⟩), .pointer (some ⟨A + 2, 0, none⟩)]) (by simp) (by simp [go_sem]) ?_
  refine (raw1_idle A w').mono ?_
  rintro e u' w'' ⟨rfl, rfl, rfl⟩
  have hr := results_raw tmps w'' A _ _ _ h4 h5 h6 k0 k1 k2
  refine ⟨_, hr, a2, c2, ?_, ?_, ?_, by rw [hA]; exact hnew⟩
  · rw [hE]; rfl
  · rw [hE]; exact hs
  · rw [hA]; exact hb

theorem heap_alloc4 (w : World) (o1 o2 o3 o4 : Obj) : ((((w.alloc o1).alloc o2).alloc o3).alloc o4).heap[w.heap.size]? = some o1 ∧ ((((w.alloc o1).alloc o2).alloc o3).alloc o4).heap[w.heap.size + 1]? = some o2 ∧
    ((((w.alloc o1).alloc o2).alloc o3).alloc o4).heap[w.heap.size + 2]? = some o3 ∧ ((((w.alloc o1).alloc o2).alloc o3).alloc o4).heap[w.heap.size + 3]? = some o4 ∧ ((((w.alloc o1).alloc o2).alloc o3).alloc o4).heap.size = w.heap.size + 4 ∧ Below w.heap.size w ((((w.alloc o1).alloc o2).alloc o3).alloc o4) := by
  have b : ∀ (v : World) (o : Obj) (k : Nat), k < v.heap.size → (v.alloc o).heap[k]? = v.heap[k]? := fun v o k hk => ((Below.refl v.heap.size v).alloc (Nat.le_refl _) o).block k hk
  have l : ∀ (v : World) (o : Obj) (k : Nat), k = v.heap.size → (v.alloc o).heap[k]? = some o := fun v o k hk => heap_alloc_last v o _ hk
  have s : ∀ (v : World) (o : Obj), (v.alloc o).heap.size = v.heap.size + 1 := fun v o => by simp
  refine ⟨?_, ?_, ?_, ?_, ?_, (((((Below.refl _ _).alloc (Nat.le_refl _) o1).alloc (by simp) o2).alloc (by simp; omega) o3).alloc (by simp; omega) o4)⟩
  · rw [b _ _ _ (by rw [s, s, s]; omega), b _ _ _ (by rw [s, s]; omega), b _ _ _ (by rw [s]; omega), l _ _ _ rfl]
  · rw [b _ _ _ (by rw [s, s, s]; omega), b _ _ _ (by rw [s, s]; omega), l _ _ _ (by rw [s])]
  · rw [b _ _ _ (by rw [s, s, s]; omega), l _ _ _ (by rw [s, s])]
  · rw [l _ _ _ (by rw [s, s, s])]
  · rw [s, s, s, s]

theorem num_one (d : List UInt8) (p : Nat) (h : p < 8 * d.length) : numR d 1 p = .ok (bitAt d p, p + 1) := by
  unfold numR; rw [if_pos (by omega)]; simp [numAt]
theorem num_one_err (d : List UInt8) (p : Nat) (h : ¬ p < 8 * d.length) : numR d 1 p = .error 3 := by
  unfold numR; rw [if_neg (by omega)]

set_option maxRecDepth 100000 in
set_option maxHeartbeats 2000000 in
theorem raw_any (w : World) (a : Option Addr) (cap : Nat) (d : List UInt8) (most : Int) (hs : Sl w a cap d) (hsm : d.length ≤ 100000000) (hroom : most ≤ 1000000) :
    Calls Try.prog 22 #[.slice a d.length cap, .int .i64 most] w (RawEnds d most w) := by
  have hmf : ∀ (fn : Fn) (first cap : Array Value) (w : World), (Instr.makeFunc fn first cap).run Try.prog w = .ok (.func fn first cap) w := fun _ _ _ _ => rfl
  obtain ⟨R, hR⟩ : ∃ R, R = rawGo d most (8 * d.length + 1) 0 [] := ⟨_, rfl⟩
  have hE : rawOf d most = rawEnd R := by rw [rawOf_end, hR]
  have HR := Lib.hid hR
  have HE := Lib.hid hE
  clear hR hE
  go_enter_defers Try.func22, Try.ntmps22
  go_wp2_with fail
  obtain ⟨hA0, hA1, hA2, hP, hsz, hbw⟩ := heap_alloc4 w (.cells #[.slice none 0 0] 22) (.cells #[.int .i64 0] 3) (.cells #[.int .i64 0] 29) (.cells #[.slice a d.length cap, .int .i64 0, .slice none 0 0, .int .i64 most] 55)
  generalize (((w.alloc (.cells #[.slice none 0 0] 22)).alloc (.cells #[.int .i64 0] 3)).alloc (.cells #[.int .i64 0] 29)).alloc (.cells #[.slice a d.length cap, .int .i64 0, .slice none 0 0, .int .i64 most] 55) = w1 at *
  rw [show w.heap.size + 1 + 1 + 1 = w.heap.size + 3 from rfl, show w.heap.size + 1 + 1 = w.heap.size + 2 from rfl]
  obtain ⟨A, hAe⟩ : ∃ A, w.heap.size = A := ⟨_, rfl⟩
  rw [hAe] at hA0 hA1 hA2 hP hsz ⊢
  have hFT : FrameS (· < A + 3) w1 w1 := FrameS.refl fun k hk => by omega
  have hI1 : InfS (· < A + 3) w1 w1 (A + 3) a cap d most 0 [] := ⟨.slice none 0 0, hP, Row.nil hFT, by omega, by simp⟩
  have hd : Fits (· < A + 3) w1 a cap d most := ⟨⟨hs.below hbw, fun x hx hl => by
    rcases hs.bs with h1 | ⟨b, off, e, hc⟩
    · exact absurd h1 hl
    · rw [hx] at e
      injection e with e
      subst e
      have := lt_of_cell (hc 0 (by cases d with | nil => exact absurd rfl hl | cons _ _ => simp))
      show b < A + 3
      simp at this
      omega⟩, hsm, hroom⟩
  rw [hAe] at hbw
  have THR := Lib.hid (show ∀ (n : Nat) (w' : World), FrameS (· < A + 3) w1 w' → R = .error n → ∀ tmps : Array Value, tmps.getD 4 undef = .pointer (some ⟨A, 0, none⟩) → tmps.getD 5 undef = .pointer (some ⟨A + 1, 0, none⟩) → tmps.getD 6 undef = .pointer (some ⟨A + 2, 0, none⟩) →
      bodyPostD Try.prog Try.f22 (RawEnds d most w) (.panic (thrown n)) { tmps := tmps, defers := rawDefers A } w' from fun n w' hF hn tmps h4 h5 h6 =>
    raw_thrown d most w w' n A tmps _ _ _ h4 h5 h6 ((hF.keep A (by omega)).2.trans hA0) ((hF.keep (A + 1) (by omega)).2.trans hA1) ((hF.keep (A + 2) (by omega)).2.trans hA2) hAe (hbw.trans (hF.toBelow (fun k hk => by omega))) (by rw [HE.out, hn]; rfl))
  have HAe := Lib.hid hAe
  clear hs hAe
  go_loopw [8] (fun v wr => ∃ f q l : Nat, ∃ o : List UInt8, v = .int .i64 (l : Int) ∧ (l = 0 ∧ rawGo d most f q o = R ∧ 8 * d.length < q + f ∨ l = 1 ∧ R = .ok (q, o)) ∧ q ≤ 8 * d.length ∧ InfS (· < A + 3) w1 wr (A + 3) a cap d most q o) (fun _ wr => 8 * d.length + 1 - (intOf ((wr.cell? ⟨A + 3, 1, none⟩).getD undef)).toNat)
  case atStart => exact ⟨_, 0, 0, [], rfl, .inl ⟨rfl, HR.out.symm, by omega⟩, by omega, hI1⟩
  case round =>
    obtain ⟨f, q, l, o, rfl, hst, hq, hI⟩ := hrel
    clear hI1
    have hat := hI.at1
    rcases hst with ⟨rfl, hgo, hf⟩ | ⟨rfl, hok⟩
    · cases f with
      | zero => omega
      | succ f =>
      rw [rawGo] at hgo
      have HGO := Lib.hid hgo.symm
      have C1 := Lib.hid (bitS_any hd hI hq)
      clear hgo
      go_wp2_with fail
      refine Calls.mono C1.out ?_
      rintro e w2 (⟨hql, rfl, hI2⟩ | ⟨hql, rfl, hF⟩)
      rotate_left
      · have HG := Lib.hid (show R = .error 3 by rw [HGO.out, num_one_err d q hql])
        go_wp2_with fail
        exact THR.out _ _ hF HG.out _ rfl rfl rfl
      have HG := HGO.out
      rw [num_one d q hql] at HG
      simp only at HG
      have HG1 := Lib.hid HG
      have hb := bitAt_lt d q
      clear HG HGO C1 hI
      generalize bitAt d q = y at *
      have C2 := number_any2 hd hI2 (by omega) 2 2 rfl (by decide)
      cases hr2 : numR d 2 (q + 1) with
      | error k =>
        have HC := Lib.hid (Outs.err C2 hr2)
        have HG := HG1.out
        rw [hr2] at HG
        have HG2 := Lib.hid HG
        clear HG HG1 C2 hr2
        go_wp2_with fail
        refine Calls.mono HC.out ?_
        rintro e w3 ⟨rfl, hF⟩
        go_wp2_with fail
        exact THR.out _ _ hF HG2.out _ rfl rfl rfl
      | ok x2 =>
        obtain ⟨t, p2⟩ := x2
        obtain ⟨hp2e, hp2, ht4⟩ := numR_le hr2
        have HC := Lib.hid (Outs.good C2 hr2)
        have HG := HG1.out
        simp only [hr2] at HG
        have HG2 := Lib.hid HG
        clear HG HG1 C2 hr2
        go_wp2_with fail
        refine Calls.mono HC.out ?_
        rintro e w3 ⟨rfl, hI3⟩
        clear hI2 HC
        have hat3 := hI3.at1
        have ENDH : ∀ (p3 : Nat) (o3 : List UInt8), R = (if y = 1 then .ok (p3, o3) else rawGo d most f p3 o3) → q + 1 ≤ p3 → (y = 0 ∧ rawGo d most f p3 o3 = R ∧ 8 * d.length < p3 + f ∨ y = 1 ∧ R = .ok (p3, o3)) := by
          intro p3 o3 h1 h2
          rcases (show y = 0 ∨ y = 1 by omega) with h | h
          · rw [if_neg (by omega)] at h1
            exact .inl ⟨h, h1.symm, by omega⟩
          · rw [if_pos h] at h1
            exact .inr ⟨h, h1⟩
        have HEND := Lib.hid ENDH
        clear ENDH
        rcases (show t = 0 ∨ t = 1 ∨ t = 2 ∨ t = 3 by omega) with rfl | rfl | rfl | rfl
        · have C3 := storedI_any hd hI3 hp2
          have hB : blockR d most 0 p2 o = storedR d most p2 o := rfl
          cases hr3 : storedR d most p2 o with
          | error k =>
            have HC := Lib.hid (Outs.err C3 hr3)
            have HG := HG2.out
            rw [hB, hr3] at HG
            have HG3 := Lib.hid HG
            clear HG HG2 C3 hr3 hB HEND
            go_wp2_with fail
            refine Calls.mono HC.out ?_
            rintro e w4 ⟨rfl, hF⟩
            go_wp2_with fail
            exact THR.out _ _ hF HG3.out _ rfl rfl rfl
          | ok x3 =>
            obtain ⟨p3, o3⟩ := x3
            obtain ⟨hp3, hp3'⟩ := storedR_le hr3 hp2
            have HC := Lib.hid (Outs.good C3 hr3)
            have HG := HG2.out
            rw [hB, hr3] at HG
            simp only at HG
            have HG3 := Lib.hid HG
            clear HG HG2 C3 hr3 hB
            go_wp2_with fail
            refine Calls.mono HC.out ?_
            rintro e w4 ⟨rfl, hI4⟩
            have hat4 := hI4.at1
            go_wp2_with fail
            go_roundw
            case rel => exact ⟨f, p3, y, o3, rfl, HEND.out p3 o3 HG3.out (by omega), hp3', hI4⟩
            case measure => rw [hat, hat4]; simp [intOf]; omega
        · have C3 := Lib.hid (fixedI_any w3)
          have hB : blockR d most 1 p2 o = signsR d most fixedL fixedD (8 * d.length + 1) p2 o := rfl
          go_wp2_with fail
          refine Calls.mono C3.out ?_
          rintro e w4 ⟨hb4, C, D, rfl, hC, hD⟩
          obtain ⟨T, hST, hJ, hTall, hTnew, hback, hbackF⟩ := hI3.holdNew hb4
          have hFT := (hI3.frame.below hb4)
          have C4 := signsI_any (hd.hold hFT hST) hJ hp2 (hC.sub fun k hk => hTnew k hk.1 hk.2) (hD.sub fun k hk => hTnew k hk.1 hk.2) (by rw [fixedL_len]; omega) (by rw [fixedD_len]; omega)
          cases hr3 : signsR d most fixedL fixedD (8 * d.length + 1) p2 o with
          | error k =>
            have HC := Lib.hid (Outs.err C4 hr3)
            have HG := HG2.out
            rw [hB, hr3] at HG
            have HG3 := Lib.hid HG
            clear HG HG2 C3 C4 hr3 hB HEND hC hD hJ hTall hTnew hback
            go_wp2_with fail
            refine Calls.mono HC.out ?_
            rintro e w5 ⟨rfl, hF⟩
            have hF2 := hbackF _ hF
            go_wp2_with fail
            exact THR.out _ _ hF2 HG3.out _ rfl rfl rfl
          | ok x3 =>
            obtain ⟨p3, o3⟩ := x3
            obtain ⟨hp3, hp3'⟩ := signsR_le _ _ _ _ _ _ _ _ _ hr3
            have HC := Lib.hid (Outs.good C4 hr3)
            have HG := HG2.out
            rw [hB, hr3] at HG
            simp only at HG
            have HG3 := Lib.hid HG
            clear HG HG2 C3 C4 hr3 hB hC hD hJ hTall hTnew hbackF
            go_wp2_with fail
            refine Calls.mono HC.out ?_
            rintro e w5 ⟨rfl, hI5⟩
            have hI4 := hback _ _ _ hI5
            have hat4 := hI4.at1
            clear hI5
            go_wp2_with fail
            go_roundw
            case rel => exact ⟨f, p3, y, o3, rfl, HEND.out p3 o3 HG3.out (by omega), hp3', hI4⟩
            case measure => rw [hat, hat4]; simp [intOf]; omega
        · have C3 := told_any hd hI3 hp2
          cases hr3 : toldR d p2 with
          | error k =>
            have HC := Lib.hid (Outs.err C3 hr3)
            have HG := HG2.out
            rw [show blockR d most 2 p2 o = .error k by unfold blockR; rw [if_neg (by decide), if_neg (by decide), if_pos rfl, hr3]] at HG
            have HG3 := Lib.hid HG
            clear HG HG2 C3 hr3 HEND
            go_wp2_with fail
            refine Calls.mono HC.out ?_
            rintro e w4 ⟨rfl, hF⟩
            go_wp2_with fail
            exact THR.out _ _ hF HG3.out _ rfl rfl rfl
          | ok x3 =>
            obtain ⟨cl, cd, p3⟩ := x3
            obtain ⟨hp3, hp3', hl1, hl2⟩ := toldR_le hr3
            have HC := Lib.hid (Outs.good C3 hr3)
            have hB : blockR d most 2 p2 o = signsR d most cl cd (8 * d.length + 1) p3 o := by unfold blockR; rw [if_neg (by decide), if_neg (by decide), if_pos rfl, hr3]
            clear C3 hr3
            go_wp2_with fail
            refine Calls.mono HC.out ?_
            rintro e w4 ⟨C, D, rfl, T, hST, hJ, hC, hD, hback, hbackF⟩
            have hFT := hbackF _ hJ.frame
            have C4 := signsI_any (hd.hold hFT hST) hJ hp3' hC hD hl1 hl2
            cases hr3 : signsR d most cl cd (8 * d.length + 1) p3 o with
            | error k =>
              have HC2 := Lib.hid (Outs.err C4 hr3)
              have HG := HG2.out
              rw [hB, hr3] at HG
              have HG3 := Lib.hid HG
              clear HG HG2 HC C4 hr3 hB HEND hC hD hJ hback
              go_wp2_with fail
              refine Calls.mono HC2.out ?_
              rintro e w5 ⟨rfl, hF⟩
              have hF2 := hbackF _ hF
              go_wp2_with fail
              exact THR.out _ _ hF2 HG3.out _ rfl rfl rfl
            | ok x3 =>
              obtain ⟨p4, o3⟩ := x3
              obtain ⟨hp4, hp4'⟩ := signsR_le _ _ _ _ _ _ _ _ _ hr3
              have HC2 := Lib.hid (Outs.good C4 hr3)
              have HG := HG2.out
              rw [hB, hr3] at HG
              simp only at HG
              have HG3 := Lib.hid HG
              clear HG HG2 HC C4 hr3 hB hC hD hJ hbackF
              go_wp2_with fail
              refine Calls.mono HC2.out ?_
              rintro e w5 ⟨rfl, hI5⟩
              have hI4 := hback _ _ _ hI5
              have hat4 := hI4.at1
              clear hI5
              go_wp2_with fail
              go_roundw
              case rel => exact ⟨f, p4, y, o3, rfl, HEND.out p4 o3 HG3.out (by omega), hp4', hI4⟩
              case measure => rw [hat, hat4]; simp [intOf]; omega
        · have HG3 := Lib.hid (show R = .error 4 by rw [HG2.out]; rfl)
          have hF := hI3.frame
          clear HG2 HEND
          go_wp2_with fail
          refine (fail_any 4 _ _ rfl).mono ?_
          rintro e w' ⟨rfl, rfl⟩
          go_wp2_with fail
          exact THR.out _ _ hF HG3.out _ rfl rfl rfl
    · have HOK := Lib.hid (show rawOf d most = (o, (q + 7) / 8, 0) by rw [HE.out, hok]; rfl)
      clear hok
      obtain ⟨v, hv⟩ := hI
      obtain ⟨av, cv, rfl, hsv⟩ := hv.row.sl
      obtain ⟨-, c1, c2, -⟩ := four_cells hv.blk
      have hF := hv.row.frame
      have k0 := (hF.keep A (by omega)).2.trans hA0
      have k1 := (hF.keep (A + 1) (by omega)).2.trans hA1
      have k2 := (hF.keep (A + 2) (by omega)).2.trans hA2
      have d0 := cell_of_one k0
      have d1 := cell_of_one k1
      have d2 := cell_of_one k2
      have f0 := free_of_one k0
      have f1 := free_of_one k1
      have f2 := free_of_one k2
      have n0 : ¬ A = A + 3 := by omega
      have n1 : ¬ A + 1 = A + 3 := by omega
      have n2 : ¬ A + 3 = A := by omega
      have n3 : ¬ A + 3 = A + 1 := by omega
      go_wp2_with fail
      go_region
      have e1q : ((q : Int) + 7) / 8 = (((q + 7) / 8 : Nat) : Int) := by omega
      have r0 : RowB (· < A) w1 wr (.slice av o.length cv) o := hv.row.rebase (hF.sub fun k hk => by omega) (fun g hg hk => hv.row.off g hg (by omega))
      have r1 := r0.set_other (p := ⟨A, 0, none⟩) (hv.row.other k0 (by decide)) (by show ¬ A < A; omega) (.slice av o.length cv)
      have r2 := r1.set_other (p := ⟨A + 1, 0, none⟩) (hv.row.other k1 (by decide)) (by show ¬ A + 1 < A; omega) (.int .i64 (((q : Int) + 7) / 8))
      have r3 := r2.set_other (p := ⟨A + 2, 0, none⟩) (hv.row.other k2 (by decide)) (by show ¬ A + 2 < A; omega) (.int .i64 0)
      have e0 := one_set (v := .slice av o.length cv) k0
      have e1 := one_set (v := .int .i64 (((q : Int) + 7) / 8)) ((other_set wr A (A + 1) 0 (.slice av o.length cv) (by omega)).trans k1)
      have e2 := one_set (v := .int .i64 0) ((other_set (wr.setCell ⟨A, 0, none⟩ (.slice av o.length cv)) (A + 1) (A + 2) 0 (.int .i64 (((q : Int) + 7) / 8)) (by omega)).trans ((other_set wr A (A + 2) 0 (.slice av o.length cv) (by omega)).trans k2))
      have e0' := (other_set _ (A + 2) A 0 (.int .i64 0) (by omega)).trans ((other_set _ (A + 1) A 0 (.int .i64 (((q : Int) + 7) / 8)) (by omega)).trans e0)
      have e1' := (other_set _ (A + 2) (A + 1) 0 (.int .i64 0) (by omega)).trans e1
      obtain ⟨a9, c9, e9, hs9⟩ := r3.sl
      injection e9 with e9 e9a e9b
      subst e9 e9b
      have hb9 := hbw.trans (r3.frame.toBelow (fun k hk => hk))
      rw [e1q] at hs9 hb9 e0' e1' e2 ⊢
      clear r1 r2 r3 e0 e1 d0 d1 d2 f0 f1 f2 k0 k1 k2 hv c1 c2
      generalize ((wr.setCell ⟨A, 0, none⟩ (.slice av o.length cv)).setCell ⟨A + 1, 0, none⟩ (.int .i64 (((q + 7) / 8 : Nat) : Int))).setCell ⟨A + 2, 0, none⟩ (.int .i64 0) = w9 at *
      have gd : Below w9.heap.size w9 w9.drew := (Below.refl _ _).drew
      have E0 := Lib.hid ((gd.block A (lt_of_block e0')).trans e0')
      have E1 := Lib.hid ((gd.block (A + 1) (lt_of_block e1')).trans e1')
      have E2 := Lib.hid ((gd.block (A + 2) (lt_of_block e2)).trans e2)
      have HS := Lib.hid (hs9.below gd)
      have HB := Lib.hid hb9.drew
      have HNEW := Lib.hid (show ∀ x, av = some x → A ≤ x.block from fun x hx => Nat.le_of_not_lt (r0.off x.block (by rw [hx]; rfl)))
      clear e0' e1' e2 hs9 hb9 gd e1q r0
      go_wp2_with fail
      exact raw_returns d most w _ A _ av cv q o rfl rfl rfl E0.out E1.out E2.out HAe.out HB.out HS.out HNEW.out HOK.out

end Go.Proofs.Ytaapnjhkflpiiaa
