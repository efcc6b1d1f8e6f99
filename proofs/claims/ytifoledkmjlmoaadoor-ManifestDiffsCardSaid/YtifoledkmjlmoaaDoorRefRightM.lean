/-
  The document's Right of a manifest's files: the walk. (Printed by gen/gen_refrightm.py.)
-/
import Derived.Test.YtifoledkmjlmoaaDoorMFile
import Derived.Test.YtifoledkmjlmoaaDoorPath18
import Derived.Test.YtifoledkmjlmoaaDoorBox
namespace Go.Proofs.YtifoledkmjlmoaaDoor
open Go.RowKit Go.Mix Go.WideMaps

/-- Is p, with a slash, q's beginning? -/
def preB (p q : List UInt8) : Bool := decide (p.length < q.length) && decide (q.take p.length = p) && decide (q[p.length]? = some 47)
theorem right_pre {l : List MFile} : RightM l ↔ (∀ i, i < l.length → stepM l i = true) ∧ ∀ i, i < l.length → ∀ k, k < l.length → preB l[i]!.path l[k]!.path = false := by
  unfold RightM
  refine and_congr_right fun _ => ⟨fun h i hi k hk => ?_, fun h k hk j hj h47 => ?_⟩
  · rw [Bool.eq_false_iff]
    intro hp
    unfold preB at hp
    simp only [Bool.and_eq_true, decide_eq_true_eq] at hp
    have := h k hk _ hp.1.1 hp.2
    unfold pathsM at this
    rw [List.any_eq_false] at this
    refine this l[i]! (by rw [getElem!_pos l i hi]; exact List.getElem_mem hi) ?_
    rw [decide_eq_true_eq, hp.1.2]
  · unfold pathsM
    rw [List.any_eq_false]
    intro x hx
    rw [decide_eq_true_eq]
    intro e
    obtain ⟨i, hi, rfl⟩ := List.getElem_of_mem hx
    have := h i hi k hk
    rw [getElem!_pos l i hi] at this
    unfold preB at this
    have hl : (l[i].path).length = j := by rw [e, List.length_take]; omega
    rw [hl, decide_eq_true hj, decide_eq_true e.symm, decide_eq_true h47] at this
    cases this
theorem text_eq2 (s t : List UInt8) : ((strOf s).toList == (strOf t).toList) = decide (s = t) := by rw [strOf_list, strOf_list, Bool.eq_iff_iff, beq_iff_eq, decide_eq_true_eq]

set_option maxRecDepth 100000 in
set_option maxHeartbeats 4000000 in
theorem refRight_any {w : World} {l : List MFile} {a : Option Addr} {cap : Nat} (hg : RsAt encM 22 w a cap l) (hlen : l.length ≤ 1000000) (hnm : ∀ p ∈ l, p.path.length ≤ 100000 ∧ p.flag.length ≤ 100000) :
    Calls Tryd.prog 11 #[.slice a l.length cap] w fun e w' => ∃ r : Bool, e = .returned (.bool r) ∧ (r = true ↔ RightM l) ∧ Below w.heap.size w w' := by
  obtain ⟨n, hn⟩ : ∃ n, n = l.length := ⟨_, rfl⟩
  have HN := Lib.hid (And.intro hn hnm)
  have HG := Lib.hid hg
  rw [← hn] at hlen ⊢
  clear hn hg hnm
  have hF0 := Below.refl w.heap.size w
  go_enter Tryd.func11, Tryd.ntmps11
  go_wp2_with fail
  go_loopw [3] (fun s3 wr => ∃ i : Nat, s3 = .int .i64 (i : Int) ∧ i ≤ n ∧ (∀ j, j < i → stepM l j = true ∧ ∀ k, k < n → preB l[j]!.path l[k]!.path = false) ∧ Below w.heap.size w wr) (fun s3 _ => n - (intOf s3).toNat)
  case atStart => exact ⟨0, rfl, Nat.zero_le _, fun _ h => absurd h (Nat.not_lt_zero _), hF0⟩
  case round =>
    clear hF0
    obtain ⟨wo, rfl⟩ : ∃ wo, wo = wr := ⟨_, rfl⟩
    obtain ⟨i, rfl, hi, hpre, hb⟩ := hrel
    have HP := Lib.hid hpre
    have HB := Lib.hid hb
    clear hpre hb
    by_cases hin : i < n
    · have t1 : decide ((i : Int) < (n : Int)) = true := decide_eq_true (by omega)
      have t1' : decide (i < n) = true := decide_eq_true (by omega)
      have hil : i < l.length := by rw [← HN.out.1]; exact hin
      obtain ⟨b, q, IX, R, -⟩ := (HG.out.below HB.out).at tyN (i : Int) i rfl hil
      rw [← HN.out.1] at IX
      obtain ⟨f0, -, f2⟩ := mf_fields R
      have hpn : l[i]!.path.length ≤ 100000 ∧ l[i]!.flag.length ≤ 100000 := HN.out.2 _ (by rw [getElem!_pos l i hil]; exact List.getElem_mem hil)
      have hso : stepM l i = (pathL l[i]!.path && (decide (l[i]!.flag = []) || decide (l[i]!.flag = [120]) || decide (l[i]!.flag = [108])) && (!decide (0 < i) || Op.bytesLess l[i - 1]!.path l[i]!.path)) := rfl
      obtain ⟨p, hp⟩ : ∃ p, p = l[i]! := ⟨_, rfl⟩
      rw [← hp] at f0 f2 hpn hso
      have HPP := Lib.hid (And.intro hp.symm (And.intro hpn hil))
      have HSO := Lib.hid hso
      have CN := refPath_any p.path hpn.1 wo
      have HF := Lib.hid (And.intro f0 f2)
      obtain ⟨NS, hNS⟩ : ∃ NS, NS = strOf p.path := ⟨_, rfl⟩
      rw [← hNS] at CN f0
      have HNS := Lib.hid hNS
      clear hp hpn hso hil R f2 hNS
      go_wp2_with fail
      ((with_reducible refine CN.mono ?_))
      clear CN f0
      rintro e w5 ⟨rfl, hw5⟩
      have f0 := (hw5.cell (p := ⟨b, q, none⟩) (lt_of_cell HF.out.1)).trans HF.out.1
      have f2 := (hw5.cell (p := ⟨b, q + 21, none⟩) (lt_of_cell HF.out.2)).trans HF.out.2
      have HB5 := Lib.hid (Grow.trans HB.out hw5)
      have E0 := empty_text p.flag
      have E1 := eq_text p.flag [120]
      have E2 := eq_text p.flag [108]
      have HSO2 := HSO.out
      rw [← HNS.out] at f0
      generalize pathL p.path = d1 at *
      generalize decide (p.flag = []) = b0 at *
      generalize decide (p.flag = [120]) = b1 at *
      generalize decide (p.flag = [108]) = b2 at *
      generalize strOf p.flag = FS at *
      have HSO3 := Lib.hid HSO2
      clear HSO2 hw5 HSO HF
      cases d1
      · go_wp2_with fail
        go_ret
        exact ⟨_, rfl, ⟨fun h => (by cases h), fun h => absurd (h.1 i HPP.out.2.2) (by rw [HSO3.out]; simp)⟩, HB5.out⟩
      cases b0
      case true =>
        by_cases hi0 : i = 0
        · have hgt : decide (0 < i) = false := decide_eq_false (by omega)
          have hgt' : decide ((0 : Int) < (i : Int)) = false := decide_eq_false (by omega)
          clear hi0
          have HST : Hid (stepM l i = true) := Lib.hid (by rw [HSO3.out]; rw [hgt]; simp)
          obtain ⟨m, hm⟩ : ∃ m, m = p.path.length := ⟨_, rfl⟩
          have hsz : NS.size = m := by rw [HNS.out, strOf_size, hm]
          have HMM := Lib.hid hm
          have hm6 : m ≤ 100000 := by rw [hm]; exact HPP.out.2.1.1
          clear hm
          go_wp2_with fail
          clear hgt hgt' E0 E1 E2 t1 t1'
          go_loopw [5] (fun s5 wr => ∃ k : Nat, s5 = .int .i64 (k : Int) ∧ k ≤ n ∧ (∀ t, t < k → preB p.path l[t]!.path = false) ∧ w5 = wr) (fun s5 _ => n - (intOf s5).toNat)
          case atStart => exact ⟨0, rfl, Nat.zero_le _, fun _ h => absurd h (Nat.not_lt_zero _), rfl⟩
          case round =>
            obtain ⟨k, rfl, hk, hno, rfl⟩ := hrel
            have HNO := Lib.hid hno
            clear hno
            by_cases hkn : k < n
            · have t2 : decide ((k : Int) < (n : Int)) = true := decide_eq_true (by omega)
              have t2' : decide (k < n) = true := decide_eq_true (by omega)
              have hkl : k < l.length := by rw [← HN.out.1]; exact hkn
              obtain ⟨b3, q3, IX3, R3, -⟩ := (HG.out.below HB5.out).at tyN (k : Int) k rfl hkl
              rw [← HN.out.1] at IX3
              obtain ⟨f3, -, -⟩ := mf_fields R3
              have hqn : l[k]!.path.length ≤ 100000 := (HN.out.2 _ (by rw [getElem!_pos l k hkl]; exact List.getElem_mem hkl)).1
              obtain ⟨x, hx⟩ : ∃ x, x = l[k]!.path := ⟨_, rfl⟩
              rw [← hx] at f3 hqn
              have HXX := Lib.hid (And.intro hx hkl)
              have hPB : preB p.path x = (decide (p.path.length < x.length) && decide (x.take p.path.length = p.path) && decide (x[p.path.length]? = some 47)) := rfl
              rw [← HMM.out] at hPB
              have hxz : (strOf x).size = x.length := strOf_size x
              obtain ⟨xl, hxl⟩ : ∃ xl, xl = x.length := ⟨_, rfl⟩
              rw [← hxl] at hxz hqn hPB
              have HXL := Lib.hid hxl
              obtain ⟨pb, hpb⟩ : ∃ pb, pb = preB p.path x := ⟨_, rfl⟩
              rw [← hpb] at hPB
              have HPB := Lib.hid (And.intro hpb hPB)
              have NEXT : Hid (pb = false → ∀ t, t < k + 1 → preB p.path l[t]!.path = false) := Lib.hid fun hf t ht => by
                rcases Nat.lt_or_ge t k with h1 | h1
                · exact HNO.out t h1
                · obtain rfl : t = k := by omega
                  rw [← HXX.out.1, ← HPB.out.1]; exact hf
              have BADR : Hid (pb = true → ¬ RightM l) := Lib.hid fun hf h => by
                have := (right_pre.1 h).2 i HPP.out.2.2 k HXX.out.2
                rw [HPP.out.1, ← HXX.out.1, ← HPB.out.1, hf] at this
                cases this
              clear hx hxl hpb hkl R3 hPB
              by_cases h1 : m < xl
              · have t3 : decide ((m : Int) < (xl : Int)) = true := decide_eq_true (by omega)
                have t3' : decide (m < xl) = true := decide_eq_true h1
                have hml : m < x.length := by rw [← HXL.out]; exact h1
                have SL := fun W : World => str_to Tryd.underlying9 x (i := m) (by omega) W
                have EX := ext_take x m
                have E := text_eq2 (x.take m) p.path
                rw [← HNS.out] at E
                have IX4 := fun W : World => str_at Tryd.underlying9 x (i := m) (m : Int) rfl (c := x[m]) (List.getElem?_eq_getElem hml) W
                have hx4 : x[m]? = some x[m] := List.getElem?_eq_getElem hml
                obtain ⟨c, hc⟩ : ∃ c, c = x[m] := ⟨_, rfl⟩
                rw [← hc] at IX4 hx4
                have q0 : ((c.toNat : Int) == 47) = decide (c = 47) := byte_eq c 47
                have HX4 := Lib.hid hx4
                generalize strOf (x.take m) = TS at *
                generalize strOf x = XS at *
                clear hc hx4 hml
                by_cases h2 : x.take m = p.path
                · rw [decide_eq_true h2] at E
                  by_cases h3 : c = 47
                  · rw [decide_eq_true h3] at q0
                    have hpt : pb = true := by rw [HPB.out.2, decide_eq_true h1, decide_eq_true h2, HX4.out, h3]; rfl
                    have HR := Lib.hid (BADR.out hpt)
                    clear h2 h3 hpt
                    go_wp2_with (first | (refine wpList_index_at rfl _ _ _ rfl _ _ _ rfl rfl IX4 ?_) | (refine wpList_unguard rfl ?_; refine wpList_index_at rfl _ _ _ rfl _ _ _ rfl rfl IX4 ?_))
                    go_ret
                    exact ⟨_, rfl, ⟨fun h => (by cases h), fun h => absurd h HR.out⟩, HB5.out⟩
                  · rw [decide_eq_false h3] at q0
                    have hpt : pb = false := by rw [HPB.out.2, HX4.out, decide_eq_false (p := (some c = some 47)) (fun h => h3 (by injection h)), Bool.and_false]
                    have HR := Lib.hid (NEXT.out hpt)
                    clear h2 h3 hpt
                    go_wp2_with (first | (refine wpList_index_at rfl _ _ _ rfl _ _ _ rfl rfl IX4 ?_) | (refine wpList_unguard rfl ?_; refine wpList_index_at rfl _ _ _ rfl _ _ _ rfl rfl IX4 ?_))
                    go_roundw
                    case rel => exact ⟨k + 1, by go_num, by omega, HR.out, by first | rfl | trivial⟩
                    case measure => simp [intOf]; omega
                · rw [decide_eq_false h2] at E
                  have hpt : pb = false := by rw [HPB.out.2, decide_eq_false h2, Bool.and_false, Bool.false_and]
                  have HR := Lib.hid (NEXT.out hpt)
                  clear h2 hpt
                  go_wp2_with fail
                  go_roundw
                  case rel => exact ⟨k + 1, by go_num, by omega, HR.out, by first | rfl | trivial⟩
                  case measure => simp [intOf]; omega
              · have t3 : decide ((m : Int) < (xl : Int)) = false := decide_eq_false (by omega)
                have t3' : decide (m < xl) = false := decide_eq_false h1
                have hpt : pb = false := by rw [HPB.out.2, decide_eq_false h1, Bool.false_and, Bool.false_and]
                have HR := Lib.hid (NEXT.out hpt)
                clear hpt h1
                generalize strOf x = XS at *
                go_wp2_with fail
                go_roundw
                case rel => exact ⟨k + 1, by go_num, by omega, HR.out, by first | rfl | trivial⟩
                case measure => simp [intOf]; omega
            · obtain rfl : k = n := by omega
              have t2 : decide ((k : Int) < (k : Int)) = false := decide_eq_false (by omega)
              have t2' : decide (k < k) = false := decide_eq_false (by omega)
              have HNX : Hid (∀ j, j < i + 1 → stepM l j = true ∧ ∀ t, t < k → preB l[j]!.path l[t]!.path = false) := Lib.hid fun j hj => by
                rcases Nat.lt_or_ge j i with h1 | h1
                · exact HP.out j h1
                · obtain rfl : j = i := by omega
                  rw [HPP.out.1]
                  exact ⟨HST.out, HNO.out⟩
              go_wp2_with fail
              go_roundw
              case rel => exact ⟨i + 1, by go_num, by omega, HNX.out, HB5.out⟩
              case measure => simp [intOf]; omega
        have hi1 : 0 < i := by omega
        obtain ⟨b2', q2, IX2, R2, -⟩ := (HG.out.below HB5.out).at tyN ((i : Int) - 1) (i - 1) (by omega) (by rw [← HN.out.1]; omega)
        rw [← HN.out.1] at IX2
        obtain ⟨f4, -, -⟩ := mf_fields R2
        have hwp : wrap64 ((i : Int) - 1) = (i : Int) - 1 := IntWalk.wrap64_in _ ⟨by omega, by omega⟩
        have hgt : decide (0 < i) = true := decide_eq_true (by omega)
        have hgt' : decide ((0 : Int) < (i : Int)) = true := decide_eq_true (by omega)
        have EG : Op.bytesLess (strOf l[i - 1]!.path).toList NS.toList = Op.bytesLess l[i - 1]!.path p.path := by rw [HNS.out, strOf_list, strOf_list]
        have HSO4 := Lib.hid HSO3.out
        clear HSO3 R2 hi0
        generalize Op.bytesLess l[i - 1]!.path p.path = cv at *
        generalize strOf l[i - 1]!.path = PS at *
        have HSO3 := Lib.hid HSO4.out
        clear HSO4
        cases cv
        · go_wp2_with fail
          go_ret
          exact ⟨_, rfl, ⟨fun h => (by cases h), fun h => absurd (h.1 i HPP.out.2.2) (by rw [HSO3.out]; rw [decide_eq_true hi1]; simp)⟩, HB5.out⟩
        · have HST : Hid (stepM l i = true) := Lib.hid (by rw [HSO3.out]; simp)
          obtain ⟨m, hm⟩ : ∃ m, m = p.path.length := ⟨_, rfl⟩
          have hsz : NS.size = m := by rw [HNS.out, strOf_size, hm]
          have HMM := Lib.hid hm
          have hm6 : m ≤ 100000 := by rw [hm]; exact HPP.out.2.1.1
          clear hm
          go_wp2_with fail
          clear hgt hgt' EG hwp IX2 f4 E0 E1 E2 t1 t1'
          go_loopw [5] (fun s5 wr => ∃ k : Nat, s5 = .int .i64 (k : Int) ∧ k ≤ n ∧ (∀ t, t < k → preB p.path l[t]!.path = false) ∧ w5 = wr) (fun s5 _ => n - (intOf s5).toNat)
          case atStart => exact ⟨0, rfl, Nat.zero_le _, fun _ h => absurd h (Nat.not_lt_zero _), rfl⟩
          case round =>
            obtain ⟨k, rfl, hk, hno, rfl⟩ := hrel
            have HNO := Lib.hid hno
            clear hno
            by_cases hkn : k < n
            · have t2 : decide ((k : Int) < (n : Int)) = true := decide_eq_true (by omega)
              have t2' : decide (k < n) = true := decide_eq_true (by omega)
              have hkl : k < l.length := by rw [← HN.out.1]; exact hkn
              obtain ⟨b3, q3, IX3, R3, -⟩ := (HG.out.below HB5.out).at tyN (k : Int) k rfl hkl
              rw [← HN.out.1] at IX3
              obtain ⟨f3, -, -⟩ := mf_fields R3
              have hqn : l[k]!.path.length ≤ 100000 := (HN.out.2 _ (by rw [getElem!_pos l k hkl]; exact List.getElem_mem hkl)).1
              obtain ⟨x, hx⟩ : ∃ x, x = l[k]!.path := ⟨_, rfl⟩
              rw [← hx] at f3 hqn
              have HXX := Lib.hid (And.intro hx hkl)
              have hPB : preB p.path x = (decide (p.path.length < x.length) && decide (x.take p.path.length = p.path) && decide (x[p.path.length]? = some 47)) := rfl
              rw [← HMM.out] at hPB
              have hxz : (strOf x).size = x.length := strOf_size x
              obtain ⟨xl, hxl⟩ : ∃ xl, xl = x.length := ⟨_, rfl⟩
              rw [← hxl] at hxz hqn hPB
              have HXL := Lib.hid hxl
              obtain ⟨pb, hpb⟩ : ∃ pb, pb = preB p.path x := ⟨_, rfl⟩
              rw [← hpb] at hPB
              have HPB := Lib.hid (And.intro hpb hPB)
              have NEXT : Hid (pb = false → ∀ t, t < k + 1 → preB p.path l[t]!.path = false) := Lib.hid fun hf t ht => by
                rcases Nat.lt_or_ge t k with h1 | h1
                · exact HNO.out t h1
                · obtain rfl : t = k := by omega
                  rw [← HXX.out.1, ← HPB.out.1]; exact hf
              have BADR : Hid (pb = true → ¬ RightM l) := Lib.hid fun hf h => by
                have := (right_pre.1 h).2 i HPP.out.2.2 k HXX.out.2
                rw [HPP.out.1, ← HXX.out.1, ← HPB.out.1, hf] at this
                cases this
              clear hx hxl hpb hkl R3 hPB
              by_cases h1 : m < xl
              · have t3 : decide ((m : Int) < (xl : Int)) = true := decide_eq_true (by omega)
                have t3' : decide (m < xl) = true := decide_eq_true h1
                have hml : m < x.length := by rw [← HXL.out]; exact h1
                have SL := fun W : World => str_to Tryd.underlying9 x (i := m) (by omega) W
                have EX := ext_take x m
                have E := text_eq2 (x.take m) p.path
                rw [← HNS.out] at E
                have IX4 := fun W : World => str_at Tryd.underlying9 x (i := m) (m : Int) rfl (c := x[m]) (List.getElem?_eq_getElem hml) W
                have hx4 : x[m]? = some x[m] := List.getElem?_eq_getElem hml
                obtain ⟨c, hc⟩ : ∃ c, c = x[m] := ⟨_, rfl⟩
                rw [← hc] at IX4 hx4
                have q0 : ((c.toNat : Int) == 47) = decide (c = 47) := byte_eq c 47
                have HX4 := Lib.hid hx4
                generalize strOf (x.take m) = TS at *
                generalize strOf x = XS at *
                clear hc hx4 hml
                by_cases h2 : x.take m = p.path
                · rw [decide_eq_true h2] at E
                  by_cases h3 : c = 47
                  · rw [decide_eq_true h3] at q0
                    have hpt : pb = true := by rw [HPB.out.2, decide_eq_true h1, decide_eq_true h2, HX4.out, h3]; rfl
                    have HR := Lib.hid (BADR.out hpt)
                    clear h2 h3 hpt
                    go_wp2_with (first | (refine wpList_index_at rfl _ _ _ rfl _ _ _ rfl rfl IX4 ?_) | (refine wpList_unguard rfl ?_; refine wpList_index_at rfl _ _ _ rfl _ _ _ rfl rfl IX4 ?_))
                    go_ret
                    exact ⟨_, rfl, ⟨fun h => (by cases h), fun h => absurd h HR.out⟩, HB5.out⟩
                  · rw [decide_eq_false h3] at q0
                    have hpt : pb = false := by rw [HPB.out.2, HX4.out, decide_eq_false (p := (some c = some 47)) (fun h => h3 (by injection h)), Bool.and_false]
                    have HR := Lib.hid (NEXT.out hpt)
                    clear h2 h3 hpt
                    go_wp2_with (first | (refine wpList_index_at rfl _ _ _ rfl _ _ _ rfl rfl IX4 ?_) | (refine wpList_unguard rfl ?_; refine wpList_index_at rfl _ _ _ rfl _ _ _ rfl rfl IX4 ?_))
                    go_roundw
                    case rel => exact ⟨k + 1, by go_num, by omega, HR.out, by first | rfl | trivial⟩
                    case measure => simp [intOf]; omega
                · rw [decide_eq_false h2] at E
                  have hpt : pb = false := by rw [HPB.out.2, decide_eq_false h2, Bool.and_false, Bool.false_and]
                  have HR := Lib.hid (NEXT.out hpt)
                  clear h2 hpt
                  go_wp2_with fail
                  go_roundw
                  case rel => exact ⟨k + 1, by go_num, by omega, HR.out, by first | rfl | trivial⟩
                  case measure => simp [intOf]; omega
              · have t3 : decide ((m : Int) < (xl : Int)) = false := decide_eq_false (by omega)
                have t3' : decide (m < xl) = false := decide_eq_false h1
                have hpt : pb = false := by rw [HPB.out.2, decide_eq_false h1, Bool.false_and, Bool.false_and]
                have HR := Lib.hid (NEXT.out hpt)
                clear hpt h1
                generalize strOf x = XS at *
                go_wp2_with fail
                go_roundw
                case rel => exact ⟨k + 1, by go_num, by omega, HR.out, by first | rfl | trivial⟩
                case measure => simp [intOf]; omega
            · obtain rfl : k = n := by omega
              have t2 : decide ((k : Int) < (k : Int)) = false := decide_eq_false (by omega)
              have t2' : decide (k < k) = false := decide_eq_false (by omega)
              have HNX : Hid (∀ j, j < i + 1 → stepM l j = true ∧ ∀ t, t < k → preB l[j]!.path l[t]!.path = false) := Lib.hid fun j hj => by
                rcases Nat.lt_or_ge j i with h1 | h1
                · exact HP.out j h1
                · obtain rfl : j = i := by omega
                  rw [HPP.out.1]
                  exact ⟨HST.out, HNO.out⟩
              go_wp2_with fail
              go_roundw
              case rel => exact ⟨i + 1, by go_num, by omega, HNX.out, HB5.out⟩
              case measure => simp [intOf]; omega
      cases b1
      case true =>
        by_cases hi0 : i = 0
        · have hgt : decide (0 < i) = false := decide_eq_false (by omega)
          have hgt' : decide ((0 : Int) < (i : Int)) = false := decide_eq_false (by omega)
          clear hi0
          have HST : Hid (stepM l i = true) := Lib.hid (by rw [HSO3.out]; rw [hgt]; simp)
          obtain ⟨m, hm⟩ : ∃ m, m = p.path.length := ⟨_, rfl⟩
          have hsz : NS.size = m := by rw [HNS.out, strOf_size, hm]
          have HMM := Lib.hid hm
          have hm6 : m ≤ 100000 := by rw [hm]; exact HPP.out.2.1.1
          clear hm
          go_wp2_with fail
          clear hgt hgt' E0 E1 E2 t1 t1'
          go_loopw [5] (fun s5 wr => ∃ k : Nat, s5 = .int .i64 (k : Int) ∧ k ≤ n ∧ (∀ t, t < k → preB p.path l[t]!.path = false) ∧ w5 = wr) (fun s5 _ => n - (intOf s5).toNat)
          case atStart => exact ⟨0, rfl, Nat.zero_le _, fun _ h => absurd h (Nat.not_lt_zero _), rfl⟩
          case round =>
            obtain ⟨k, rfl, hk, hno, rfl⟩ := hrel
            have HNO := Lib.hid hno
            clear hno
            by_cases hkn : k < n
            · have t2 : decide ((k : Int) < (n : Int)) = true := decide_eq_true (by omega)
              have t2' : decide (k < n) = true := decide_eq_true (by omega)
              have hkl : k < l.length := by rw [← HN.out.1]; exact hkn
              obtain ⟨b3, q3, IX3, R3, -⟩ := (HG.out.below HB5.out).at tyN (k : Int) k rfl hkl
              rw [← HN.out.1] at IX3
              obtain ⟨f3, -, -⟩ := mf_fields R3
              have hqn : l[k]!.path.length ≤ 100000 := (HN.out.2 _ (by rw [getElem!_pos l k hkl]; exact List.getElem_mem hkl)).1
              obtain ⟨x, hx⟩ : ∃ x, x = l[k]!.path := ⟨_, rfl⟩
              rw [← hx] at f3 hqn
              have HXX := Lib.hid (And.intro hx hkl)
              have hPB : preB p.path x = (decide (p.path.length < x.length) && decide (x.take p.path.length = p.path) && decide (x[p.path.length]? = some 47)) := rfl
              rw [← HMM.out] at hPB
              have hxz : (strOf x).size = x.length := strOf_size x
              obtain ⟨xl, hxl⟩ : ∃ xl, xl = x.length := ⟨_, rfl⟩
              rw [← hxl] at hxz hqn hPB
              have HXL := Lib.hid hxl
              obtain ⟨pb, hpb⟩ : ∃ pb, pb = preB p.path x := ⟨_, rfl⟩
              rw [← hpb] at hPB
              have HPB := Lib.hid (And.intro hpb hPB)
              have NEXT : Hid (pb = false → ∀ t, t < k + 1 → preB p.path l[t]!.path = false) := Lib.hid fun hf t ht => by
                rcases Nat.lt_or_ge t k with h1 | h1
                · exact HNO.out t h1
                · obtain rfl : t = k := by omega
                  rw [← HXX.out.1, ← HPB.out.1]; exact hf
              have BADR : Hid (pb = true → ¬ RightM l) := Lib.hid fun hf h => by
                have := (right_pre.1 h).2 i HPP.out.2.2 k HXX.out.2
                rw [HPP.out.1, ← HXX.out.1, ← HPB.out.1, hf] at this
                cases this
              clear hx hxl hpb hkl R3 hPB
              by_cases h1 : m < xl
              · have t3 : decide ((m : Int) < (xl : Int)) = true := decide_eq_true (by omega)
                have t3' : decide (m < xl) = true := decide_eq_true h1
                have hml : m < x.length := by rw [← HXL.out]; exact h1
                have SL := fun W : World => str_to Tryd.underlying9 x (i := m) (by omega) W
                have EX := ext_take x m
                have E := text_eq2 (x.take m) p.path
                rw [← HNS.out] at E
                have IX4 := fun W : World => str_at Tryd.underlying9 x (i := m) (m : Int) rfl (c := x[m]) (List.getElem?_eq_getElem hml) W
                have hx4 : x[m]? = some x[m] := List.getElem?_eq_getElem hml
                obtain ⟨c, hc⟩ : ∃ c, c = x[m] := ⟨_, rfl⟩
                rw [← hc] at IX4 hx4
                have q0 : ((c.toNat : Int) == 47) = decide (c = 47) := byte_eq c 47
                have HX4 := Lib.hid hx4
                generalize strOf (x.take m) = TS at *
                generalize strOf x = XS at *
                clear hc hx4 hml
                by_cases h2 : x.take m = p.path
                · rw [decide_eq_true h2] at E
                  by_cases h3 : c = 47
                  · rw [decide_eq_true h3] at q0
                    have hpt : pb = true := by rw [HPB.out.2, decide_eq_true h1, decide_eq_true h2, HX4.out, h3]; rfl
                    have HR := Lib.hid (BADR.out hpt)
                    clear h2 h3 hpt
                    go_wp2_with (first | (refine wpList_index_at rfl _ _ _ rfl _ _ _ rfl rfl IX4 ?_) | (refine wpList_unguard rfl ?_; refine wpList_index_at rfl _ _ _ rfl _ _ _ rfl rfl IX4 ?_))
                    go_ret
                    exact ⟨_, rfl, ⟨fun h => (by cases h), fun h => absurd h HR.out⟩, HB5.out⟩
                  · rw [decide_eq_false h3] at q0
                    have hpt : pb = false := by rw [HPB.out.2, HX4.out, decide_eq_false (p := (some c = some 47)) (fun h => h3 (by injection h)), Bool.and_false]
                    have HR := Lib.hid (NEXT.out hpt)
                    clear h2 h3 hpt
                    go_wp2_with (first | (refine wpList_index_at rfl _ _ _ rfl _ _ _ rfl rfl IX4 ?_) | (refine wpList_unguard rfl ?_; refine wpList_index_at rfl _ _ _ rfl _ _ _ rfl rfl IX4 ?_))
                    go_roundw
                    case rel => exact ⟨k + 1, by go_num, by omega, HR.out, by first | rfl | trivial⟩
                    case measure => simp [intOf]; omega
                · rw [decide_eq_false h2] at E
                  have hpt : pb = false := by rw [HPB.out.2, decide_eq_false h2, Bool.and_false, Bool.false_and]
                  have HR := Lib.hid (NEXT.out hpt)
                  clear h2 hpt
                  go_wp2_with fail
                  go_roundw
                  case rel => exact ⟨k + 1, by go_num, by omega, HR.out, by first | rfl | trivial⟩
                  case measure => simp [intOf]; omega
              · have t3 : decide ((m : Int) < (xl : Int)) = false := decide_eq_false (by omega)
                have t3' : decide (m < xl) = false := decide_eq_false h1
                have hpt : pb = false := by rw [HPB.out.2, decide_eq_false h1, Bool.false_and, Bool.false_and]
                have HR := Lib.hid (NEXT.out hpt)
                clear hpt h1
                generalize strOf x = XS at *
                go_wp2_with fail
                go_roundw
                case rel => exact ⟨k + 1, by go_num, by omega, HR.out, by first | rfl | trivial⟩
                case measure => simp [intOf]; omega
            · obtain rfl : k = n := by omega
              have t2 : decide ((k : Int) < (k : Int)) = false := decide_eq_false (by omega)
              have t2' : decide (k < k) = false := decide_eq_false (by omega)
              have HNX : Hid (∀ j, j < i + 1 → stepM l j = true ∧ ∀ t, t < k → preB l[j]!.path l[t]!.path = false) := Lib.hid fun j hj => by
                rcases Nat.lt_or_ge j i with h1 | h1
                · exact HP.out j h1
                · obtain rfl : j = i := by omega
                  rw [HPP.out.1]
                  exact ⟨HST.out, HNO.out⟩
              go_wp2_with fail
              go_roundw
              case rel => exact ⟨i + 1, by go_num, by omega, HNX.out, HB5.out⟩
              case measure => simp [intOf]; omega
        have hi1 : 0 < i := by omega
        obtain ⟨b2', q2, IX2, R2, -⟩ := (HG.out.below HB5.out).at tyN ((i : Int) - 1) (i - 1) (by omega) (by rw [← HN.out.1]; omega)
        rw [← HN.out.1] at IX2
        obtain ⟨f4, -, -⟩ := mf_fields R2
        have hwp : wrap64 ((i : Int) - 1) = (i : Int) - 1 := IntWalk.wrap64_in _ ⟨by omega, by omega⟩
        have hgt : decide (0 < i) = true := decide_eq_true (by omega)
        have hgt' : decide ((0 : Int) < (i : Int)) = true := decide_eq_true (by omega)
        have EG : Op.bytesLess (strOf l[i - 1]!.path).toList NS.toList = Op.bytesLess l[i - 1]!.path p.path := by rw [HNS.out, strOf_list, strOf_list]
        have HSO4 := Lib.hid HSO3.out
        clear HSO3 R2 hi0
        generalize Op.bytesLess l[i - 1]!.path p.path = cv at *
        generalize strOf l[i - 1]!.path = PS at *
        have HSO3 := Lib.hid HSO4.out
        clear HSO4
        cases cv
        · go_wp2_with fail
          go_ret
          exact ⟨_, rfl, ⟨fun h => (by cases h), fun h => absurd (h.1 i HPP.out.2.2) (by rw [HSO3.out]; rw [decide_eq_true hi1]; simp)⟩, HB5.out⟩
        · have HST : Hid (stepM l i = true) := Lib.hid (by rw [HSO3.out]; simp)
          obtain ⟨m, hm⟩ : ∃ m, m = p.path.length := ⟨_, rfl⟩
          have hsz : NS.size = m := by rw [HNS.out, strOf_size, hm]
          have HMM := Lib.hid hm
          have hm6 : m ≤ 100000 := by rw [hm]; exact HPP.out.2.1.1
          clear hm
          go_wp2_with fail
          clear hgt hgt' EG hwp IX2 f4 E0 E1 E2 t1 t1'
          go_loopw [5] (fun s5 wr => ∃ k : Nat, s5 = .int .i64 (k : Int) ∧ k ≤ n ∧ (∀ t, t < k → preB p.path l[t]!.path = false) ∧ w5 = wr) (fun s5 _ => n - (intOf s5).toNat)
          case atStart => exact ⟨0, rfl, Nat.zero_le _, fun _ h => absurd h (Nat.not_lt_zero _), rfl⟩
          case round =>
            obtain ⟨k, rfl, hk, hno, rfl⟩ := hrel
            have HNO := Lib.hid hno
            clear hno
            by_cases hkn : k < n
            · have t2 : decide ((k : Int) < (n : Int)) = true := decide_eq_true (by omega)
              have t2' : decide (k < n) = true := decide_eq_true (by omega)
              have hkl : k < l.length := by rw [← HN.out.1]; exact hkn
              obtain ⟨b3, q3, IX3, R3, -⟩ := (HG.out.below HB5.out).at tyN (k : Int) k rfl hkl
              rw [← HN.out.1] at IX3
              obtain ⟨f3, -, -⟩ := mf_fields R3
              have hqn : l[k]!.path.length ≤ 100000 := (HN.out.2 _ (by rw [getElem!_pos l k hkl]; exact List.getElem_mem hkl)).1
              obtain ⟨x, hx⟩ : ∃ x, x = l[k]!.path := ⟨_, rfl⟩
              rw [← hx] at f3 hqn
              have HXX := Lib.hid (And.intro hx hkl)
              have hPB : preB p.path x = (decide (p.path.length < x.length) && decide (x.take p.path.length = p.path) && decide (x[p.path.length]? = some 47)) := rfl
              rw [← HMM.out] at hPB
              have hxz : (strOf x).size = x.length := strOf_size x
              obtain ⟨xl, hxl⟩ : ∃ xl, xl = x.length := ⟨_, rfl⟩
              rw [← hxl] at hxz hqn hPB
              have HXL := Lib.hid hxl
              obtain ⟨pb, hpb⟩ : ∃ pb, pb = preB p.path x := ⟨_, rfl⟩
              rw [← hpb] at hPB
              have HPB := Lib.hid (And.intro hpb hPB)
              have NEXT : Hid (pb = false → ∀ t, t < k + 1 → preB p.path l[t]!.path = false) := Lib.hid fun hf t ht => by
                rcases Nat.lt_or_ge t k with h1 | h1
                · exact HNO.out t h1
                · obtain rfl : t = k := by omega
                  rw [← HXX.out.1, ← HPB.out.1]; exact hf
              have BADR : Hid (pb = true → ¬ RightM l) := Lib.hid fun hf h => by
                have := (right_pre.1 h).2 i HPP.out.2.2 k HXX.out.2
                rw [HPP.out.1, ← HXX.out.1, ← HPB.out.1, hf] at this
                cases this
              clear hx hxl hpb hkl R3 hPB
              by_cases h1 : m < xl
              · have t3 : decide ((m : Int) < (xl : Int)) = true := decide_eq_true (by omega)
                have t3' : decide (m < xl) = true := decide_eq_true h1
                have hml : m < x.length := by rw [← HXL.out]; exact h1
                have SL := fun W : World => str_to Tryd.underlying9 x (i := m) (by omega) W
                have EX := ext_take x m
                have E := text_eq2 (x.take m) p.path
                rw [← HNS.out] at E
                have IX4 := fun W : World => str_at Tryd.underlying9 x (i := m) (m : Int) rfl (c := x[m]) (List.getElem?_eq_getElem hml) W
                have hx4 : x[m]? = some x[m] := List.getElem?_eq_getElem hml
                obtain ⟨c, hc⟩ : ∃ c, c = x[m] := ⟨_, rfl⟩
                rw [← hc] at IX4 hx4
                have q0 : ((c.toNat : Int) == 47) = decide (c = 47) := byte_eq c 47
                have HX4 := Lib.hid hx4
                generalize strOf (x.take m) = TS at *
                generalize strOf x = XS at *
                clear hc hx4 hml
                by_cases h2 : x.take m = p.path
                · rw [decide_eq_true h2] at E
                  by_cases h3 : c = 47
                  · rw [decide_eq_true h3] at q0
                    have hpt : pb = true := by rw [HPB.out.2, decide_eq_true h1, decide_eq_true h2, HX4.out, h3]; rfl
                    have HR := Lib.hid (BADR.out hpt)
                    clear h2 h3 hpt
                    go_wp2_with (first | (refine wpList_index_at rfl _ _ _ rfl _ _ _ rfl rfl IX4 ?_) | (refine wpList_unguard rfl ?_; refine wpList_index_at rfl _ _ _ rfl _ _ _ rfl rfl IX4 ?_))
                    go_ret
                    exact ⟨_, rfl, ⟨fun h => (by cases h), fun h => absurd h HR.out⟩, HB5.out⟩
                  · rw [decide_eq_false h3] at q0
                    have hpt : pb = false := by rw [HPB.out.2, HX4.out, decide_eq_false (p := (some c = some 47)) (fun h => h3 (by injection h)), Bool.and_false]
                    have HR := Lib.hid (NEXT.out hpt)
                    clear h2 h3 hpt
                    go_wp2_with (first | (refine wpList_index_at rfl _ _ _ rfl _ _ _ rfl rfl IX4 ?_) | (refine wpList_unguard rfl ?_; refine wpList_index_at rfl _ _ _ rfl _ _ _ rfl rfl IX4 ?_))
                    go_roundw
                    case rel => exact ⟨k + 1, by go_num, by omega, HR.out, by first | rfl | trivial⟩
                    case measure => simp [intOf]; omega
                · rw [decide_eq_false h2] at E
                  have hpt : pb = false := by rw [HPB.out.2, decide_eq_false h2, Bool.and_false, Bool.false_and]
                  have HR := Lib.hid (NEXT.out hpt)
                  clear h2 hpt
                  go_wp2_with fail
                  go_roundw
                  case rel => exact ⟨k + 1, by go_num, by omega, HR.out, by first | rfl | trivial⟩
                  case measure => simp [intOf]; omega
              · have t3 : decide ((m : Int) < (xl : Int)) = false := decide_eq_false (by omega)
                have t3' : decide (m < xl) = false := decide_eq_false h1
                have hpt : pb = false := by rw [HPB.out.2, decide_eq_false h1, Bool.false_and, Bool.false_and]
                have HR := Lib.hid (NEXT.out hpt)
                clear hpt h1
                generalize strOf x = XS at *
                go_wp2_with fail
                go_roundw
                case rel => exact ⟨k + 1, by go_num, by omega, HR.out, by first | rfl | trivial⟩
                case measure => simp [intOf]; omega
            · obtain rfl : k = n := by omega
              have t2 : decide ((k : Int) < (k : Int)) = false := decide_eq_false (by omega)
              have t2' : decide (k < k) = false := decide_eq_false (by omega)
              have HNX : Hid (∀ j, j < i + 1 → stepM l j = true ∧ ∀ t, t < k → preB l[j]!.path l[t]!.path = false) := Lib.hid fun j hj => by
                rcases Nat.lt_or_ge j i with h1 | h1
                · exact HP.out j h1
                · obtain rfl : j = i := by omega
                  rw [HPP.out.1]
                  exact ⟨HST.out, HNO.out⟩
              go_wp2_with fail
              go_roundw
              case rel => exact ⟨i + 1, by go_num, by omega, HNX.out, HB5.out⟩
              case measure => simp [intOf]; omega
      cases b2
      case true =>
        by_cases hi0 : i = 0
        · have hgt : decide (0 < i) = false := decide_eq_false (by omega)
          have hgt' : decide ((0 : Int) < (i : Int)) = false := decide_eq_false (by omega)
          clear hi0
          have HST : Hid (stepM l i = true) := Lib.hid (by rw [HSO3.out]; rw [hgt]; simp)
          obtain ⟨m, hm⟩ : ∃ m, m = p.path.length := ⟨_, rfl⟩
          have hsz : NS.size = m := by rw [HNS.out, strOf_size, hm]
          have HMM := Lib.hid hm
          have hm6 : m ≤ 100000 := by rw [hm]; exact HPP.out.2.1.1
          clear hm
          go_wp2_with fail
          clear hgt hgt' E0 E1 E2 t1 t1'
          go_loopw [5] (fun s5 wr => ∃ k : Nat, s5 = .int .i64 (k : Int) ∧ k ≤ n ∧ (∀ t, t < k → preB p.path l[t]!.path = false) ∧ w5 = wr) (fun s5 _ => n - (intOf s5).toNat)
          case atStart => exact ⟨0, rfl, Nat.zero_le _, fun _ h => absurd h (Nat.not_lt_zero _), rfl⟩
          case round =>
            obtain ⟨k, rfl, hk, hno, rfl⟩ := hrel
            have HNO := Lib.hid hno
            clear hno
            by_cases hkn : k < n
            · have t2 : decide ((k : Int) < (n : Int)) = true := decide_eq_true (by omega)
              have t2' : decide (k < n) = true := decide_eq_true (by omega)
              have hkl : k < l.length := by rw [← HN.out.1]; exact hkn
              obtain ⟨b3, q3, IX3, R3, -⟩ := (HG.out.below HB5.out).at tyN (k : Int) k rfl hkl
              rw [← HN.out.1] at IX3
              obtain ⟨f3, -, -⟩ := mf_fields R3
              have hqn : l[k]!.path.length ≤ 100000 := (HN.out.2 _ (by rw [getElem!_pos l k hkl]; exact List.getElem_mem hkl)).1
              obtain ⟨x, hx⟩ : ∃ x, x = l[k]!.path := ⟨_, rfl⟩
              rw [← hx] at f3 hqn
              have HXX := Lib.hid (And.intro hx hkl)
              have hPB : preB p.path x = (decide (p.path.length < x.length) && decide (x.take p.path.length = p.path) && decide (x[p.path.length]? = some 47)) := rfl
              rw [← HMM.out] at hPB
              have hxz : (strOf x).size = x.length := strOf_size x
              obtain ⟨xl, hxl⟩ : ∃ xl, xl = x.length := ⟨_, rfl⟩
              rw [← hxl] at hxz hqn hPB
              have HXL := Lib.hid hxl
              obtain ⟨pb, hpb⟩ : ∃ pb, pb = preB p.path x := ⟨_, rfl⟩
              rw [← hpb] at hPB
              have HPB := Lib.hid (And.intro hpb hPB)
              have NEXT : Hid (pb = false → ∀ t, t < k + 1 → preB p.path l[t]!.path = false) := Lib.hid fun hf t ht => by
                rcases Nat.lt_or_ge t k with h1 | h1
                · exact HNO.out t h1
                · obtain rfl : t = k := by omega
                  rw [← HXX.out.1, ← HPB.out.1]; exact hf
              have BADR : Hid (pb = true → ¬ RightM l) := Lib.hid fun hf h => by
                have := (right_pre.1 h).2 i HPP.out.2.2 k HXX.out.2
                rw [HPP.out.1, ← HXX.out.1, ← HPB.out.1, hf] at this
                cases this
              clear hx hxl hpb hkl R3 hPB
              by_cases h1 : m < xl
              · have t3 : decide ((m : Int) < (xl : Int)) = true := decide_eq_true (by omega)
                have t3' : decide (m < xl) = true := decide_eq_true h1
                have hml : m < x.length := by rw [← HXL.out]; exact h1
                have SL := fun W : World => str_to Tryd.underlying9 x (i := m) (by omega) W
                have EX := ext_take x m
                have E := text_eq2 (x.take m) p.path
                rw [← HNS.out] at E
                have IX4 := fun W : World => str_at Tryd.underlying9 x (i := m) (m : Int) rfl (c := x[m]) (List.getElem?_eq_getElem hml) W
                have hx4 : x[m]? = some x[m] := List.getElem?_eq_getElem hml
                obtain ⟨c, hc⟩ : ∃ c, c = x[m] := ⟨_, rfl⟩
                rw [← hc] at IX4 hx4
                have q0 : ((c.toNat : Int) == 47) = decide (c = 47) := byte_eq c 47
                have HX4 := Lib.hid hx4
                generalize strOf (x.take m) = TS at *
                generalize strOf x = XS at *
                clear hc hx4 hml
                by_cases h2 : x.take m = p.path
                · rw [decide_eq_true h2] at E
                  by_cases h3 : c = 47
                  · rw [decide_eq_true h3] at q0
                    have hpt : pb = true := by rw [HPB.out.2, decide_eq_true h1, decide_eq_true h2, HX4.out, h3]; rfl
                    have HR := Lib.hid (BADR.out hpt)
                    clear h2 h3 hpt
                    go_wp2_with (first | (refine wpList_index_at rfl _ _ _ rfl _ _ _ rfl rfl IX4 ?_) | (refine wpList_unguard rfl ?_; refine wpList_index_at rfl _ _ _ rfl _ _ _ rfl rfl IX4 ?_))
                    go_ret
                    exact ⟨_, rfl, ⟨fun h => (by cases h), fun h => absurd h HR.out⟩, HB5.out⟩
                  · rw [decide_eq_false h3] at q0
                    have hpt : pb = false := by rw [HPB.out.2, HX4.out, decide_eq_false (p := (some c = some 47)) (fun h => h3 (by injection h)), Bool.and_false]
                    have HR := Lib.hid (NEXT.out hpt)
                    clear h2 h3 hpt
                    go_wp2_with (first | (refine wpList_index_at rfl _ _ _ rfl _ _ _ rfl rfl IX4 ?_) | (refine wpList_unguard rfl ?_; refine wpList_index_at rfl _ _ _ rfl _ _ _ rfl rfl IX4 ?_))
                    go_roundw
                    case rel => exact ⟨k + 1, by go_num, by omega, HR.out, by first | rfl | trivial⟩
                    case measure => simp [intOf]; omega
                · rw [decide_eq_false h2] at E
                  have hpt : pb = false := by rw [HPB.out.2, decide_eq_false h2, Bool.and_false, Bool.false_and]
                  have HR := Lib.hid (NEXT.out hpt)
                  clear h2 hpt
                  go_wp2_with fail
                  go_roundw
                  case rel => exact ⟨k + 1, by go_num, by omega, HR.out, by first | rfl | trivial⟩
                  case measure => simp [intOf]; omega
              · have t3 : decide ((m : Int) < (xl : Int)) = false := decide_eq_false (by omega)
                have t3' : decide (m < xl) = false := decide_eq_false h1
                have hpt : pb = false := by rw [HPB.out.2, decide_eq_false h1, Bool.false_and, Bool.false_and]
                have HR := Lib.hid (NEXT.out hpt)
                clear hpt h1
                generalize strOf x = XS at *
                go_wp2_with fail
                go_roundw
                case rel => exact ⟨k + 1, by go_num, by omega, HR.out, by first | rfl | trivial⟩
                case measure => simp [intOf]; omega
            · obtain rfl : k = n := by omega
              have t2 : decide ((k : Int) < (k : Int)) = false := decide_eq_false (by omega)
              have t2' : decide (k < k) = false := decide_eq_false (by omega)
              have HNX : Hid (∀ j, j < i + 1 → stepM l j = true ∧ ∀ t, t < k → preB l[j]!.path l[t]!.path = false) := Lib.hid fun j hj => by
                rcases Nat.lt_or_ge j i with h1 | h1
                · exact HP.out j h1
                · obtain rfl : j = i := by omega
                  rw [HPP.out.1]
                  exact ⟨HST.out, HNO.out⟩
              go_wp2_with fail
              go_roundw
              case rel => exact ⟨i + 1, by go_num, by omega, HNX.out, HB5.out⟩
              case measure => simp [intOf]; omega
        have hi1 : 0 < i := by omega
        obtain ⟨b2', q2, IX2, R2, -⟩ := (HG.out.below HB5.out).at tyN ((i : Int) - 1) (i - 1) (by omega) (by rw [← HN.out.1]; omega)
        rw [← HN.out.1] at IX2
        obtain ⟨f4, -, -⟩ := mf_fields R2
        have hwp : wrap64 ((i : Int) - 1) = (i : Int) - 1 := IntWalk.wrap64_in _ ⟨by omega, by omega⟩
        have hgt : decide (0 < i) = true := decide_eq_true (by omega)
        have hgt' : decide ((0 : Int) < (i : Int)) = true := decide_eq_true (by omega)
        have EG : Op.bytesLess (strOf l[i - 1]!.path).toList NS.toList = Op.bytesLess l[i - 1]!.path p.path := by rw [HNS.out, strOf_list, strOf_list]
        have HSO4 := Lib.hid HSO3.out
        clear HSO3 R2 hi0
        generalize Op.bytesLess l[i - 1]!.path p.path = cv at *
        generalize strOf l[i - 1]!.path = PS at *
        have HSO3 := Lib.hid HSO4.out
        clear HSO4
        cases cv
        · go_wp2_with fail
          go_ret
          exact ⟨_, rfl, ⟨fun h => (by cases h), fun h => absurd (h.1 i HPP.out.2.2) (by rw [HSO3.out]; rw [decide_eq_true hi1]; simp)⟩, HB5.out⟩
        · have HST : Hid (stepM l i = true) := Lib.hid (by rw [HSO3.out]; simp)
          obtain ⟨m, hm⟩ : ∃ m, m = p.path.length := ⟨_, rfl⟩
          have hsz : NS.size = m := by rw [HNS.out, strOf_size, hm]
          have HMM := Lib.hid hm
          have hm6 : m ≤ 100000 := by rw [hm]; exact HPP.out.2.1.1
          clear hm
          go_wp2_with fail
          clear hgt hgt' EG hwp IX2 f4 E0 E1 E2 t1 t1'
          go_loopw [5] (fun s5 wr => ∃ k : Nat, s5 = .int .i64 (k : Int) ∧ k ≤ n ∧ (∀ t, t < k → preB p.path l[t]!.path = false) ∧ w5 = wr) (fun s5 _ => n - (intOf s5).toNat)
          case atStart => exact ⟨0, rfl, Nat.zero_le _, fun _ h => absurd h (Nat.not_lt_zero _), rfl⟩
          case round =>
            obtain ⟨k, rfl, hk, hno, rfl⟩ := hrel
            have HNO := Lib.hid hno
            clear hno
            by_cases hkn : k < n
            · have t2 : decide ((k : Int) < (n : Int)) = true := decide_eq_true (by omega)
              have t2' : decide (k < n) = true := decide_eq_true (by omega)
              have hkl : k < l.length := by rw [← HN.out.1]; exact hkn
              obtain ⟨b3, q3, IX3, R3, -⟩ := (HG.out.below HB5.out).at tyN (k : Int) k rfl hkl
              rw [← HN.out.1] at IX3
              obtain ⟨f3, -, -⟩ := mf_fields R3
              have hqn : l[k]!.path.length ≤ 100000 := (HN.out.2 _ (by rw [getElem!_pos l k hkl]; exact List.getElem_mem hkl)).1
              obtain ⟨x, hx⟩ : ∃ x, x = l[k]!.path := ⟨_, rfl⟩
              rw [← hx] at f3 hqn
              have HXX := Lib.hid (And.intro hx hkl)
              have hPB : preB p.path x = (decide (p.path.length < x.length) && decide (x.take p.path.length = p.path) && decide (x[p.path.length]? = some 47)) := rfl
              rw [← HMM.out] at hPB
              have hxz : (strOf x).size = x.length := strOf_size x
              obtain ⟨xl, hxl⟩ : ∃ xl, xl = x.length := ⟨_, rfl⟩
              rw [← hxl] at hxz hqn hPB
              have HXL := Lib.hid hxl
              obtain ⟨pb, hpb⟩ : ∃ pb, pb = preB p.path x := ⟨_, rfl⟩
              rw [← hpb] at hPB
              have HPB := Lib.hid (And.intro hpb hPB)
              have NEXT : Hid (pb = false → ∀ t, t < k + 1 → preB p.path l[t]!.path = false) := Lib.hid fun hf t ht => by
                rcases Nat.lt_or_ge t k with h1 | h1
                · exact HNO.out t h1
                · obtain rfl : t = k := by omega
                  rw [← HXX.out.1, ← HPB.out.1]; exact hf
              have BADR : Hid (pb = true → ¬ RightM l) := Lib.hid fun hf h => by
                have := (right_pre.1 h).2 i HPP.out.2.2 k HXX.out.2
                rw [HPP.out.1, ← HXX.out.1, ← HPB.out.1, hf] at this
                cases this
              clear hx hxl hpb hkl R3 hPB
              by_cases h1 : m < xl
              · have t3 : decide ((m : Int) < (xl : Int)) = true := decide_eq_true (by omega)
                have t3' : decide (m < xl) = true := decide_eq_true h1
                have hml : m < x.length := by rw [← HXL.out]; exact h1
                have SL := fun W : World => str_to Tryd.underlying9 x (i := m) (by omega) W
                have EX := ext_take x m
                have E := text_eq2 (x.take m) p.path
                rw [← HNS.out] at E
                have IX4 := fun W : World => str_at Tryd.underlying9 x (i := m) (m : Int) rfl (c := x[m]) (List.getElem?_eq_getElem hml) W
                have hx4 : x[m]? = some x[m] := List.getElem?_eq_getElem hml
                obtain ⟨c, hc⟩ : ∃ c, c = x[m] := ⟨_, rfl⟩
                rw [← hc] at IX4 hx4
                have q0 : ((c.toNat : Int) == 47) = decide (c = 47) := byte_eq c 47
                have HX4 := Lib.hid hx4
                generalize strOf (x.take m) = TS at *
                generalize strOf x = XS at *
                clear hc hx4 hml
                by_cases h2 : x.take m = p.path
                · rw [decide_eq_true h2] at E
                  by_cases h3 : c = 47
                  · rw [decide_eq_true h3] at q0
                    have hpt : pb = true := by rw [HPB.out.2, decide_eq_true h1, decide_eq_true h2, HX4.out, h3]; rfl
                    have HR := Lib.hid (BADR.out hpt)
                    clear h2 h3 hpt
                    go_wp2_with (first | (refine wpList_index_at rfl _ _ _ rfl _ _ _ rfl rfl IX4 ?_) | (refine wpList_unguard rfl ?_; refine wpList_index_at rfl _ _ _ rfl _ _ _ rfl rfl IX4 ?_))
                    go_ret
                    exact ⟨_, rfl, ⟨fun h => (by cases h), fun h => absurd h HR.out⟩, HB5.out⟩
                  · rw [decide_eq_false h3] at q0
                    have hpt : pb = false := by rw [HPB.out.2, HX4.out, decide_eq_false (p := (some c = some 47)) (fun h => h3 (by injection h)), Bool.and_false]
                    have HR := Lib.hid (NEXT.out hpt)
                    clear h2 h3 hpt
                    go_wp2_with (first | (refine wpList_index_at rfl _ _ _ rfl _ _ _ rfl rfl IX4 ?_) | (refine wpList_unguard rfl ?_; refine wpList_index_at rfl _ _ _ rfl _ _ _ rfl rfl IX4 ?_))
                    go_roundw
                    case rel => exact ⟨k + 1, by go_num, by omega, HR.out, by first | rfl | trivial⟩
                    case measure => simp [intOf]; omega
                · rw [decide_eq_false h2] at E
                  have hpt : pb = false := by rw [HPB.out.2, decide_eq_false h2, Bool.and_false, Bool.false_and]
                  have HR := Lib.hid (NEXT.out hpt)
                  clear h2 hpt
                  go_wp2_with fail
                  go_roundw
                  case rel => exact ⟨k + 1, by go_num, by omega, HR.out, by first | rfl | trivial⟩
                  case measure => simp [intOf]; omega
              · have t3 : decide ((m : Int) < (xl : Int)) = false := decide_eq_false (by omega)
                have t3' : decide (m < xl) = false := decide_eq_false h1
                have hpt : pb = false := by rw [HPB.out.2, decide_eq_false h1, Bool.false_and, Bool.false_and]
                have HR := Lib.hid (NEXT.out hpt)
                clear hpt h1
                generalize strOf x = XS at *
                go_wp2_with fail
                go_roundw
                case rel => exact ⟨k + 1, by go_num, by omega, HR.out, by first | rfl | trivial⟩
                case measure => simp [intOf]; omega
            · obtain rfl : k = n := by omega
              have t2 : decide ((k : Int) < (k : Int)) = false := decide_eq_false (by omega)
              have t2' : decide (k < k) = false := decide_eq_false (by omega)
              have HNX : Hid (∀ j, j < i + 1 → stepM l j = true ∧ ∀ t, t < k → preB l[j]!.path l[t]!.path = false) := Lib.hid fun j hj => by
                rcases Nat.lt_or_ge j i with h1 | h1
                · exact HP.out j h1
                · obtain rfl : j = i := by omega
                  rw [HPP.out.1]
                  exact ⟨HST.out, HNO.out⟩
              go_wp2_with fail
              go_roundw
              case rel => exact ⟨i + 1, by go_num, by omega, HNX.out, HB5.out⟩
              case measure => simp [intOf]; omega
      go_wp2_with fail
      go_ret
      exact ⟨_, rfl, ⟨fun h => (by cases h), fun h => absurd (h.1 i HPP.out.2.2) (by rw [HSO3.out]; simp)⟩, HB5.out⟩
    · obtain rfl : i = n := by omega
      have t1 : decide ((i : Int) < (i : Int)) = false := decide_eq_false (by omega)
      have t1' : decide (i < i) = false := decide_eq_false (by omega)
      go_wp2_with fail
      go_ret
      exact ⟨_, rfl, ⟨fun _ => right_pre.2 ⟨fun j hj => (HP.out j (by rw [HN.out.1]; exact hj)).1, fun j hj k hk => (HP.out j (by rw [HN.out.1]; exact hj)).2 k (by rw [HN.out.1]; exact hk)⟩, fun _ => rfl⟩, HB.out⟩
end Go.Proofs.YtifoledkmjlmoaaDoor
