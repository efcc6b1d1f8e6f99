/-
  sha.Parse: the walk.
-/
import Derived.Test.YtifoledkmjlmoaaDoorUnhex
import Derived.Test.YtifoledkmjlmoaaDoorMixG
import Derived.Test.YtifoledkmjlmoaaDoorStrOps
import Derived.Test.YtifoledkmjlmoaaDoorRes
namespace Go.Proofs.YtifoledkmjlmoaaDoor
open Go.RowKit Go.Mix Go.WideMaps Go.Proofs

noncomputable def shaX (s : List UInt8) : Id20 := (unhex s).getD id0
noncomputable def shaE (s : List UInt8) : Int := if (unhex s).isSome then 0 else 4

theorem bcells_set (l : List UInt8) (k : Nat) (c : UInt8) : bcells (l.set k c) = (bcells l).set k (.int .u8 (c.toNat : Int)) := by
  unfold bcells; rw [List.map_set]

/-- An array of bytes in a block of its own. -/
def ArrB (w : World) (b : Nat) (t : TypeId) (l : List UInt8) : Prop := w.heap[b]? = some (.cells (bcells l).toArray t (0, 0))
theorem ArrB.cell {w : World} {b k : Nat} {t : TypeId} {l : List UInt8} (h : ArrB w b t l) (hk : k < l.length) : w.cell? ⟨b, k, none⟩ = some (.int .u8 (l[k].toNat : Int)) := by
  rw [Lib.cell_of_heap h]; simp [bcells, hk]
theorem ArrB.free {w : World} {b k : Nat} {t : TypeId} {l : List UInt8} (h : ArrB w b t l) : w.frozen? ⟨b, k, none⟩ = false := Lib.frozen_of_heap h k
theorem ArrB.set {w : World} {b : Nat} {t : TypeId} {l : List UInt8} (h : ArrB w b t l) (k : Nat) (c : UInt8) : ArrB (w.setCell ⟨b, k, none⟩ (.int .u8 (c.toNat : Int))) b t (l.set k c) := by
  unfold ArrB at *
  simp [World.setCell, Array.getElem?_modify, h, bcells_set]

theorem str_index {k : TypeId} (hu : Tryd.prog.underlying k = some .string) (s : ByteArray) {i : Nat} (hi : i < s.data.toList.length) (W : World) : (Instr.index k (.string s) (.int .i64 (i : Int))).run Tryd.prog W = .ok (.int .u8 ((s.data.toList[i]).toNat : Int)) W := by
  have hs : s.size = s.data.toList.length := Array.length_toList.symm
  have h : 0 ≤ (i : Int) ∧ (i : Int) < (s.size : Int) := by omega
  rw [run_index_string _ _ _ _ _ hu, dif_pos h]
  simp only [Int.toNat_natCast]
  rfl

theorem or_digit : ∀ v d : Fin 16, bits .or .u8 ((v.val : Int) * 16) (d.val : Int) = ((UInt8.ofNat (16 * v.val + d.val)).toNat : Int) := by decide +kernel
theorem unhex_len {l : List UInt8} (h : l.length ≠ 40) : unhex l = none := unhex_none fun x hx => h (by rw [hx, hexL_len, x.2])
theorem unhex_dig {l : List UInt8} {c : UInt8} (hc : c ∈ l) (h : ∀ d, d < 16 → hexd d ≠ c) : unhex l = none := unhex_none fun x hx => by
  rw [hx] at hc
  obtain ⟨d, hd, e⟩ := mem_hexL hc
  exact h d hd e.symm
theorem unhex_acc {l : List UInt8} {ds : List Nat} (h : ∀ d ∈ ds, d < 16) (hl : ds.length = 40) (e : l = ds.map hexd) : unhex l = some ⟨accN ds, accN_len ds⟩ := unhex_some (by rw [e, ← hexL_acc h hl])

set_option maxRecDepth 100000 in
set_option maxHeartbeats 2000000 in
theorem shaParse_any (s : ByteArray) (w : World) : Calls Tryd.prog 28 #[.string s] w fun e w' => e = .returned (.tuple #[.agg (idA (shaX s.data.toList)), .int .i64 (shaE s.data.toList)]) ∧ Below w.heap.size w w' := by
  obtain ⟨l, hl⟩ : ∃ l, l = s.data.toList := ⟨_, rfl⟩
  have hsz : s.size = l.length := by rw [hl]; exact Array.length_toList.symm
  have SX : ∀ (i : Nat) (hi : i < l.length) (W : World), (Instr.index 9 (.string s) (.int .i64 (i : Int))).run Tryd.prog W = .ok (.int .u8 ((l[i]).toNat : Int)) W := fun i hi W => by subst hl; exact str_index Tryd.underlying9 s hi W
  have HSX := Lib.hid SX
  rw [← hl]
  obtain ⟨Z, hZ⟩ : ∃ Z, Z = idA id0 := ⟨_, rfl⟩
  have z : ∀ w, (zeroValue 44).run Tryd.prog w = .ok (.agg Z) w := fun w => by rw [hZ]; kernel_rfl
  have bz : ∀ w, (Instr.build 44 ([] : List (Nat × Value)).toArray).run Tryd.prog w = .ok (.agg Z) w := fun w => by rw [hZ]; kernel_rfl
  have HZ := Lib.hid hZ
  have zi : (Tryd.prog.info? 44).map (·.size) = some Z.size := by rw [hZ, show (idA id0).size = 20 by simp [idA, idc_len]]; kernel_rfl
  have z1 : Z.all (·.oneCell') = true := by rw [hZ]; exact all_oneCell_toArray (bcells_one _)
  have HZI := Lib.hid (And.intro zi z1)
  have HL := Lib.hid (And.intro hl hsz)
  clear SX hZ zi z1 hl hsz
  go_enter Tryd.func28, Tryd.ntmps28
  by_cases h40 : l.length = 40
  · have hk0 : ((w.alloc (.cells Z 44)).alloc (.cells Z 44)).heap[w.heap.size]? = some (.cells Z 44 (0, 0)) := by
      rw [Below.block ((Below.refl _ _).alloc (Nat.le_refl _) _) _ (by simp)]; exact heap_alloc_last _ _ _ rfl
    have hk1 : ArrB ((w.alloc (.cells Z 44)).alloc (.cells Z 44)) (w.heap.size + 1) 44 (accN []) := by
      unfold ArrB; rw [accN_nil]
      have := heap_alloc_last (w.alloc (.cells Z 44)) (.cells Z 44) (w.heap.size + 1) (by simp)
      rw [this, HZ.out]; rfl
    have hb0 : Below w.heap.size w ((w.alloc (.cells Z 44)).alloc (.cells Z 44)) := ((Below.refl _ _).alloc (Nat.le_refl _) _).alloc (by simp) _
    have hs40 : s.size = 40 := by rw [HL.out.2, h40]
    go_wp2_with fail
    go_loopw [13] (fun s13 wr => ∃ (i : Nat) (ds : List Nat), s13 = .int .i64 (i : Int) ∧ i ≤ 40 ∧ ds.length = i ∧ (∀ d ∈ ds, d < 16) ∧ l.take i = ds.map hexd ∧ ArrB wr (w.heap.size + 1) 44 (accN ds) ∧ wr.heap[w.heap.size]? = some (.cells Z 44 (0, 0)) ∧ Below w.heap.size w wr) (fun s13 _ => 40 - (intOf s13).toNat)
    case atStart => exact ⟨0, [], rfl, by omega, rfl, by simp, by simp, hk1, hk0, hb0⟩
    case round =>
      clear hk0 hk1 hb0
      obtain ⟨i, ds, rfl, hi, hdl, hd16, htk, harr, hres, hb⟩ := hrel
      have HD := Lib.hid (And.intro hdl (And.intro hd16 htk))
      have HA := Lib.hid harr
      have HR := Lib.hid hres
      have HB := Lib.hid hb
      clear hdl hd16 htk harr hres hb
      by_cases hi40 : i < 40
      · have t1 : decide ((i : Int) < 40) = true := decide_eq_true (by omega)
        have t1' : decide (i < 40) = true := decide_eq_true (by omega)
        have hil : i < l.length := by omega
        have IX := HSX.out i hil
        have HC := Lib.hid (dig_cases l[i])
        have HT := Lib.hid (take_at hil)
        have HM := Lib.hid (List.getElem_mem hil)
        have C1 := Tryd.strings_IndexByte ⟨#[48, 49, 50, 51, 52, 53, 54, 55, 56, 57, 97, 98, 99, 100, 101, 102]⟩ (l[i].toNat : Int)
        simp only [Int.toNat_natCast, Nat.toUInt8_eq, UInt8.ofNat_toNat] at C1
        change ∀ w, Calls _ _ _ w fun e w' => e = .returned (.int .i64 (Lib.indexByte digL l[i])) ∧ w' = w at C1
        generalize l[i] = c at *
        go_wp2_with (refine wpList_index_at rfl _ _ _ rfl _ _ _ rfl rfl (IX _) ?_)
        refine (C1 _).mono ?_
        rintro e w2 ⟨rfl, rfl⟩
        rcases HC.out with ⟨hn, hno⟩ | ⟨d, hd, hn, hc⟩
        · rw [hn]
          have hno2 : unhex l = none := unhex_dig (by have := HM.out; exact this) hno
          have hX : shaX l = id0 ∧ shaE l = 4 := by unfold shaX shaE; rw [hno2]; exact ⟨rfl, rfl⟩
          have HX := Lib.hid hX
          have hres := HR.out
          have zi := HZI.out.1
          have z1 := HZI.out.2
          clear hno hno2 hX C1 IX hn
          go_wp2_with (first | (refine wpList_build_at rfl _ _ rfl [] _ rfl (bz _) ?_) | (refine wpList_store_row rfl 44 _ _ rfl w.heap.size Z rfl rfl 44 Z hres zi rfl z1 ?_))
          refine bodyPost_ret (results_cell_tmp rfl _ _ w.heap.size 44 Z (0, 0) _ rfl (setRow_heap _ _ _ _ _ _ hres) Tryd.underlying44 rfl zi) rfl ?_
          rw [HX.out.1, HX.out.2, ← HZ.out]
          exact ⟨rfl, below_setRow HB.out (Nat.le_refl _) _⟩
        · rw [hn]
          have t2 : decide ((d : Int) < 0) = false := decide_eq_false (by omega)
          have hv := nibs_half HD.out.2.1
          rw [HD.out.1] at hv
          have cell := HA.out.cell (k := i / 2) (by rw [accN_len]; omega)
          have fr := HA.out.free (k := i / 2)
          rw [accN_get, UInt8.toNat_ofNat', Nat.mod_eq_of_lt (by omega)] at cell
          have HV := Lib.hid (show accN (ds ++ [d]) = (accN ds).set (i / 2) (UInt8.ofNat (16 * nibs ds (i / 2) + d)) by rw [accN_step, HD.out.1])
          generalize nibs ds (i / 2) = v at *
          go_wp2_with fail
          have ho := or_digit ⟨v, hv⟩ ⟨d, hd⟩
          simp only [] at ho
          rw [ho]
          have harr2 := HA.out.set (i / 2) (UInt8.ofNat (16 * v + d))
          rw [← HV.out] at harr2
          refine ⟨⟨i + 1, ds ++ [d], by go_num, by omega, by rw [List.length_append, HD.out.1]; rfl, ?_, ?_, harr2, ?_, HB.out.setCell (by simp) _⟩, ?_⟩
          · intro x hx
            rcases List.mem_append.1 hx with h | h
            · exact HD.out.2.1 x h
            · rw [List.mem_singleton] at h; omega
          · rw [HT.out, HD.out.2.2, List.map_append, ← hc]; rfl
          · rw [Below.heap_setCell _ _ _ _ (by simp)]; exact HR.out
          · simp [intOf]; omega
      · obtain rfl : i = 40 := by omega
        have t1 : decide (((40 : Nat) : Int) < 40) = false := rfl
        have hlt : l = ds.map hexd := by rw [← HD.out.2.2, List.take_of_length_le (by omega)]
        have hX := unhex_acc HD.out.2.1 HD.out.1 hlt
        have hX2 : shaX l = ⟨accN ds, accN_len ds⟩ ∧ shaE l = 0 := by unfold shaX shaE; rw [hX]; exact ⟨rfl, rfl⟩
        have HX := Lib.hid hX2
        obtain ⟨V, hV⟩ : ∃ V, V = idA ⟨accN ds, accN_len ds⟩ := ⟨_, rfl⟩
        have hres := HR.out
        have harr : wr.heap[w.heap.size + 1]? = some (.cells V 44 (0, 0)) := by rw [hV]; exact HA.out
        have vi : (Tryd.prog.info? 44).map (·.size) = some V.size := by rw [hV, show (idA ⟨accN ds, accN_len ds⟩).size = 20 by simp [idA, idc_len]]; kernel_rfl
        have v1 : V.all (·.oneCell') = true := by rw [hV]; exact all_oneCell_toArray (bcells_one _)
        have zs : Z.size = V.size := by rw [hV, HZ.out]; simp [idA, idc_len]
        have L : (Instr.loadAt 44 (.pointer (some ⟨w.heap.size + 1, 0, none⟩))).run Tryd.prog wr = .ok (.agg V) wr := by
          simp only [Instr.loadAt, Instr.sureAddr, Sem.run_bind, Sem.run_pure, Result.andThen_ok]
          exact run_loadVar_row _ _ 44 _ _ (0, 0) _ harr Tryd.underlying44 rfl vi
        have HVV := Lib.hid hV
        clear hX hX2 hV hlt
        go_wp2_with (first | (refine wpList_load_at rfl _ _ rfl _ _ rfl L ?_) | (refine wpList_store_row rfl 44 _ _ rfl w.heap.size V rfl rfl 44 Z hres vi zs v1 ?_))
        refine bodyPost_ret (results_cell_tmp rfl _ _ w.heap.size 44 V (0, 0) _ rfl (setRow_heap _ _ _ _ _ _ hres) Tryd.underlying44 rfl vi) rfl ?_
        rw [HX.out.1, HX.out.2, ← HVV.out]
        exact ⟨rfl, below_setRow HB.out (Nat.le_refl _) _⟩
  · have hk0 : ((w.alloc (.cells Z 44)).alloc (.cells Z 44)).heap[w.heap.size]? = some (.cells Z 44 (0, 0)) := by
      rw [Below.block ((Below.refl _ _).alloc (Nat.le_refl _) _) _ (by simp)]; exact heap_alloc_last _ _ _ rfl
    have hb0 : Below w.heap.size w ((w.alloc (.cells Z 44)).alloc (.cells Z 44)) := ((Below.refl _ _).alloc (Nat.le_refl _) _).alloc (by simp) _
    have tt : ((s.size : Int) != 40) = true := by rw [bne_iff_ne]; have := HL.out.2; omega
    have tt' : (s.size != 40) = true := by rw [bne_iff_ne]; have := HL.out.2; omega
    have hno2 := unhex_len h40
    have hX : shaX l = id0 ∧ shaE l = 4 := by unfold shaX shaE; rw [hno2]; exact ⟨rfl, rfl⟩
    have HX := Lib.hid hX
    have zi := HZI.out.1
    have z1 := HZI.out.2
    have HB0 := Lib.hid hb0
    clear hno2 hX hb0
    go_wp2_with (first | (refine wpList_build_at rfl _ _ rfl [] _ rfl (bz _) ?_) | (refine wpList_store_row rfl 44 _ _ rfl w.heap.size Z rfl rfl 44 Z hk0 zi rfl z1 ?_))
    refine bodyPost_ret (results_cell_tmp rfl _ _ w.heap.size 44 Z (0, 0) _ rfl (setRow_heap _ _ _ _ _ _ hk0) Tryd.underlying44 rfl zi) rfl ?_
    rw [HX.out.1, HX.out.2, ← HZ.out]
    exact ⟨rfl, below_setRow HB0.out (Nat.le_refl _) _⟩
end Go.Proofs.YtifoledkmjlmoaaDoor
