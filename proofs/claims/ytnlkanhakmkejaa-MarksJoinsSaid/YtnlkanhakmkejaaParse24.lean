/-
  marks.Parse: the walk.
-/
import Derived.Test.YtnlkanhakmkejaaTextPure
namespace Go.Proofs.Ytnlkanhakmkejaa
open Go.RowKit Go.Mix Go.WideMaps Go.Proofs

def strLen : Value → Nat
  | .string s => s.size
  | _ => 0

theorem ids_box {w : World} {B : Nat} {x : Id20} {t : TypeId} {fr : Nat × Nat} (h : w.heap[B]? = some (.cells (idA x) t fr)) : (Instr.loadAt 30 (.pointer (some ⟨B, 0, none⟩))).run Try.prog w = .ok (.agg (idA x)) w := by
  simp only [Instr.loadAt, Instr.sureAddr, Sem.run_bind, Sem.run_pure, Result.andThen_ok]
  exact run_loadVar_row _ _ t _ _ fr _ h Try.underlying30 rfl (by rw [show (idA x).size = 20 by simp [idA, idc_len]]; exact tyG.fi)

theorem sha_some {s : List UInt8} {x : Id20} (h : unhex s = some x) : shaX s = x ∧ shaE s = 0 := by unfold shaX shaE; rw [h]; exact ⟨rfl, rfl⟩
theorem sha_none {s : List UInt8} (h : unhex s = none) : shaE s = 4 := by unfold shaE; rw [h]; rfl
theorem strOf_list (s : List UInt8) : (strOf s).toList = s := by rw [ByteArray.toList_eq]; rfl

set_option maxRecDepth 100000 in
set_option maxHeartbeats 4000000 in
theorem parse_any {w : World} {s : List UInt8} {a : Option Addr} {cap : Nat} (hg : Sl w a cap s) (hlen : s.length ≤ 1000000) :
    Calls Try.prog 16 #[.slice a s.length cap] w fun e w' => ∃ v, e = .returned (.tuple #[v, .int .i64 (parseO s).2]) ∧ OwnP 32 w w' v (parseO s).1 := by
  obtain ⟨n, hn⟩ : ∃ n, n = s.length := ⟨_, rfl⟩
  have HN := Lib.hid hn
  have ST := hg.str
  change (convert 39 9 (.slice a s.length cap)).run Try.prog w = .ok (.string (strOf s)) w at ST
  obtain ⟨Z, hZ⟩ : ∃ Z, Z = idA id0 := ⟨_, rfl⟩
  have z : ∀ w, (zeroValue 30).run Try.prog w = .ok (.agg Z) w := fun w => by rw [hZ]; kernel_rfl
  have HZ := Lib.hid hZ
  rw [← hn] at ST ⊢
  have hF0 : Below w.heap.size w w := Below.refl _ _
  have HLEN := Lib.hid hlen
  clear hn hg hZ hlen
  go_enter Try.func16, Try.ntmps16
  go_wp2_with fail
  go_loopw [4, 5] (fun s4 s5 wr => ∃ (acc : List Pr) (s' : List UInt8), s5 = .string (strOf s') ∧ s = textL acc ++ s' ∧ OwnP 32 w wr s4 acc) (fun _ s5 _ => strLen s5)
  case atStart => exact ⟨[], s, rfl, by simp [textL], OwnP.nil hF0⟩
  case round =>
    clear hF0 ST
    obtain ⟨acc, s', rfl, hs, hrow⟩ := hrel
    have hal : 82 * acc.length + s'.length ≤ 1000000 := by
      have h1 := HLEN.out
      rw [hs, List.length_append, textL_len] at h1; exact h1
    have HS := Lib.hid hs
    have HAL := Lib.hid hal
    clear hs hal
    by_cases h0 : s' = []
    · subst h0
      have E0 : (strOf ([] : List UInt8)).toList.isEmpty = true := by rw [strOf_list]; rfl
      have hss : s = textL acc := by have := HS.out; simpa using this
      obtain ⟨p1, p2⟩ := parseO_text hss
      obtain ⟨ac, cc, rfl, hpa⟩ := hrow.ps
      have C12 := right_any hpa (by have := HAL.out; omega)
      have HP := Lib.hid (And.intro p1 p2)
      have HROW := Lib.hid hrow
      clear hss p1 p2 hrow hpa
      generalize (strOf ([] : List UInt8)) = T0 at *
      obtain ⟨k, hk⟩ : ∃ k, k = acc.length := ⟨_, rfl⟩
      have HK := Lib.hid hk
      rw [← hk] at C12 ⊢
      clear hk
      go_wp2_with fail
      refine C12.mono ?_
      rintro e w3 ⟨r, rfl, hr, hb3⟩
      have HR := Lib.hid (And.intro hr hb3)
      clear C12 hr hb3
      cases r
      · have hno : ¬ Rt acc := fun h => by have := HR.out.1.2 h; cases this
        have hpo := HP.out.2 hno
        have HPO := Lib.hid hpo
        clear hpo hno
        go_wp2_with fail
        go_ret2
        exact ⟨_, by rw [HPO.out]; rfl, by rw [HPO.out]; exact OwnP.nil (HROW.out.frame.trans (HR.out.2.mono HROW.out.frame.size))⟩
      · have hpo := HP.out.1 (HR.out.1.1 rfl)
        have HPO := Lib.hid hpo
        clear hpo
        go_wp2_with fail
        go_ret2
        exact ⟨_, by rw [HPO.out]; rfl, by rw [HPO.out, HK.out]; exact HROW.out.later HR.out.2⟩
    · have E0 : (strOf s').toList.isEmpty = false := by
        rw [strOf_list]; cases s' with
        | nil => exact absurd rfl h0
        | cons => rfl
      have C4 := cut_any s' 10 (by have := HAL.out; omega) wr
      have HPL := Lib.hid (prog_line s')
      have hln := (cutB_len s' 10).1
      rw [cutV_eq] at C4
      have HLS := Lib.hid (show (strOf s').size = s'.length from strOf_size s')
      obtain ⟨one, h1⟩ : ∃ x, x = (cutB s' 10).1 := ⟨_, rfl⟩
      obtain ⟨rest, h2⟩ : ∃ x, x = (cutB s' 10).2.1 := ⟨_, rfl⟩
      obtain ⟨ok, h3⟩ : ∃ x, x = (cutB s' 10).2.2 := ⟨_, rfl⟩
      rw [← h1] at hln
      rw [← h1, ← h2, ← h3] at C4
      have HC1 := Lib.hid (And.intro h1 (And.intro h2 h3))
      have HONE := Lib.hid hln
      have HROW := Lib.hid hrow
      clear h1 h2 h3 hln hrow
      obtain ⟨S', hS'⟩ : ∃ S, S = strOf s' := ⟨_, rfl⟩
      have HS' := Lib.hid hS'
      rw [← hS'] at C4 E0 ⊢
      clear hS'
      go_wp2_with fail
      refine C4.mono ?_
      rintro e w4 ⟨rfl, hb4⟩
      have C5 := cut_any one 32 (by have := HAL.out; have := HONE.out; omega) w4
      rw [cutV_eq] at C5
      obtain ⟨g, h1⟩ : ∃ x, x = (cutB one 32).1 := ⟨_, rfl⟩
      obtain ⟨h, h2⟩ : ∃ x, x = (cutB one 32).2.1 := ⟨_, rfl⟩
      obtain ⟨is, h3⟩ : ∃ x, x = (cutB one 32).2.2 := ⟨_, rfl⟩
      rw [← h1, ← h2, ← h3] at C5
      have HC2 := Lib.hid (And.intro h1 (And.intro h2 h3))
      have HB4 : Hid (Below wr.heap.size wr w4) := Lib.hid hb4
      clear h1 h2 h3 C4 hb4
      obtain ⟨ONE, hO⟩ : ∃ S, S = strOf one := ⟨_, rfl⟩
      obtain ⟨RST, hR⟩ : ∃ S, S = strOf rest := ⟨_, rfl⟩
      have HRST := Lib.hid hR
      rw [← hO] at C5 ⊢
      rw [← hR]
      clear hO hR
      go_wp2_with fail
      refine C5.mono ?_
      rintro e w5 ⟨rfl, hb5⟩
      have C6 := shaParse_any (strOf g) w5
      change Calls _ _ _ _ (fun e w' => e = .returned (.tuple #[.agg (idA (shaX g)), .int .i64 (shaE g)]) ∧ Below w5.heap.size w5 w') at C6
      obtain ⟨xg, hxg⟩ : ∃ x, x = shaX g := ⟨_, rfl⟩
      obtain ⟨eg, heg⟩ : ∃ x, x = shaE g := ⟨_, rfl⟩
      rw [← hxg, ← heg] at C6
      have HG1 := Lib.hid (And.intro hxg heg)
      have HB5 := Lib.hid (HB4.out.trans (hb5.mono HB4.out.size))
      clear C5 hb5 hxg heg
      obtain ⟨GS, hGS⟩ : ∃ S, S = strOf g := ⟨_, rfl⟩
      obtain ⟨HSt, hHS⟩ : ∃ S, S = strOf h := ⟨_, rfl⟩
      have HHS := Lib.hid hHS
      rw [← hGS] at C6 ⊢
      rw [← hHS]
      clear hGS hHS
      go_wp2_with fail
      refine C6.mono ?_
      rintro e w6 ⟨rfl, hb6⟩
      have HB6 := Lib.hid (HB5.out.trans (hb6.mono HB5.out.size))
      clear C6 hb6
      have hz7 : (w6.alloc (.cells Z 30)).heap[w6.heap.size]? = some (.cells Z 30 (0, 0)) := heap_alloc_last _ _ _ rfl
      have hg7 : Below w6.heap.size w6 ((w6.alloc (.cells Z 30)).setRow w6.heap.size (idA xg)) := below_setRow ((Below.refl _ _).alloc (Nat.le_refl _) _) (Nat.le_refl _) _
      have hk7 : ((w6.alloc (.cells Z 30)).setRow w6.heap.size (idA xg)).heap[w6.heap.size]? = some (.cells (idA xg) 30 (0, 0)) := setRow_heap _ _ _ _ _ _ hz7
      have zs : Z.size = (idA xg).size := by rw [HZ.out]; simp [idA, idc_len]
      have zi : (Try.prog.info? 30).map (·.size) = some (idA xg).size := by rw [show (idA xg).size = 20 by simp [idA, idc_len]]; exact tyG.fi
      have z1 : (idA xg).all (·.oneCell') = true := all_oneCell_toArray (bcells_one _)
      have HG7 := Lib.hid (And.intro hg7 hk7)
      clear hg7 hk7
      go_upto_region 7 with (refine wpList_store_row rfl 30 _ _ rfl w6.heap.size (idA xg) rfl rfl 30 Z hz7 zi zs z1 ?_)
      have hg7 := HG7.out.1
      have hk7 := HG7.out.2
      clear HG7 zs zi z1 hz7
      generalize (w6.alloc (.cells Z 30)).setRow w6.heap.size (idA xg) = w7 at *
      have C7 := shaParse_any (strOf h) w7
      change Calls _ _ _ _ (fun e w' => e = .returned (.tuple #[.agg (idA (shaX h)), .int .i64 (shaE h)]) ∧ Below w7.heap.size w7 w') at C7
      obtain ⟨xh, hxh⟩ : ∃ x, x = shaX h := ⟨_, rfl⟩
      obtain ⟨eh, heh⟩ : ∃ x, x = shaE h := ⟨_, rfl⟩
      rw [← hxh, ← heh] at C7
      rw [← HHS.out] at C7
      have HG2 := Lib.hid (And.intro hxh heh)
      have HB7 := Lib.hid (And.intro (HB6.out.trans (hg7.mono HB6.out.size)) hk7)
      clear hxh heh hg7 hk7
      go_wp2_with fail
      refine C7.mono ?_
      rintro e w8 ⟨rfl, hb8⟩
      have HB8 := Lib.hid (And.intro (HB7.out.1.trans (hb8.mono HB7.out.1.size)) (block_below HB7.out.2 hb8))
      clear C7 hb8
      have hz8 : (w8.alloc (.cells Z 30)).heap[w8.heap.size]? = some (.cells Z 30 (0, 0)) := heap_alloc_last _ _ _ rfl
      have hg8 : Below w8.heap.size w8 ((w8.alloc (.cells Z 30)).setRow w8.heap.size (idA xh)) := below_setRow ((Below.refl _ _).alloc (Nat.le_refl _) _) (Nat.le_refl _) _
      have hk8 : ((w8.alloc (.cells Z 30)).setRow w8.heap.size (idA xh)).heap[w8.heap.size]? = some (.cells (idA xh) 30 (0, 0)) := setRow_heap _ _ _ _ _ _ hz8
      have zs : Z.size = (idA xh).size := by rw [HZ.out]; simp [idA, idc_len]
      have zi : (Try.prog.info? 30).map (·.size) = some (idA xh).size := by rw [show (idA xh).size = 20 by simp [idA, idc_len]]; exact tyG.fi
      have z1 : (idA xh).all (·.oneCell') = true := all_oneCell_toArray (bcells_one _)
      have HG8 := Lib.hid (And.intro hg8 hk8)
      clear hg8 hk8
      go_upto_region 8 with (refine wpList_store_row rfl 30 _ _ rfl w8.heap.size (idA xh) rfl rfl 30 Z hz8 zi zs z1 ?_)
      have hg8 := HG8.out.1
      have hk8 := HG8.out.2
      clear HG8 zs zi z1 hz8
      generalize (w8.alloc (.cells Z 30)).setRow w8.heap.size (idA xh) = w9 at *
      have HB9 := Lib.hid (And.intro (HB8.out.1.trans (hg8.mono HB8.out.1.size)) (And.intro (block_below HB8.out.2 hg8) hk8))
      have HR := Lib.hid (HROW.out.later HB9.out.1)
      clear hg8 hk8
      obtain ⟨X12, hX12⟩ : ∃ X, X = w6.heap.size := ⟨_, rfl⟩
      obtain ⟨X14, hX14⟩ : ∃ X, X = w8.heap.size := ⟨_, rfl⟩
      have HXX := Lib.hid (And.intro hX12 hX14)
      rw [← hX12, ← hX14]
      clear hX12 hX14
      rcases HPL.out with ⟨p, r, hsp, k1, k2, k3, k4, k5⟩ | ⟨hno, hbad⟩
      · rw [← HC1.out.2.2] at k1
        rw [← HC1.out.1, ← HC2.out.2.2] at k2
        rw [← HC1.out.1, ← HC2.out.1] at k3
        rw [← HC1.out.1, ← HC2.out.2.1] at k4
        rw [← HC1.out.2.1] at k5
        obtain ⟨m1, m2⟩ := sha_some k3
        obtain ⟨m3, m4⟩ := sha_some k4
        rw [← HG1.out.1] at m1
        rw [← HG1.out.2] at m2
        rw [← HG2.out.1] at m3
        rw [← HG2.out.2] at m4
        subst m1 m2 m3 m4 k1 k2 k5
        have HSP := Lib.hid hsp
        have L12 := ids_box HB9.out.2.1
        have L14 := ids_box HB9.out.2.2
        rw [← HXX.out.1] at L12
        rw [← HXX.out.2] at L14
        have B := fun W : World => tyG.build p.1 p.2 W
        have B1 := tyG.one p w9
        have hrow9 := HR.out.later ((Below.refl _ _).alloc (Nat.le_refl _) (.cells (encA p) 32))
        have hp9 := PsAt.one w9 32 p
        clear k3 k4 hsp
        go_wp2_with (first | (refine wpList_load_at rfl _ _ rfl _ _ rfl L12 ?_) | (refine wpList_load_at rfl _ _ rfl _ _ rfl L14 ?_) | (refine wpList_build_at rfl _ _ rfl [(0, .agg (idA p.1)), (1, .agg (idA p.2))] _ rfl (B _) ?_) | (refine wpList_buildSlice_at rfl _ _ _ rfl [(0, .agg (encA p))] _ rfl B1 ?_) | (refine wpList_append_p tyG rfl (.tmp 56) (.tmp 60) rfl _ acc rfl hrow9 (some ⟨w9.heap.size, 0, none⟩) 1 1 [p] rfl rfl hp9 (by have := HAL.out; simp; omega) ?_; intro v11 w11 hrow11 hgr11 hgn11; clear hgr11 hgn11 hrow9 hp9 B B1 L12 L14))
        go_roundw
        case rel => exact ⟨acc ++ [p], rest, HRST.out ▸ rfl, by rw [HS.out, HSP.out, textL_app]; simp [textL], hrow11⟩
        case measure =>
          have h1 := congrArg List.length HSP.out
          rw [List.length_append, lineL_len] at h1
          show strLen (.string _) < strLen (.string _)
          simp only [strLen, HRST.out, HS'.out, strOf_size]
          omega
      · cases ok
        · go_wp2_with fail
          go_ret2
          have hpo := parseO_bad HS.out h0 (hno)
          exact ⟨_, by rw [hpo]; rfl, by rw [hpo]; exact OwnP.nil HR.out.frame⟩
        · cases is
          · go_wp2_with fail
            go_ret2
            have hpo := parseO_bad HS.out h0 (hno)
            exact ⟨_, by rw [hpo]; rfl, by rw [hpo]; exact OwnP.nil HR.out.frame⟩
          · rw [← HC1.out.2.2, ← HC1.out.1, ← HC2.out.1, ← HC2.out.2.1, ← HC2.out.2.2] at hbad
            have hbad2 : unhex g = none ∨ unhex h = none := by
              rcases hbad with h | h | h | h
              · cases h
              · cases h
              · exact .inl h
              · exact .inr h
            have HBAD := Lib.hid hbad2
            clear hbad hbad2
            by_cases he : eg = 0
            · subst he
              have he2 : eh = 4 := by
                rcases HBAD.out with h | h
                · have := sha_none h; rw [← HG1.out.2] at this; cases this
                · rw [HG2.out.2]; exact sha_none h
              subst he2
              go_wp2_with fail
              go_ret2
              have hpo := parseO_bad HS.out h0 (hno)
              exact ⟨_, by rw [hpo]; rfl, by rw [hpo]; exact OwnP.nil HR.out.frame⟩
            · have he2 : eg = 4 := by
                rcases unhex_cases g with ⟨x, -, hx⟩ | ⟨-, hx⟩
                · exact absurd (by rw [HG1.out.2]; exact (sha_some hx).2) he
                · rw [HG1.out.2]; exact sha_none hx
              subst he2
              clear he
              go_wp2_with fail
              go_ret2
              have hpo := parseO_bad HS.out h0 (hno)
              exact ⟨_, by rw [hpo]; rfl, by rw [hpo]; exact OwnP.nil HR.out.frame⟩
end Go.Proofs.Ytnlkanhakmkejaa
