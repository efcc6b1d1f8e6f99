/-
  RefsNames: the walk.
-/
import Derived.Test.YtponfkfeflnilaaGreatDoorMaKnown
import Derived.Test.YtponfkfeflnilaaGreatDoorMaNamR
namespace Go.Proofs.YtponfkfeflnilaaGreatDoor
open Go.RowKit Go.Mix Go.WideMaps Go.Maps

set_option maxRecDepth 100000 in
set_option maxHeartbeats 4000000 in
theorem refsNames_walk (a0 : ByteArray) (w : World) (hs : a0.size ≤ 9223372036854775807) (hm : MaxIs w) :
    Calls Tryz.prog 3 #[.string a0] w fun e w' => e = .returned (.bool true) ∧ Below w.heap.size w w' := by
  obtain ⟨b, hb⟩ : ∃ b, b = a0.data.toList := ⟨_, rfl⟩
  have ha : a0 = strOf b := by rw [hb]; simp [strOf]
  subst ha
  obtain ⟨k, hk⟩ : ∃ k, k = min b.length 300 := ⟨_, rfl⟩
  obtain ⟨nb, hnb⟩ : ∃ n, n = b.length := ⟨_, rfl⟩
  have hbs : (strOf b).size = nb := by rw [strOf_size, hnb]
  have MR := min_runI (nb : Int) 300 (k : Int) (by omega)
  have SL := fun W => str_to Tryz.underlying9 b (i := k) (by omega) W
  have CK := known_any w hm
  obtain ⟨c, hc⟩ : ∃ c, c = b.take k := ⟨_, rfl⟩
  have hcl : c.length ≤ 300 := by rw [hc, List.length_take]; omega
  rw [← hc] at SL
  have A1 := fun W => str_add refsT c (by decide) (by omega) W
  rw [show strOf refsT = ⟨#[114, 101, 102, 115, 47]⟩ from rfl] at A1
  have D1 := fun W => refRightN_any c (by omega) W
  have D2 := fun W => refRightN_any (refsT ++ c) (by rw [List.length_append]; show 5 + _ ≤ _; omega) W
  have P1 := fun W hW => rightN_any c (by omega) W hW
  have P2 := fun W hW => rightN_any (refsT ++ c) (by rw [List.length_append]; show 5 + _ ≤ _; omega) W hW
  have HM := Lib.hid hm
  obtain ⟨T, hT⟩ : ∃ T, T = strOf (refsT ++ c) := ⟨_, rfl⟩
  obtain ⟨C, hC⟩ : ∃ C, C = strOf c := ⟨_, rfl⟩
  rw [← hT] at A1 D2 P2
  rw [← hC] at SL D1 P1 A1
  generalize rightN c = r1 at *
  generalize rightN (refsT ++ c) = r2 at *
  clear hc hcl hk hb hm hT hC hs hnb
  generalize strOf b = S at *
  have e1 : (r1 == r1) = true := by simp
  have e2 : (r2 == r2) = true := by simp
  go_enter Tryz.func3, Tryz.ntmps3
  go_wp2_with (first | (refine wpList_slice_at rfl _ _ _ _ _ rfl _ _ _ _ _ rfl rfl rfl rfl (SL _) ?_))
  refine CK.mono ?_
  clear CK
  rintro e w1 ⟨rfl, hb1⟩
  have Q1 := P1 w1 (HM.out.below hb1)
  have H1 := Lib.hid hb1
  clear hb1 P1
  go_wp2_with fail
  refine Q1.mono ?_
  clear Q1
  rintro e w2 ⟨rfl, hb2⟩
  have H2 := Lib.hid (Grow.trans H1.out hb2)
  have Q1 := D1 w2
  clear hb2 D1 H1
  go_wp2_with fail
  refine Q1.mono ?_
  clear Q1
  rintro e w3 ⟨rfl, rfl⟩
  have Q1 := P2 w3 (HM.out.below H2.out)
  clear P2
  go_wp2_with fail
  refine Q1.mono ?_
  clear Q1
  rintro e w4 ⟨rfl, hb4⟩
  have H4 := Lib.hid (Grow.trans H2.out hb4)
  have Q1 := D2 w4
  clear hb4 D2 H2
  go_wp2_with fail
  refine Q1.mono ?_
  clear Q1
  rintro e w5 ⟨rfl, rfl⟩
  go_wp2_with fail
  go_ret
  exact ⟨rfl, H4.out⟩
end Go.Proofs.YtponfkfeflnilaaGreatDoor
