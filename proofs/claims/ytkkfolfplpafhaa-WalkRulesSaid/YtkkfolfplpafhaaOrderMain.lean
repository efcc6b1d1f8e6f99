/-
  The walk of Order: what stands behind the kids.
-/
import Derived.Test.YtkkfolfplpafhaaWAt
import Derived.Test.YtkkfolfplpafhaaHeap2
namespace Go.Proofs.Ytkkfolfplpafhaa
open Go.RowKit Go.Mix

/-- Does a text of code begin with region k? -/
def startsAt (k : Nat) : Code → Bool
  | .region n _ _ => n == k
  | .seq a _ => startsAt k a
  | _ => false
/-- The rest of a text of code from region k on. -/
def tailAt (k : Nat) : Code → Option Code
  | .seq a b => if startsAt k a then some (.seq a b) else match tailAt k a with
    | some c => some c
    | none => tailAt k b
  | .loop c => tailAt k c
  | .block _ c => tailAt k c
  | .scope c => tailAt k c
  | .cond _ a b => match tailAt k a with
    | some c => some c
    | none => tailAt k b
  | _ => none
noncomputable def orderRest : Code := ((Try.f9.body.bind (tailAt 18)).getD .skip)

/-- What Order hands back. -/
def OrderEnds (g : List (List Int)) (w0 : World) (e : Ending) (w' : World) : Prop := match orderG g with
  | some l => ∃ v, e = .returned (.tuple #[v, .int .i64 0]) ∧ Row (· < w0.heap.size) 3 w0 w' v (icells l)
  | none => e = .returned (.tuple #[.slice none 0 0, .int .i64 4]) ∧ Below w0.heap.size w0 w'

def lenV : Value → Nat
  | .slice _ n _ => n
  | _ => 0
theorem nodup_count : ∀ h : List Nat, (∀ a, h.count a ≤ 1) → h.Nodup := by
  intro h
  induction h with
  | nil => intro _; exact List.nodup_nil
  | cons x t ih =>
    intro hc
    rw [List.nodup_cons]
    refine ⟨fun hm => ?_, ih fun a => ?_⟩
    · have h1 := hc x
      rw [List.count_cons_self] at h1
      have := List.count_pos_iff.2 hm
      omega
    · have h1 := hc a
      rw [List.count_cons] at h1
      omega
theorem heap_len {n : Nat} {h : List Nat} {p : Nat → Prop} [DecidablePred p] (hc : ∀ i, h.count i = if i < n ∧ p i then 1 else 0) : h.length ≤ n := by
  refine out_le (nodup_count h fun a => ?_) fun o ho => ?_
  · rw [hc a]; split <;> omega
  · have h1 := List.count_pos_iff.2 ho
    rw [hc o] at h1
    by_cases hp : o < n ∧ p o
    · exact hp.1
    · rw [if_neg hp] at h1; omega

section
variable {w0 w : World} {P KB n GL : Nat} {vh : Value} {h L : List Nat} {kr : List (Value × List Nat)} {g : List (List Int)} {a : Option Addr} {cap : Nat}

set_option maxRecDepth 100000 in
set_option maxHeartbeats 2000000 in
theorem order_main (W : WAt w0 w P KB n vh (.slice (some ⟨GL, 0, none⟩) n n) (.slice none 0 0) h L [] kr) (v : PInv g [] h L (kr.map (·.2))) (hn : n = g.length) (hn1 : n ≤ 1000) (hgb : ∀ k, (g.getD k []).length ≤ 1000) (hkb : ∀ p, p < n → (kr.getD p (undef, [])).2.length ≤ 1000000) (u1 u2 u3 u7 u8 u9 u10 u11 u12 u13 u14 u15 u16 u17 u18 u19 u20 u21 u22 u23 u24 u25 u26 u27 u28 u29 u30 u31 u32 u33 u34 u35 u36 u37 u38 u39 u40 u41 u42 u43 u44 u45 u46 u47 u48 u49 u50 u51 u52 u53 u54 u55 u56 u57 u58 u59 u60 u61 u62 u63 u64 u65 u66 u67 u68 u69 u70 u71 u72 u73 u74 u75 u76 u77 u78 u79 u80 u81 u82 u83 u84 u85 u86 u87 u88 u89 u90 u91 u92 u93 u94 u95 u96 u97 u98 u99 u100 u101 u102 : Value) :
    Code.wp Try.prog orderRest (bodyPost Try.prog Try.f9 (OrderEnds g w0)) ⟨#[.slice a n cap, u1, u2, u3, .slice (some ⟨GL, 0, none⟩) n n, .slice (some ⟨KB, 0, none⟩) n n, .pointer (some ⟨P, 0, none⟩), u7, u8, u9, u10, u11, u12, u13, u14, u15, u16, u17, u18, u19, u20, u21, u22, u23, u24, u25, u26, u27, u28, u29, u30, u31, u32, u33, u34, u35, u36, u37, u38, u39, u40, u41, u42, u43, u44, u45, u46, u47, u48, u49, u50, u51, u52, u53, u54, u55, u56, u57, u58, u59, u60, u61, u62, u63, u64, u65, u66, u67, u68, u69, u70, u71, u72, u73, u74, u75, u76, u77, u78, u79, u80, u81, u82, u83, u84, u85, u86, u87, u88, u89, u90, u91, u92, u93, u94, u95, u96, u97, u98, u99, u100, u101, u102], []⟩ w := by
  conv => arg 2; whnf
  have HV := Lib.hid v
  have HNG := Lib.hid hn
  have HKN := Lib.hid W.kn
  clear v hn
  go_wp2_with fail
  go_loopw [11] (fun s11 wr => ∃ (f : Nat) (out h L : List Nat) (vh : Value), WAt w0 wr P KB n vh (.slice (some ⟨GL, 0, none⟩) n n) s11 h L out kr ∧ PInv g out h L (kr.map (·.2)) ∧ orderF g f out = orderG g ∧ n ≤ f + out.length) (fun s11 _ => n - lenV s11)
  case atStart => exact ⟨n, [], h, L, vh, W, HV.out, by rw [HNG.out]; rfl, by simp⟩
  case round =>
    clear W HV
    obtain ⟨f, out, h, L, vh, W, v, hf, hnf⟩ := hrel
    obtain ⟨ah, ch, hvh, -, -, -, -⟩ := (W.rows.at 0 (by simp)).slice
    have hvh2 : vh = .slice ah h.length ch := by rw [icells_length] at hvh; exact hvh
    subst hvh2
    obtain ⟨ao, co, hvo, -, -, -, -⟩ := W.aloneO.slice
    rw [icells_length] at hvo
    subst hvo
    have hPc := (two_cells W.blk).1
    have hl := heap_len v.hc
    rw [← HNG.out] at hl
    have HF := Lib.hid hf
    have HV := Lib.hid v
    clear hvh hf v
    by_cases h0 : 0 < h.length
    · have t1 : decide ((0 : Int) < (h.length : Int)) = true := decide_eq_true (by omega)
      have t1' : decide (0 < h.length) = true := decide_eq_true h0
      have C1 := take_any W.heapAt HV.out.ok (by omega) h0
      obtain ⟨hx1, hx2, hx3, hx4⟩ := HV.out.next h0
      cases f with
      | zero => rw [← HNG.out] at hx4; omega
      | succ f =>
      have hF2 := order_step HV.out h0 f
      rw [HF.out] at hF2
      have HF2 := Lib.hid hF2
      have HX := Lib.hid (And.intro hx2 (And.intro hx3 hx4))
      obtain ⟨x, hx⟩ : ∃ x, x = h.getD 0 0 := ⟨_, rfl⟩
      rw [← hx] at C1 HF2 HX
      clear hx1 hx2 hx3 hx4 hF2 hx
      have hol : out.length < n := by have := HX.out.2.2; rw [← HNG.out] at this; exact this
      clear t1
      have t1 : decide ((0 : Int) < (h.length : Int)) = true := decide_eq_true (by omega)
      go_wp2_with fail
      refine C1.mono ?_
      rintro e w1 ⟨rfl, h', H', hok', hlen', hcnt'⟩
      obtain ⟨vh', W1⟩ := W.heap_upd H'
      have hK0 := Lib.hid (KInv.start HV.out HX.out.2.1 HX.out.1 hok' hcnt')
      have hrowO := W1.aloneO
      have HOL := Lib.hid (icells_length out)
      clear C1 W H' hok' hcnt' hPc t1 t1'
      go_upto_region 22 with (at_builtin; refine wpList_append_fresh elemInt rfl (.tmp 70) (.tmp 72) rfl _ _ rfl hrowO _ [.int .i64 (x : Int)] rfl 1 1 rfl rfl (by simp [Value.oneCell']) (by rw [HOL.out]; simp only [List.length_singleton]; omega) (by rw [HOL.out]; simp only [List.length_singleton]; omega) ?_; intro v5 w5 hb5 hgr5)
      have hicx : icells out ++ [Value.int .i64 (x : Int)] = icells (out ++ [x]) := by simp [icells]
      rw [hicx] at hb5
      have W2 := W1.updO hb5
      clear hicx hb5 hgr5 W1 hrowO
      have hxn : x < n := by rw [HNG.out]; exact HX.out.1
      obtain ⟨IKx, ICx, -⟩ := W2.kidsAt (x : Int) x rfl hxn
      obtain ⟨kx, hkx⟩ : ∃ kx, kx = (kr.getD x (undef, [])).2 := ⟨_, rfl⟩
      have hkx2 : (kr.map (·.2)).getD x [] = kx := by
        rw [hkx, List.getD_eq_getElem?_getD, List.getD_eq_getElem?_getD, List.getElem?_map, List.getElem?_eq_getElem (by rw [HKN.out]; exact hxn)]; rfl
      have HKX := Lib.hid hkx2
      have hrowx := (W2.rows.at (3 + x) (by simp; have := HKN.out; omega))
      have er : ((vh', h') :: (Value.slice (some ⟨GL, 0, none⟩) n n, L) :: (v5, out ++ [x]) :: kr).getD (3 + x) (undef, []) = kr.getD x (undef, []) := by
        rw [show 3 + x = x + 1 + 1 + 1 by omega]; rfl
      rw [er, ← hkx] at hrowx
      obtain ⟨ak, ck, hvk, -, hck, -, -⟩ := hrowx.slice
      rw [icells_length] at hvk hck
      rw [hvk] at ICx
      have HKV := Lib.hid hvk
      have hkl : kx.length ≤ 1000000 := by rw [hkx]; exact hkb x hxn
      clear hrowx er hkx hkx2 hvk
      go_wp2_with fail
      have hK02 := hK0.out
      rw [HKX.out] at hK02
      have HK02 := Lib.hid hK02
      clear hK0 hK02 ICx IKx
      go_loopw [79] (fun s79 wx => ∃ (t : Nat) (h2 L2 : List Nat) (vh2 : Value), s79 = .int .i64 (t : Int) ∧ t ≤ kx.length ∧ WAt w0 wx P KB n vh2 (.slice (some ⟨GL, 0, none⟩) n n) v5 h2 L2 (out ++ [x]) kr ∧ KInv g out h2 L2 kx x t) (fun s79 _ => kx.length - (intOf s79).toNat)
      case atStart => exact ⟨0, h', L, vh', rfl, Nat.zero_le _, W2, HK02.out⟩
      case round =>
        clear W2 HK02
        obtain ⟨t, h2, L2, vh2, rfl, ht, W, u⟩ := hrel
        by_cases htk : t < kx.length
        · have t1 : decide ((t : Int) < (kx.length : Int)) = true := decide_eq_true (by omega)
          have t1' : decide (t < kx.length) = true := decide_eq_true htk
          have hk0 := KInv.pos HV.out HX.out.1 HX.out.2.1 (by rw [HKX.out]; exact u) (by rw [HKX.out]; exact htk)
          rw [HKX.out] at hk0
          have hrowx := (W.rows.at (3 + x) (by simp; have := HKN.out; omega))
          have er : ((vh2, h2) :: (Value.slice (some ⟨GL, 0, none⟩) n n, L2) :: (v5, out ++ [x]) :: kr).getD (3 + x) (undef, []) = kr.getD x (undef, []) := by
            rw [show 3 + x = x + 1 + 1 + 1 by omega]; rfl
          rw [er, HKV.out] at hrowx
          have hkxe : (kr.getD x (undef, [])).2 = kx := by
            have := HKX.out
            rw [List.getD_eq_getElem?_getD, List.getElem?_map, List.getElem?_eq_getElem (by rw [HKN.out]; exact hxn)] at this
            rw [List.getD_eq_getElem?_getD, List.getElem?_eq_getElem (by rw [HKN.out]; exact hxn)]
            exact this
          rw [hkxe] at hrowx
          obtain ⟨ak', ck', ek, hck', -, -, -⟩ := hrowx.slice
          injection ek with ek1 ek2 ek3
          subst ek1
          obtain ⟨IKt, ICt⟩ := ints_at hck' ck hkl (t : Int) t rfl htk
          have hh2 := heap_len u.hc
          rw [← HNG.out] at hh2
          have HST := Lib.hid (fun h' L' hL hh => (KInv.step (h' := h') (L' := L') HV.out HX.out.1 HX.out.2.1 (by rw [HKX.out]; exact u) (by rw [HKX.out]; exact htk) hL hh).1)
          rw [HKX.out] at HST
          have hLl := u.ll
          rw [← HNG.out] at hLl
          have HOK := Lib.hid u.ok
          clear hrowx er hkxe ek2 ek3 hck' u
          generalize kx.getD t 0 = k at *
          obtain ⟨hk1, hk2, hk3⟩ := hk0
          rw [← HNG.out] at hk2
          have hgk := hgb k
          obtain ⟨IKk, ICk, fk, -⟩ := W.aloneL.idx (by omega) (k : Int) k rfl (by omega)
          have ck0 := ICk ⟨wr, Grow.refl _⟩
          obtain ⟨m, hm⟩ : ∃ m, m = L2.getD k 0 - 1 := ⟨_, rfl⟩
          have v1 : IntKind.i64.wrap ((L2.getD k 0 : Nat) - 1 : Int) = (m : Int) := by rw [IntWalk.i64_in _ (by omega)]; omega
          have hr9 := (W.aloneL.stored k (.int .i64 (m : Int))).1
          rw [icells_set] at hr9
          have W9 := W.updL hr9
          obtain ⟨IKm, ICm, -, -⟩ := W9.aloneL.idx (by rw [List.length_set]; omega) (k : Int) k rfl (by rw [List.length_set]; omega)
          have cm0 := ICm ⟨_, Grow.refl _⟩
          rw [getD_set (by omega), if_pos rfl] at cm0
          rw [← hm] at HST
          simp only at ck0 cm0
          have HW9 := Lib.hid W9
          clear ICk ICm hr9 hm hk1 hk3 hgk W9 IKm
          generalize L2.getD k 0 = lk at *
          go_upto_region 26 with (fail)
          clear ck0 fk v1 ICt IKt
          generalize wr.setCell ⟨GL, k, none⟩ (.int .i64 (m : Int)) = w9 at *
          by_cases hm0 : m = 0
          · have u1 : ((m : Int) == 0) = true := by rw [beq_iff_eq]; omega
            have C2 := put_any HW9.out.heapAt HOK.out (by omega) k (k : Int) rfl
            clear W
            go_wp2_with fail
            refine C2.mono ?_
            rintro e w10 ⟨rfl, h3, H3, hok3, hl3, hc3⟩
            obtain ⟨vh3, W10⟩ := HW9.out.heap_upd H3
            have HU := Lib.hid (HST.out h3 _ rfl (by rw [if_pos hm0]; exact ⟨hok3, hc3⟩))
            clear C2 H3 hok3 hc3 HST
            go_wp2_with fail
            go_roundw
            case rel => exact ⟨t + 1, h3, _, vh3, by go_num, by omega, W10, HU.out⟩
            case measure => simp [intOf]; omega
          · have u1 : ((m : Int) == 0) = false := by rw [beq_eq_false_iff_ne]; omega
            have HU := Lib.hid (HST.out h2 _ rfl (by rw [if_neg hm0]))
            clear W HST
            go_wp2_with fail
            go_roundw
            case rel => exact ⟨t + 1, h2, _, vh2, by go_num, by omega, HW9.out, HU.out⟩
            case measure => simp [intOf]; omega
        · obtain rfl : t = kx.length := by omega
          have t1 : decide ((kx.length : Int) < (kx.length : Int)) = false := decide_eq_false (by omega)
          have t1' : decide (kx.length < kx.length) = false := decide_eq_false (by omega)
          have hP2 := KInv.done HV.out HX.out.1 HX.out.2.1 (by rw [HKX.out]; exact u)
          have HP2 := Lib.hid hP2
          clear u hP2
          go_wp2_with fail
          go_roundw
          case rel => exact ⟨f, out ++ [x], h2, L2, vh2, W, HP2.out, HF2.out.symm, by rw [List.length_append, List.length_singleton]; omega⟩
          case measure =>
            obtain ⟨a9, c9, e9, -, -, -, -⟩ := W.aloneO.slice
            rw [icells_length] at e9
            rw [e9]
            show n - (out ++ [x]).length < n - out.length
            rw [List.length_append, List.length_singleton]
            omega
    · have h00 : h.length = 0 := by omega
      have t1 : decide ((0 : Int) < (h.length : Int)) = false := decide_eq_false (by omega)
      have t1' : decide (0 < h.length) = false := decide_eq_false h0
      have hE := order_end HV.out h00 f
      rw [HF.out, ← HNG.out] at hE
      have HE := Lib.hid hE
      have hfr := W.frame
      have hrO : Row (· < w0.heap.size) 3 w0 wr (.slice ao out.length co) (icells out) := W.rows.at 2 (by simp)
      clear hE
      by_cases hlt : out.length < n
      · have u1 : decide ((out.length : Int) < (n : Int)) = true := decide_eq_true (by omega)
        have u2 : decide (out.length < n) = true := decide_eq_true hlt
        have HE2 := Lib.hid (HE.out.trans (if_neg (by omega)))
        clear hrO
        go_wp2_with fail
        go_ret2
        unfold OrderEnds
        rw [HE2.out]
        exact ⟨rfl, hfr⟩
      · have u1 : decide ((out.length : Int) < (n : Int)) = false := decide_eq_false (by omega)
        have u2 : decide (out.length < n) = false := decide_eq_false hlt
        have HE2 := Lib.hid (HE.out.trans (if_pos (by omega)))
        go_wp2_with fail
        go_ret2
        unfold OrderEnds
        rw [HE2.out]
        exact ⟨_, rfl, hrO⟩
end
end Go.Proofs.Ytkkfolfplpafhaa
