/-
  The law FilesRoom, walked.
-/
import Derived.Test.YthjjdcfkdmhmlaaDoorFew7
import Derived.Test.YthjjdcfkdmhmlaaDoorRoomPure
namespace Go.Proofs.YthjjdcfkdmhmlaaDoor
open Go.RowKit Go.Mix Go.WideMaps Go.Maps Go.WideShapes Go.ChangeShapes

theorem text_cell3 {w : World} {b q : Nat} {x : Bytes} (h : w.rangeAt b q (encS x)) : w.cell? ⟨b, q, none⟩ = some (.string (strOf x)) := h 0 _ rfl

set_option maxRecDepth 100000 in
set_option maxHeartbeats 4000000 in
theorem filesRoom_walk (qu : Int) (a : Option Addr) (len cap : Nat) (l : List ActA) (w : World)
    (hqu : (Lit.int .i64 qu).wf = true) (hl : l.length = len) (h : RsAt encA 6 w a cap l) (hx : ∀ p ∈ l, ActIs w p) :
    Calls Tryd.prog 8 #[.int .i64 qu, .slice a len cap] w fun e w' => e = .returned (.bool true) ∧ Below w.heap.size w w' := by
  have CF := few_any h hx
  have hqb := bounds_i64 hqu
  rw [hl] at CF
  clear h hx hl hqu
  go_enter Tryd.func8, Tryd.ntmps8
  go_wp2_with fail
  refine CF.mono ?_
  clear CF
  rintro e w1 ⟨v1, L, X, rfl, hL, hL60, hall⟩
  obtain ⟨aL, cL, rfl, hrs, -⟩ := hL.rs tyA
  obtain ⟨n, hn⟩ : ∃ n, n = L.length := ⟨_, rfl⟩
  rw [← hn]
  have CN := new_live qu w1
  have H1 := Lib.hid (And.intro hL.frame (And.intro hrs (And.intro hall (And.intro hn hqb))))
  have hn6 : n ≤ 60 := by omega
  clear hL hrs hall hL60 hn hqb
  go_wp2_with fail
  refine CN.mono ?_
  clear CN
  rintro e w2 ⟨p, own2, rfl, l2⟩
  have L2 := Lib.hid l2
  clear l2
  go_wp2_with fail
  go_loopw [6, 7] (fun s6 s7 wr => ∃ (i : Nat) (cr : Bool) (own' : Owns) (S : StP), s6 = .bool cr ∧ s7 = .int .i64 (i : Int) ∧ i ≤ n ∧ Live w1.heap.size w1 own' wr p S ∧ OkS (301 * i) S ∧ RoomP qu cr S) (fun _ s7 _ => n - (intOf s7).toNat)
  case atStart => exact ⟨0, false, own2, _, rfl, rfl, Nat.zero_le _, L2.out, OkS.new qu H1.out.2.2.2.2, RoomP.new qu⟩
  case round =>
    obtain ⟨i, cr, own3, S, rfl, rfl, hi, l3, ok3, rm3⟩ := hrel
    have H3 := Lib.hid (And.intro l3 (And.intro ok3 rm3))
    by_cases hin : i < n
    · have t1 : decide ((i : Int) < (n : Int)) = true := decide_eq_true (by omega)
      have t1' : decide (i < n) = true := decide_eq_true hin
      have hil : i < L.length := by rw [← H1.out.2.2.2.1]; exact hin
      obtain ⟨b, q, IX, R, LD⟩ := H1.out.2.1.at tyA (i : Int) i rfl hil
      rw [← H1.out.2.2.2.1] at IX
      have LD0 := LD wr l3.frame
      have hiX : i < X.length := by rw [← H1.out.2.2.1.length]; exact hil
      have hof := H1.out.2.2.1.at hil hiX
      rw [getElem!_pos L i hil] at R LD0
      generalize L[i] = ac at *
      generalize X[i] = x at *
      have hof1 := hof.below (H1.out.1.trans (l3.frame.mono H1.out.1.size))
      have C4 := act_any l3.at_ ok3 (by omega) hof1 (fun hne y hy => l3.not_old (Nat.lt_of_lt_of_le (hof.bs.blk hne y hy) H1.out.1.size)) (fun hne y hy => l3.not_old (Nat.lt_of_lt_of_le (rs_blk hof.ks hne y hy) H1.out.1.size))
      have ok4 := act_ok rm3 ok3 x hof.bl hof.wf.2
      have rm4 := rm3.act ok3 x
      obtain ⟨k0, -⟩ := act_cells R
      rw [hof.kind] at k0
      obtain ⟨⟨S5, m5⟩, hr⟩ : ∃ r, r = actS S x := ⟨_, rfl⟩
      rw [← hr] at C4 ok4 rm4
      change OkS _ S5 at ok4
      change RoomP _ _ S5 at rm4
      obtain ⟨kd, hkd⟩ : ∃ kd, kd = x.kind := ⟨_, rfl⟩
      rw [← hkd] at k0 rm4
      have hk7 : kd < 7 := by rw [hkd]; exact hof.few
      have H4 := Lib.hid (And.intro (ok4.mono (show 301 * i + 301 ≤ 301 * (i + 1) by omega)) (And.intro rm4 (lt_of_cell k0)))
      have HK0 := Lib.hid k0
      clear LD hil hiX hof hof1 R k0 ok4 rm4 hr hkd l3 ok3 rm3
      go_wp2_with (first | (refine wpList_load_at rfl _ _ rfl _ _ rfl LD0 ?_))
      refine C4.mono ?_
      clear C4 LD0
      rintro e w5 hleft
      obtain ⟨rfl, own5, l5⟩ := H3.out.1.left hleft
      have k5 : w5.cell? ⟨b, q, none⟩ = some (.int .i64 (kd : Int)) := (l5.frame.cell (p := ⟨b, q, none⟩) (lt_of_cell HK0.out)).trans HK0.out
      have H5 := Lib.hid l5
      clear hleft l5
      obtain ⟨B, hB⟩ : ∃ B, B = decide (kd = 6) := ⟨_, rfl⟩
      have tB : ((kd : Int) == 6) = B := by rw [hB, Bool.eq_iff_iff, beq_iff_eq, decide_eq_true_eq]; omega
      have HB := Lib.hid hB
      clear hB
      go_upto_region 8 with (fail)
      go_cut [6] from 29 to 37 (fun s6 wx => s6 = .bool (cr || B) ∧ w5 = wx)
      case first =>
        cases cr
        case false =>
          go_wp2_with fail
          go_meet
          exact ⟨rfl, rfl⟩
        case true =>
          go_wp2_with fail
          go_meet
          exact ⟨rfl, rfl⟩
      case rest =>
        obtain ⟨rfl, rfl⟩ := hcut
        obtain ⟨cr2, hcr2⟩ : ∃ cr2, cr2 = (cr || B) := ⟨_, rfl⟩
        have ok5 := H4.out.1
        have rm5 := H4.out.2.1
        rw [← HB.out, ← hcr2] at rm5
        rw [← hcr2]
        obtain ⟨KS, hKS⟩ : ∃ KS, KS = keysF S5.files := ⟨_, rfl⟩
        obtain ⟨m, hm⟩ : ∃ m, m = KS.length := ⟨_, rfl⟩
        have hml : m = S5.files.length := by rw [hm, hKS, keys_len]
        have C6 := list_at H5.out.at_ ok5 []
        rw [listS_all] at C6
        change Calls _ _ _ _ (fun e w' => ∃ a c, e = .returned (.slice a (keysF S5.files).length c) ∧ RsAt encS 1 w' a c (keysF S5.files) ∧ Below _ _ w') at C6
        rw [← hKS, ← hm] at C6
        have H6 := Lib.hid (And.intro ok5 (And.intro rm5 (And.intro hKS (And.intro hm hml))))
        have hm4 : m ≤ 10000 := by rw [hml]; exact ok5.few
        clear k5 tB IX hcr2 ok5 rm5 hKS hm hml
        go_wp2_with fail
        refine C6.mono ?_
        clear C6
        rintro e w6 ⟨a6, c6, rfl, hr6, hb6⟩
        have H7 := Lib.hid (And.intro (H5.out.below hb6) hr6)
        clear hr6 hb6
        go_wp2_with fail
        go_loopw [8, 10] (fun s8 s10 wr => ∃ (j su : Nat), s8 = .int .i64 (su : Int) ∧ s10 = .int .i64 (j : Int) ∧ j ≤ m ∧ su = sumF (S5.files.take j) ∧ Below w6.heap.size w6 wr) (fun _ s10 _ => m - (intOf s10).toNat)
        case atStart => exact ⟨0, 0, rfl, rfl, Nat.zero_le _, rfl, Below.refl _ _⟩
        case round =>
          obtain ⟨j, su, rfl, rfl, hj, hsu, hbj⟩ := hrel
          by_cases hjm : j < m
          · have t2 : decide ((j : Int) < (m : Int)) = true := decide_eq_true (by omega)
            have t2' : decide (j < m) = true := decide_eq_true hjm
            have hjk : j < KS.length := by rw [← H6.out.2.2.2.1]; exact hjm
            have hjf : j < S5.files.length := by rw [← H6.out.2.2.2.2]; exact hjm
            obtain ⟨o1, o2, IX, R, -⟩ := (H7.out.2.below hbj).at1 tyS (j : Int) j rfl hjk
            rw [← H6.out.2.2.2.1] at IX
            have cc := text_cell3 R
            obtain ⟨kf1, kf2⟩ := key_file H6.out.1.sorted hjf
            rw [← H6.out.2.2.1] at kf1 kf2
            have okf := H6.out.1.ok _ (List.getElem_mem hjf)
            have hst := sumF_take hjf
            have hup := sumF_upto S5.files (j + 1)
            have hle := sumF_le (301 * (i + 1)) S5.files (fun p hp => (H6.out.1.ok p hp).2.2.1)
            have l7 := H7.out.1.below hbj
            have C8 := read_at l7.at_ H6.out.1 (by omega) KS[j]! (by rw [kf1]; have := okf.2.1; omega)
            obtain ⟨nf, hnf⟩ : ∃ nf, nf = S5.files[j].2.now.length := ⟨_, rfl⟩
            have hsmall : su + nf ≤ 200000000 := by
              rw [hsu, hnf]
              have h1 : 301 * (i + 1) * S5.files.length ≤ 18060 * 10000 := Nat.mul_le_mul (by omega) (by rw [← H6.out.2.2.2.2]; exact hm4)
              omega
            have hw7 : IntKind.i64.wrap ((su : Int) + (nf : Int)) = (su : Int) + (nf : Int) := IntWalk.i64_in _ (by omega)
            have H8 := Lib.hid (And.intro l7 (And.intro kf2 (And.intro (show su + nf = sumF (S5.files.take (j + 1)) by rw [hst, hsu, hnf]) hnf)))
            have HBJ := Lib.hid hbj
            generalize KS[j]! = key at *
            clear R kf1 kf2 okf hst hup hle l7 hnf hsmall hjk hsu hbj
            go_wp2_with fail
            refine C8.mono ?_
            clear C8
            rintro e w8 ⟨hsome, -, hb8⟩
            obtain ⟨v8, rfl, hbuf8⟩ := hsome _ H8.out.2.1
            obtain ⟨a8, c8, rfl, -⟩ := hbuf8.1.sl
            rw [← H8.out.2.2.2]
            have H9 := Lib.hid (HBJ.out.trans (hb8.mono HBJ.out.size))
            clear hsome hb8 hbuf8 cc IX
            go_wp2_with fail
            go_roundw
            case rel => exact ⟨j + 1, su + nf, by go_num, by go_num, by omega, H8.out.2.2.1, H9.out⟩
            case measure => simp [intOf]; omega
          · obtain rfl : j = m := by omega
            have t2 : decide ((j : Int) < (j : Int)) = false := decide_eq_false (by omega)
            have t2' : decide (j < j) = false := decide_eq_false (by omega)
            have hus : S5.used = (su : Int) := by rw [H6.out.1.used, hsu, List.take_of_length_le (by rw [← H6.out.2.2.2.2]; exact Nat.le_refl _)]
            have l7 := H7.out.1.below hbj
            have C8 := used_at l7.at_
            rw [hus] at C8
            have hrm := H6.out.2.1.room
            rw [hus] at hrm
            obtain ⟨mx, hmx⟩ : ∃ mx, mx = max qu 0 := ⟨_, rfl⟩
            have MX := max_run qu 0 mx hmx
            rw [← hmx] at hrm
            have H8 := Lib.hid l7
            clear hsu hbj hus l7 hmx hjm
            go_wp2_with fail
            refine C8.mono ?_
            clear C8
            rintro e w8 ⟨rfl, rfl⟩
            cases cr2
            case true =>
              clear hrm
              go_wp2_with fail
              go_roundw
              case rel => exact ⟨i + 1, true, own5, S5, rfl, by go_num, by omega, H8.out, H6.out.1, H6.out.2.1⟩
              case measure => simp [intOf]; omega
            case false =>
              have t3 : decide (mx < (su : Int)) = false := decide_eq_false (by have := hrm rfl; omega)
              clear hrm
              go_wp2_with fail
              go_roundw
              case rel => exact ⟨i + 1, false, own5, S5, rfl, by go_num, by omega, H8.out, H6.out.1, H6.out.2.1⟩
              case measure => simp [intOf]; omega
    · obtain rfl : i = n := by omega
      have t1 : decide ((i : Int) < (i : Int)) = false := decide_eq_false (by omega)
      have t1' : decide (i < i) = false := decide_eq_false (by omega)
      clear l3 ok3 rm3
      go_wp2_with fail
      refine (known_any _).mono ?_
      rintro e w8 ⟨rfl, hw8⟩
      have L8 := Lib.hid (H1.out.1.trans ((H3.out.1.below hw8).frame.mono H1.out.1.size))
      clear hw8
      go_wp2_with fail
      go_ret
      exact ⟨rfl, L8.out⟩
end Go.Proofs.YthjjdcfkdmhmlaaDoor
