/-
  (*Store).Write: the walk.
-/
import Derived.Test.YtnlkanhakmkejaaDoorStDo
import Derived.Tactics
import Derived.Tactics2
import Derived.Deep.DeepCutAuto
namespace Go.Proofs.YtnlkanhakmkejaaDoor
open Go.RowKit Go.Mix Go.WideMaps Go.Maps

abbrev Any : Option Own → Prop := fun o => o ≠ none
/-- What a call on a store leaves. -/
def Left (own : Owns) (w : World) (p : Nat) (r : StP × Int) (e : Ending) (w' : World) : Prop := e = .returned (.int .i64 r.2) ∧ ∃ own', StoreAt own' w' p r.1 ∧ Turn Any own own' w w'

theorem slO_buf (own : Owns) {w w' : World} {v : Value} {l : Bytes} (h : OwnB w' w.heap.size v l) : SlO (own.new w.heap.size w'.heap.size fun _ => .bytes) w' v l := by
  obtain ⟨a, c, e, hs⟩ := h.sl
  exact ⟨a, c, e, hs, fun x hx => Owns.new_at _ _ (ownB_block h (by rw [e, hx]; rfl)).1 (ownB_block h (by rw [e, hx]; rfl)).2⟩
section
variable {own own' : Owns} {w w' : World} {p M : Nat} {G : Bytes → Nat} {S : StP}
theorem StoreIn.newBytes (h : StoreIn own w p M G S) (g : Below w.heap.size w w') (t : Nat → Own) : StoreIn (own.new w.heap.size w'.heap.size t) w' p M G S ∧ Turn (fun _ => False) own (own.new w.heap.size w'.heap.size t) w w' :=
  ⟨h.turn (T := fun _ => False) (Turn.made own g t) id id fun _ _ _ => id, Turn.made own g t⟩
theorem turn_any {T : Option Own → Prop} (h : Turn T own own' w w') (hT : ∀ o, T o → o ≠ none) : Turn Any own own' w w' := h.mono hT
theorem turn_root (h : Turn (fun o => o = some .root) own own' w w') : Turn Any own own' w w' := h.mono fun o e => by rw [e]; simp
theorem turn_file {b : Nat} (h : Turn (fun o => o = some (.file b)) own own' w w') : Turn Any own own' w w' := h.mono fun o e => by rw [e]; simp
theorem turn_no (h : Turn (fun _ => False) own own' w w') : Turn Any own own' w w' := h.mono fun _ => False.elim
theorem Left.same (h : StoreIn own w p M G S) (g : Below w.heap.size w w') (n : Int) : Left own w p (S, n) (.returned (.int .i64 n)) w' := ⟨rfl, own, ⟨M, G, h.below g⟩, Turn.below g h.lt⟩
/-- A place in the map for a file. -/
theorem StoreIn.putMap (h : StoreIn own w p M G S) (hs : Sorted S.files) (hfew : S.files.length ≤ 1000000) {x : Bytes} (hx : x.length ≤ 1000000) {b : Nat} {f : FileP} (hf : FileAt own w b f) (hb : ∀ y, y ≠ x → (getF S.files y).isSome = true → G y ≠ b) :
    ∃ w', (Instr.mapUpdate 42 (.map (some M)) (.string (strOf x)) (ptr b)).run Tryd.prog w = .ok () w' ∧ StoreIn own w' p M (updG G x b) { S with files := putF S.files x f } ∧ Turn (fun o => o = some .root) own own w w' := by
  obtain ⟨w', hrun, hm, hg, hsz⟩ := h.map.put hs hfew x hx f b
  obtain ⟨h1, h2⟩ := h.mapped hm hg hsz (fun y f' hy => by
    rw [getF_put] at hy
    unfold updG
    by_cases e : y = x
    · rw [if_pos e] at hy ⊢
      injection hy with hy
      subst hy; exact hf
    · rw [if_neg e] at hy ⊢
      exact h.file y f' hy) (fun y z hy hz hyz => by
    rw [getF_put] at hy hz
    unfold updG at hyz
    by_cases ey : y = x
    · by_cases ez : z = x
      · rw [ey, ez]
      · rw [if_pos ey, if_neg ez] at hyz
        rw [if_neg ez] at hz
        exact absurd hyz.symm (hb z ez hz)
    · by_cases ez : z = x
      · rw [if_neg ey, if_pos ez] at hyz
        rw [if_neg ey] at hy
        exact absurd hyz (hb y ey hy)
      · rw [if_neg ey, if_neg ez] at hyz
        rw [if_neg ey] at hy
        rw [if_neg ez] at hz
        exact h.inj y z hy hz hyz)
  exact ⟨w', hrun, h1, h2⟩
theorem Sl.foreign {T : Option Own → Prop} {a : Option Addr} {c : Nat} {l : Bytes} (h : Sl w a c l) (g : Turn T own own' w w') (hT : ¬ T none) (ho : ∀ x, a = some x → own x.block = none) : Sl w' a c l := by
  by_cases hl : l = []
  · subst hl; exact ⟨.inl rfl, h.le, h.max, h.non⟩
  · refine sl_same h fun x hx => (g.frame.keep x.block ⟨?_, by rw [ho x hx]; exact hT⟩).2
    rcases h.bs with h | ⟨b, off, e, hc⟩
    · exact absurd h hl
    · rw [e] at hx
      injection hx with hx
      subst hx
      exact lt_of_cell (hc 0 (List.length_pos_iff.2 hl))
/-- A new file's block. -/
theorem file_new (own : Owns) (w : World) : FileAt (own.new w.heap.size (w.alloc (.cells #[.slice none 0 0, .slice none 0 0, .slice none 0 0] 70)).heap.size fun _ => .file w.heap.size) (w.alloc (.cells #[.slice none 0 0, .slice none 0 0, .slice none 0 0] 70)) w.heap.size file0 := by
  have hsz : (w.alloc (.cells #[.slice none 0 0, .slice none 0 0, .slice none 0 0] 70)).heap.size = w.heap.size + 1 := by simp
  exact ⟨Owns.new_at _ _ (Nat.le_refl _) (by omega), _, _, _, [], heap_alloc_last _ _ _ rfl, SlO.nil _ _, SlO.nil _ _, World.ownsRow_nil _ _ _ _, fun g hg => by simp [Value.ownBlock] at hg, .nil⟩
end

set_option maxRecDepth 100000 in
set_option maxHeartbeats 8000000 in
theorem write_any {own : Owns} {w : World} {p M Z : Nat} {G : Bytes → Nat} {S : StP} (h : StoreIn own w p M G S) (ok : OkS Z S) (hZ : Z ≤ 100000000) (path : Bytes) (hp : path.length ≤ 100000) (at_ : Int) (hat : -9223372036854775808 ≤ at_ ∧ at_ ≤ 9223372036854775807)
    {ab : Option Addr} {nb cb : Nat} {b : Bytes} (hb : Sl w ab cb b) (hn : nb = b.length) (hbl : nb ≤ 1000000000) (hbo : ∀ x, ab = some x → own x.block = none) :
    Calls Tryd.prog 16 #[ptr p, .string (strOf path), .int .i64 at_, .slice ab nb cb] w fun e w' => Left own w p (writeS S path at_ b) e w' := by
  have C1 := off_any h
  have C2 := right_any path hp w
  have HH := Lib.hid (And.intro h (And.intro ok (And.intro hb hn)))
  have HZ := Lib.hid (And.intro hZ hp)
  have HBO := Lib.hid hbo
  clear h ok hb hn hZ hp hbo
  obtain ⟨D, hD⟩ : ∃ D, D = S.down := ⟨_, rfl⟩
  obtain ⟨R, hR⟩ : ∃ R, R = rightF path := ⟨_, rfl⟩
  rw [← hD] at C1
  rw [← hR] at C2
  have HD := Lib.hid hD
  have HR := Lib.hid hR
  clear hD hR
  go_enter Tryd.func16, Tryd.ntmps16
  go_wp2_with fail
  refine C1.mono ?_
  clear C1
  rintro e w' ⟨rfl, rfl⟩
  cases D
  case true =>
    go_wp2_with fail
    go_ret
    unfold writeS
    rw [if_pos HD.out.symm]
    exact Left.same HH.out.1 (Below.refl _ _) _
  go_wp2_with fail
  refine C2.mono ?_
  clear C2
  rintro e w1 ⟨rfl, hw1⟩
  have H1 := Lib.hid hw1
  clear hw1
  cases R
  case false =>
    go_wp2_with fail
    go_ret
    unfold writeS
    rw [if_neg (by rw [← HD.out]; simp), if_pos (by rw [← HR.out]; rfl)]
    exact Left.same HH.out.1 H1.out _
  by_cases h0 : at_ < 0
  · have t0 : decide (at_ < 0) = true := decide_eq_true h0
    go_wp2_with fail
    go_ret
    unfold writeS
    rw [if_neg (by rw [← HD.out]; simp), if_pos (by rw [decide_eq_true h0]; simp)]
    exact Left.same HH.out.1 H1.out _
  have t0 : decide (at_ < 0) = false := decide_eq_false h0
  have C3 := free_any (HH.out.1.below H1.out) (fun q hq => (HH.out.2.1.ok q hq).2.1) path path HZ.out.2
  obtain ⟨F, hF⟩ : ∃ F, F = freeF S.files path path := ⟨_, rfl⟩
  rw [← hF] at C3
  have HF := Lib.hid hF
  clear hF
  go_wp2_with fail
  refine C3.mono ?_
  clear C3
  rintro e w2 ⟨rfl, hw2⟩
  have H2 := Lib.hid (H1.out.trans (hw2.mono H1.out.size))
  clear hw2
  cases F
  case false =>
    go_wp2_with fail
    go_ret
    unfold writeS
    rw [if_neg (by rw [← HD.out]; simp), if_neg (by rw [← HR.out, decide_eq_false (by omega)]; simp), if_pos (by rw [← HF.out]; rfl)]
    exact Left.same HH.out.1 H2.out _
  have h2 := HH.out.1.below H2.out
  obtain ⟨-, -, c2, -⟩ := h2.cells
  have LK := h2.map.look_ok path (by have := HZ.out.2; omega)
  have HS2 := Lib.hid h2
  clear h2
  obtain ⟨K, hK⟩ : ∃ K, K = (getF S.files path).isSome := ⟨_, rfl⟩
  have HK := Lib.hid hK
  obtain ⟨V, hV⟩ : ∃ V, V = placeV G S.files path := ⟨_, rfl⟩
  have HV := Lib.hid hV
  rw [← hK, ← hV] at LK
  clear hK hV
  go_upto_if 36 with (fail)
  go_cut [9] (fun s9 wx => ∃ b own3, s9 = ptr b ∧ StoreIn own3 wx p M G S ∧ FileAt own3 wx b ((getF S.files path).getD file0) ∧ Turn Any own own3 w wx ∧ ∀ y, y ≠ path → (getF S.files y).isSome = true → G y ≠ b)
  case first =>
    have HX := HK.out
    cases hx : getF S.files path with
    | none =>
      rw [hx] at HX
      obtain rfl : K = false := HX
      have hv : V = .pointer none := by rw [HV.out]; exact placeV_none hx
      subst hv
      have HX2 := Lib.hid hx
      clear hx
      go_wp2_with fail
      go_meet
      obtain ⟨g1, g2⟩ := HS2.out.newBytes ((Below.refl w2.heap.size w2).alloc (Nat.le_refl _) (.cells #[.slice none 0 0, .slice none 0 0, .slice none 0 0] 70)) (fun _ => .file w2.heap.size)
      refine ⟨_, _, rfl, g1, ?_, (Turn.below (T := Any) H2.out HH.out.1.lt).trans (turn_no g2), fun y _ hy e => ?_⟩
      · rw [HX2.out]; exact file_new own w2
      · obtain ⟨f, hf⟩ := Option.isSome_iff_exists.1 hy
        have := HS2.out.lt (G y) (by rw [(HS2.out.file y f hf).tag]; simp)
        omega
    | some f =>
      rw [hx] at HX
      obtain rfl : K = true := HX
      have hv : V = ptr (G path) := by rw [HV.out]; exact placeV_some hx
      subst hv
      have HX2 := Lib.hid hx
      clear hx
      go_wp2_with fail
      go_meet
      refine ⟨_, _, rfl, HS2.out, ?_, Turn.below (T := Any) H2.out HH.out.1.lt, fun y hy hs e => hy (HS2.out.inj y path hs (by rw [HX2.out]; rfl) e)⟩
      rw [HX2.out]; exact HS2.out.file path f HX2.out
  case rest =>
    obtain ⟨bf, own3, rfl, hs3, hf3, ht3, hG3⟩ := hcut
    obtain ⟨f, hf⟩ : ∃ f, f = (getF S.files path).getD file0 := ⟨_, rfl⟩
    rw [← hf] at hf3
    have hfo : f.ok ∧ f.now.length ≤ Z ∧ f.since.length ≤ Z := by
      rw [hf]
      cases hx : getF S.files path with
      | none => exact ⟨file0_ok, Nat.zero_le _, Nat.zero_le _⟩
      | some g =>
        have := HH.out.2.1.ok _ (getF_mem hx)
        exact ⟨this.1, this.2.2.1, this.2.2.2.2⟩
    obtain ⟨v1, v2, v3, L, p1, ⟨a1, c1, rfl, s1, o1⟩, -⟩ := hf3.ex
    have k0 := cell_blk p1 0 _ rfl
    obtain ⟨nn, hnn⟩ : ∃ nn, nn = f.now.length := ⟨_, rfl⟩
    rw [← hnn] at k0
    obtain ⟨q0, q1, q2, -⟩ := hs3.cells
    have SZ := hs3.map.size HH.out.2.1.sorted
    obtain ⟨nf, hnf⟩ : ∃ nf, nf = S.files.length := ⟨_, rfl⟩
    rw [← hnf] at SZ
    have hused := HH.out.2.1.used
    have hsum := sumF_le Z S.files (fun q hq => (HH.out.2.1.ok q hq).2.2.1)
    have hfew := HH.out.2.1.few
    have hZ := HZ.out.1
    have hmul : Z * S.files.length ≤ 1000000000000 := Nat.le_trans (Nat.mul_le_mul hZ hfew) (by decide)
    have husedb : 0 ≤ S.used ∧ S.used ≤ 1000000000000 := by rw [hused]; omega
    have hquota := HH.out.2.1.quota
    have hneg := HH.out.2.1.neg
    have hwq : IntKind.i64.wrap (S.quota - S.used) = S.quota - S.used := IntWalk.i64_in _ (by omega)
    have hnnb : nn ≤ 100000000 := by rw [hnn]; omega
    have H3 := Lib.hid (And.intro hs3 (And.intro hf3 (And.intro ht3 (And.intro hG3 (And.intro hf (And.intro hfo (And.intro hnn (And.intro hnf (And.intro hfew husedb)))))))))
    have HQ := Lib.hid hwq
    clear hs3 hf3 ht3 hG3 hf hfo p1 s1 o1 hnn hnf hused hsum hfew hZ hmul hneg hquota hwq c2 LK
    by_cases h1 : (nn : Int) < at_
    · have t1 : decide ((nn : Int) < at_) = true := decide_eq_true h1
      go_wp2_with fail
      go_ret
      unfold writeS
      rw [if_neg (by rw [← HD.out]; simp), if_neg (by rw [← HR.out, decide_eq_false (by omega)]; simp), if_neg (by rw [← HF.out]; simp), if_pos (by rw [← H3.out.2.2.2.2.1, ← H3.out.2.2.2.2.2.2.1]; exact h1)]
      exact ⟨rfl, own3, ⟨M, G, H3.out.1⟩, H3.out.2.2.1⟩
    have t1 : decide ((nn : Int) < at_) = false := decide_eq_false h1
    obtain ⟨mo, hmo⟩ : ∃ mo, mo = max 0 (at_ + (nb : Int) - (nn : Int)) := ⟨_, rfl⟩
    have MX := max_run 0 (at_ + (nb : Int) - (nn : Int)) mo hmo
    have HM := Lib.hid hmo
    have hmob : 0 ≤ mo ∧ mo ≤ 1000000000 := by omega
    clear hmo
    obtain ⟨qu, hqu⟩ : ∃ qu, qu = S.quota := ⟨_, rfl⟩
    obtain ⟨us, hus⟩ : ∃ us, us = S.used := ⟨_, rfl⟩
    have HQU := Lib.hid (And.intro hqu hus)
    have hwq := HQ.out
    rw [← hqu] at q0
    rw [← hus] at q1
    rw [← hqu, ← hus] at hwq
    have LQ : ∀ x : Later wc, x.1.cell? ⟨p, 0, none⟩ = some (.int .i64 qu) := fun x => load_later q0 x
    have LU : ∀ x : Later wc, x.1.cell? ⟨p, 1, none⟩ = some (.int .i64 us) := fun x => load_later q1 x
    have LM : ∀ x : Later wc, x.1.cell? ⟨p, 2, none⟩ = some (.map (some M)) := fun x => load_later q2 x
    have LZ : ∀ (x : Later wc) (ty : TypeId), (Builtin.len_ #[42] ty #[.map (some M)]).run Tryd.prog x.1 = .ok (.int .i64 (nf : Int)) x.1 := fun x ty => by
      have h1 := (H3.out.1.map.same (x.2.block M H3.out.1.map.lt)).size HH.out.2.1.sorted ty
      rw [← H3.out.2.2.2.2.2.2.2.1] at h1
      exact h1
    obtain ⟨B1, hB1⟩ : ∃ B, B = decide (qu - us < mo) := ⟨_, rfl⟩
    obtain ⟨B2, hB2⟩ : ∃ B, B = decide (0 < mo) := ⟨_, rfl⟩
    obtain ⟨B4, hB4⟩ : ∃ B, B = decide ((10000 : Int) ≤ (nf : Int)) := ⟨_, rfl⟩
    have HB := Lib.hid (And.intro hB1 (And.intro hB2 hB4))
    clear hqu hus q0 q1 q2 SZ hB1 hB2 hB4
    go_upto_region 13 with (fail)
    clear k0 MX
    go_cut [83] (fun s83 wx => s83 = .bool ((B1 && B2) || (!K && B4)) ∧ Below wc.heap.size wc wx)
    case first =>
      have e1 : decide (qu - us < mo) = B1 := HB.out.1.symm
      have e2 : decide (0 < mo) = B2 := HB.out.2.1.symm
      have e4 : decide ((10000 : Int) ≤ (nf : Int)) = B4 := HB.out.2.2.symm
      clear HB
      have hca : (B1 = true ∧ B2 = true) ∨ ((B1 = false ∨ (B1 = true ∧ B2 = false)) ∧ (K = true ∨ (K = false ∧ (B4 = true ∨ B4 = false)))) := by
        cases B1 <;> cases B2 <;> cases K <;> cases B4 <;> simp
      rcases hca with ⟨rfl, rfl⟩ | ⟨rfl | ⟨rfl, rfl⟩, rfl | ⟨rfl, rfl | rfl⟩⟩
      all_goals
        refine wp_region_mg [(0, 0), (1, 0), (2, 0), (3, 0), (4, 0), (5, 0), (6, 0), (7, 0), (8, 0), (9, 0), (10, 0), (11, 0), (12, 0), (13, 0), (14, 0), (15, 0), (16, 0), (17, 0), (18, 0), (19, 0), (20, 0), (21, 0), (22, 0), (23, 0), (24, 0), (25, 0), (26, 0)] (by kernel_rfl) (by kernel_rfl) ?_
        iterate 27 (refine mg_calm rfl (fun K hK => ?_); go_simp; (refine hK _ ?_; clear hK K))
        refine mg_nil fun w5 hw5 => ?_
        have H5 := Lib.hid hw5
        clear hw5
        go_wp2_with fail
        go_meet
        exact ⟨by simp, H5.out⟩
    case rest =>
      obtain ⟨rfl, hw5⟩ := hcut
      have H5 := Lib.hid hw5
      clear hw5 LQ LU LM LZ hwq
      obtain ⟨full, hfull⟩ : ∃ full, full = ((B1 && B2) || (!K && B4)) := ⟨_, rfl⟩
      have hfull2 : full = ((decide (max 0 (at_ + (b.length : Int) - (((getF S.files path).getD file0).now.length : Nat)) > S.quota - S.used) && decide (max 0 (at_ + (b.length : Int) - (((getF S.files path).getD file0).now.length : Nat)) > 0)) || ((getF S.files path).isNone && decide (10000 ≤ S.files.length))) := by
        rw [hfull, HB.out.1, HB.out.2.1, HB.out.2.2, HM.out, HQU.out.1, HQU.out.2, HK.out, HH.out.2.2.2, H3.out.2.2.2.2.2.2.1, H3.out.2.2.2.2.1, H3.out.2.2.2.2.2.2.2.1]
        have e4 : decide ((10000 : Int) ≤ (S.files.length : Int)) = decide (10000 ≤ S.files.length) := by rw [Bool.eq_iff_iff, decide_eq_true_eq, decide_eq_true_eq]; omega
        rw [e4]
        cases getF S.files path <;> rfl
      have HFU := Lib.hid hfull2
      rw [← hfull]
      clear hfull hfull2
      cases full
      case true =>
        go_wp2_with fail
        go_ret
        unfold writeS
        rw [if_neg (by rw [← HD.out]; simp), if_neg (by rw [← HR.out, decide_eq_false (by omega)]; simp), if_neg (by rw [← HF.out]; simp), if_neg (by rw [← H3.out.2.2.2.2.1, ← H3.out.2.2.2.2.2.2.1]; omega), if_pos HFU.out.symm]
        exact ⟨rfl, own3, ⟨M, G, H3.out.1.below H5.out⟩, H3.out.2.2.1.trans (Turn.below H5.out H3.out.1.lt)⟩
      have hs5 := H3.out.1.below H5.out
      have hf5 := H3.out.2.1.turn (T := fun _ => False) (Turn.below H5.out H3.out.1.lt) H3.out.1.lt id id
      obtain ⟨w6, hrun, hs6, ht6⟩ := hs5.putMap HH.out.2.1.sorted (by have := HH.out.2.1.few; omega) (x := path) (by have := HZ.out.2; omega) hf5 H3.out.2.2.2.1
      obtain ⟨-, -, q2, -⟩ := hs5.cells
      have HT5 := Lib.hid (H3.out.2.2.1.trans (Turn.below (T := Any) H5.out H3.out.1.lt))
      have H6 := Lib.hid (And.intro hs6 ht6)
      clear hs5 hf5 hs6 ht6
      go_upto_region 16 with (fail)
      obtain ⟨-, q1, -⟩ := H6.out.1.cells
      have f1 := H6.out.1.free 1
      have hwu : IntKind.i64.wrap (us + mo) = us + mo := IntWalk.i64_in _ (by have := H3.out.2.2.2.2.2.2.2.2.2; rw [← HQU.out.2] at this; omega)
      change _ = some (Value.int .i64 S.used) at q1
      rw [← HQU.out.2] at q1
      obtain ⟨hs7, ht7⟩ := H6.out.1.setRoot (k := 1) (v := .int .i64 (us + mo)) (S' := { S with used := us + mo, files := putF S.files path f }) rfl rfl
      have H7 := Lib.hid (And.intro hs7 ((HT5.out.trans (turn_root H6.out.2)).trans (turn_root ht7)))
      clear hs7 ht7 q2
      go_upto_region 17 with (fail)
      clear q1 f1 hwu
      generalize w6.setCell ⟨p, 1, none⟩ (Value.int .i64 (us + mo)) = w7 at *
      have s7 := HH.out.2.2.1.foreign H7.out.2 (by simp) HBO.out
      have CC := clone_any s7 rfl (by have := HH.out.2.2.2; omega)
      rw [← HH.out.2.2.2] at CC
      clear s7
      go_wp2_with fail
      refine CC.mono ?_
      clear CC
      rintro e w8 ⟨v, rfl, h8⟩
      obtain ⟨av, nv, cv, rfl⟩ := h8.1.slice
      obtain ⟨hs8, ht8⟩ := H7.out.1.newBytes h8.2.1 (fun _ => .bytes)
      have sb8 := slO_buf own3 h8.1
      have hfit : Chg.fits ⟨at_.toNat, -1, b⟩ f.now := ⟨fun h => absurd (show (0 : Int) ≤ -1 from h) (by decide), fun _ => by show at_.toNat ≤ f.now.length; rw [← H3.out.2.2.2.2.2.2.1]; omega⟩
      have hf8 := hs8.file path f (by show getF (putF S.files path f) path = some f; rw [getF_put, if_pos rfl])
      have hG : updG G path bf path = bf := by simp [updG]
      rw [hG] at hf8
      have CD := do_any hf8 hs8.lt (ca := ⟨at_, -1, av, nv, cv⟩) (c := ⟨at_.toNat, -1, b⟩) ⟨by show at_ = (at_.toNat : Int); omega, rfl, sb8⟩ hfit (by have := H3.out.2.2.2.2.2.2.1; omega) (by show b.length ≤ _; have := HH.out.2.2.2; omega) (by have := H3.out.2.2.2.2.2.1.2.2; have := HZ.out.1; omega)
      rw [show recA encC (⟨at_, -1, av, nv, cv⟩ : ChgA) = #[Value.int .i64 at_, Value.int .i64 (-1), Value.slice av nv cv] from rfl] at CD
      have H8 := Lib.hid (And.intro hs8 (H7.out.2.trans (turn_no ht8)))
      have HG := Lib.hid hG
      clear h8 hs8 ht8 sb8 hfit hf8 hG
      go_wp2_with fail
      refine CD.mono ?_
      clear CD
      rintro e w9 ⟨rfl, own9, hf9, ht9⟩
      have hs9 := H8.out.1.filed (x := path) (f := doF f ⟨at_.toNat, -1, b⟩) (by show (getF (putF S.files path f) path).isSome = true; rw [getF_put, if_pos rfl]; rfl) (by rw [HG.out]; exact ht9) (by rw [HG.out]; exact hf9)
      rw [show (({ S with used := us + mo, files := putF S.files path f } : StP).files) = putF S.files path f from rfl, putF_put HH.out.2.1.sorted] at hs9
      have CE := done_any hs9 (fun _ => by have := HH.out.2.1.left; show -1000 ≤ S.left ∧ S.left ≤ _; omega)
      have H9 := Lib.hid (H8.out.2.trans (turn_file ht9))
      clear hs9 hf9 ht9
      go_wp2_with fail
      refine CE.mono ?_
      clear CE
      rintro e w10 ⟨rfl, hs10, ht10⟩
      have H10 := Lib.hid (And.intro hs10 (H9.out.trans (turn_root ht10)))
      clear hs10 ht10
      go_wp2_with fail
      go_ret
      unfold writeS
      rw [if_neg (by rw [← HD.out]; simp), if_neg (by rw [← HR.out, decide_eq_false (by omega)]; simp), if_neg (by rw [← HF.out]; simp), if_neg (by rw [← H3.out.2.2.2.2.1, ← H3.out.2.2.2.2.2.2.1]; omega), if_neg (by rw [← HFU.out]; simp)]
      refine ⟨rfl, _, ⟨M, updG G path bf, ?_⟩, H10.out.2⟩
      have e1 : S.used + max 0 (at_ + (b.length : Int) - (((getF S.files path).getD file0).now.length : Nat)) = us + mo := by
        rw [HM.out, HQU.out.2, HH.out.2.2.2, H3.out.2.2.2.2.2.2.1, H3.out.2.2.2.2.1]
      show StoreIn _ _ _ _ _ (doneS { S with used := S.used + max 0 (at_ + (b.length : Int) - (((getF S.files path).getD file0).now.length : Nat)), files := putF S.files path (doF ((getF S.files path).getD file0) ⟨at_.toNat, -1, b⟩) })
      rw [e1, ← H3.out.2.2.2.2.1]
      exact H10.out.1
end Go.Proofs.YtnlkanhakmkejaaDoor
