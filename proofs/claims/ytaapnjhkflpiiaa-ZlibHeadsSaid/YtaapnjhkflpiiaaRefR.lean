/-
  The document's Raw: blocks of bytes as they are; blocks of the given codes.
  The document's Raw: the walk.
-/
import Derived.Test.YtaapnjhkflpiiaaRef11
import Derived.Test.YtaapnjhkflpiiaaInf13
namespace Go.Proofs.Ytaapnjhkflpiiaa
open Go.RowKit Go.Mix

/-- Does a text of code begin with region k, in a loop perhaps? -/
def startsIn (k : Nat) : Code → Bool
  | .region n _ _ => n == k
  | .seq a _ => startsIn k a
  | .block _ a => startsIn k a
  | .loop a => startsIn k a
  | _ => false
/-- The first piece of code that begins so. -/
def pieceAt (k : Nat) : Code → Option Code
  | .seq a b => if startsIn k a then some (.seq a b) else match pieceAt k a with
    | some c => some c
    | none => pieceAt k b
  | .loop c => pieceAt k c
  | .block _ c => pieceAt k c
  | .scope c => pieceAt k c
  | .cond _ a b => match pieceAt k a with
    | some c => some c
    | none => pieceAt k b
  | _ => none
noncomputable def rawStored : Code := ((Try.f23.body.bind (pieceAt 7)).getD .skip)
noncomputable def rawStored2 : Code := ((Try.f23.body.bind (pieceAt 9)).getD .skip)
noncomputable def rawFixed : Code := ((Try.f23.body.bind (pieceAt 18)).getD .skip)

/-- A part that may be met behind an error. -/
def deadOr {α : Type} (bad : Nat) (r : Except Nat α) : Except Nat α := if bad = 0 then r else .error bad
theorem deadOr_live {α : Type} (r : Except Nat α) : deadOr 0 r = r := rfl
theorem deadOr_dead {α : Type} {bad : Nat} (h : bad ≠ 0) (r : Except Nat α) : deadOr bad r = .error bad := if_neg h

theorem stored_nums {d : List UInt8} {most : Int} {p bad : Nat} {out : List UInt8} (hp : p ≤ 8 * d.length) (q : Nat) (hq : bad = 0 → q = (p + 7) / 8 * 8) :
    deadOr bad (storedR d most p out) = (fun (N : Nat × Nat × Nat) => (fun (M : Nat × Nat × Nat) => deadOr (if M.1 + N.1 = 65535 then M.2.2 else stopN M.2.2 4) (storedGo d most N.1 M.2.1 out)) (numN d N.2.1 N.2.2 16)) (numN d q bad 16) := by
  by_cases hb : bad = 0
  · subst hb
    rw [deadOr_live]
    have hq2 := hq rfl
    have hq8 : q ≤ 8 * d.length := by omega
    unfold storedR
    rw [← hq2]
    rcases num_or d q 16 hq8 with ⟨n, q1, h1, h2, h3, h4⟩ | ⟨h1, h2⟩
    · rw [h1, h2]
      simp only
      rcases num_or d q1 16 h4 with ⟨m, q2, g1, g2, g3, g4⟩ | ⟨g1, g2⟩
      · rw [g1, g2]
        simp only
        by_cases hm : m + n = 65535
        · rw [if_pos hm, if_pos hm]; rfl
        · rw [if_neg hm, if_neg hm]; rfl
      · rw [g1]
        have e : (numN d q1 0 16).2.2 = 3 := by rw [g2]
        simp only [e]
        split <;> rfl
    · rw [h1]
      have e : (numN d q 0 16).2.2 = 3 := by rw [h2]
      simp only [e, numN_bad d _ 3 (by decide)]
      split <;> rfl
  · rw [deadOr_dead hb]
    simp only [numN_bad d _ bad hb]
    split
    · rw [deadOr_dead hb]
    · have : stopN bad 4 = bad := by unfold stopN; rw [if_neg hb]
      rw [this, deadOr_dead hb]
theorem stored_step {d : List UInt8} {most : Int} {n q : Nat} {o : List UInt8} (hq : q ≤ 8 * d.length) :
    storedGo d most (n + 1) q o = (fun (N : Nat × Nat × Nat) => (fun (M : List UInt8 × Nat) => deadOr M.2 (storedGo d most n N.2.1 M.1)) (putN most o N.2.2 (UInt8.ofNat N.1))) (numN d q 0 8) := by
  rw [storedGo]
  rcases num_or d q 8 hq with ⟨n, q1, h1, h2, h3, h4⟩ | ⟨h1, h2⟩
  · rw [h1, h2]
    simp only
    rcases putN_put most o (UInt8.ofNat n) with ⟨o2, g1, g2⟩ | ⟨g1, g2⟩
    · rw [g1, g2]; rfl
    · rw [g1, g2]; rfl
  · rw [h1]
    have e : (numN d q 0 8).2.2 = 3 := by rw [h2]
    simp only [e, putN]
    rfl

section
variable {S : Nat → Prop} {w0 w w' : World} {P : Nat} {a : Option Addr} {cap : Nat} {d : List UInt8} {most : Int} {p bad : Nat} {out : List UInt8}

set_option maxRecDepth 100000 in
set_option maxHeartbeats 2000000 in
theorem raw_stored2 (hd : Fits S w0 a cap d most) (h : RefS S w0 w P a cap d most p out bad) {E : Except Nat (Nat × List UInt8)} (hE : E = (fun (N : Nat × Nat × Nat) => (fun (M : Nat × Nat × Nat) => deadOr (if M.1 + N.1 = 65535 then M.2.2 else stopN M.2.2 4) (storedGo d most N.1 M.2.1 out)) (numN d N.2.1 N.2.2 16)) (numN d p bad 16)) (u0 u1 u2 u3 u4 u5 u6 u8 u9 u10 u11 u12 u13 u14 u15 u16 u17 u18 u19 u20 u21 u22 u23 u24 u25 u26 u27 u28 u29 u30 u31 u32 u33 u34 u35 u36 u37 u38 u39 u40 u41 u42 u43 u44 u45 u46 u47 u48 u49 u50 u51 u52 u53 u54 u55 u56 u57 u58 u59 u60 u61 u62 u63 u64 u65 u66 u67 u68 u69 u70 u71 u72 u73 u74 u75 u76 u77 u78 u79 u80 u81 u82 u83 u84 u85 u86 u87 u88 u89 u90 u91 u92 u93 u94 u95 u96 u97 u98 u99 u100 u101 u102 u103 u104 u105 u106 u107 u108 u109 : Value) {Q : Exit → Act → World → Prop}
    (hQ : ∀ (u9 u10 u11 u46 u47 u48 u49 u50 u51 u52 u53 u54 u55 u56 u57 u58 u59 u60 u61 u62 u63 u64 u65 u66 u67 u68 u69 u70 u71 u72 : Value) (wc : World), RefOut S w0 wc P a cap d most E → Q .normal ⟨#[u0, u1, u2, u3, u4, u5, u6, .pointer (some ⟨P, 0, none⟩), u8, u9, u10, u11, u12, u13, u14, u15, u16, u17, u18, u19, u20, u21, u22, u23, u24, u25, u26, u27, u28, u29, u30, u31, u32, u33, u34, u35, u36, u37, u38, u39, u40, u41, u42, u43, u44, u45, u46, u47, u48, u49, u50, u51, u52, u53, u54, u55, u56, u57, u58, u59, u60, u61, u62, u63, u64, u65, u66, u67, u68, u69, u70, u71, u72, u73, u74, u75, u76, u77, u78, u79, u80, u81, u82, u83, u84, u85, u86, u87, u88, u89, u90, u91, u92, u93, u94, u95, u96, u97, u98, u99, u100, u101, u102, u103, u104, u105, u106, u107, u108, u109], []⟩ wc) :
    Code.wp Try.prog rawStored2 Q ⟨#[u0, u1, u2, u3, u4, u5, u6, .pointer (some ⟨P, 0, none⟩), u8, u9, u10, u11, u12, u13, u14, u15, u16, u17, u18, u19, u20, u21, u22, u23, u24, u25, u26, u27, u28, u29, u30, u31, u32, u33, u34, u35, u36, u37, u38, u39, u40, u41, u42, u43, u44, u45, u46, u47, u48, u49, u50, u51, u52, u53, u54, u55, u56, u57, u58, u59, u60, u61, u62, u63, u64, u65, u66, u67, u68, u69, u70, u71, u72, u73, u74, u75, u76, u77, u78, u79, u80, u81, u82, u83, u84, u85, u86, u87, u88, u89, u90, u91, u92, u93, u94, u95, u96, u97, u98, u99, u100, u101, u102, u103, u104, u105, u106, u107, u108, u109], []⟩ w := by
  conv => arg 2; whnf
  have C1 := refNumber_any hd h 16 16 rfl (by decide)
  have hn := numN_lt d p bad 16
  have hsz := hd.small
  have HQ := Lib.hid hQ
  clear hQ
  generalize numN d p bad 16 = N at *
  obtain ⟨n, q1, b1⟩ := N
  simp only at C1 hn hE
  have hn6 : n ≤ 65535 := by omega
  clear h hn
  go_wp2_with fail
  refine C1.mono ?_
  rintro e w1 ⟨rfl, h1⟩
  have C2 := refNumber_any hd h1 16 16 rfl (by decide)
  have hm := numN_lt d q1 b1 16
  clear C1
  generalize numN d q1 b1 16 = M at *
  obtain ⟨m, q2, b2⟩ := M
  simp only at C2 hm hE
  have hm6 : m ≤ 65535 := by omega
  have HE := Lib.hid hE
  clear h1 hm hE
  go_wp2_with fail
  refine C2.mono ?_
  rintro e w2 ⟨rfl, h2⟩
  clear C2
  go_upto_if 52 with (fail)
  go_cut [9] from 46 to 55 (fun s9 wc => s9 = .int .i64 (n : Int) ∧ RefS S w0 wc P a cap d most q2 out (if m + n = 65535 then b2 else stopN b2 4))
  case first =>
    refine wp_cond_split rfl (fun h => ?_) (fun h => ?_)
    · have hne : ¬ m + n = 65535 := by
        rw [bne_iff_ne] at h; omega
      clear h
      go_wp2_with fail
      refine (stop_any h2 4 4 rfl (by decide)).mono ?_
      rintro e w3 ⟨rfl, h3⟩
      go_wp2_with fail
      go_meet
      case rel => exact ⟨rfl, by rw [if_neg hne]; exact h3⟩
    · have hne : m + n = 65535 := by
        rw [bne_eq_false_iff_eq] at h; omega
      clear h
      go_wp2_with fail
      go_meet
      case rel => exact ⟨rfl, by rw [if_pos hne]; exact h2⟩
  case rest =>
    clear h2
    obtain ⟨rfl, h3⟩ := hcut
    generalize (if m + n = 65535 then b2 else stopN b2 4) = b3 at *
    go_wp2_with fail
    go_loopw [10] (fun s10 wr => ∃ (j q : Nat) (o : List UInt8) (b : Nat), s10 = .int .i64 (j : Int) ∧ j ≤ n ∧ RefS S w0 wr P a cap d most q o b ∧ E = deadOr b (storedGo d most (n - j) q o)) (fun s10 _ => n - (intOf s10).toNat)
    case atStart => exact ⟨0, q2, out, b3, rfl, Nat.zero_le _, h3, HE.out⟩
    case round =>
      clear h3 HE
      obtain ⟨j, q, o, b, rfl, hj, hI, hEj⟩ := hrel
      obtain ⟨v, hIv⟩ := id hI
      have hql := hIv.le
      obtain ⟨-, -, -, -, c4⟩ := five_cells hIv.blk
      clear hIv
      by_cases hjn : j < n
      · have t1 : decide ((j : Int) < (n : Int)) = true := decide_eq_true (by omega)
        have t1' : decide (j < n) = true := decide_eq_true hjn
        by_cases hb : b = 0
        · subst hb
          rw [deadOr_live, show n - j = (n - (j + 1)) + 1 by omega, stored_step hql] at hEj
          have C1 := refNumber_any hd hI 8 8 rfl (by decide)
          have hc := numN_lt d q 0 8
          generalize numN d q 0 8 = N at *
          obtain ⟨c, q', b'⟩ := N
          simp only at C1 hc hEj
          have hc256 : c < 256 := hc
          have HEJ := Lib.hid hEj
          clear hc hEj hI
          go_wp2_with fail
          refine C1.mono ?_
          rintro e w4 ⟨rfl, h4⟩
          clear C1 c4
          have C2 := refPut_any hd h4 (UInt8.ofNat c) (c : Int) (by simp; omega)
          clear h4
          generalize putN most o b' (UInt8.ofNat c) = U at *
          obtain ⟨o2, b2⟩ := U
          simp only at C2
          go_wp2_with fail
          refine C2.mono ?_
          rintro e w5 ⟨rfl, h5⟩
          clear C2
          go_wp2_with fail
          go_roundw
          case rel => exact ⟨j + 1, q', o2, b2, by go_num, by omega, h5, HEJ.out⟩
          case measure => simp [intOf]; omega
        · have t2 : ((b : Int) == 0) = false := by rw [beq_eq_false_iff_ne]; omega
          rw [deadOr_dead hb] at hEj
          have HEE := Lib.hid (And.intro hb hEj)
          clear hb hEj
          go_wp2_with fail
          exact HQ.out _ _ _ _ _ _ _ _ _ _ _ _ _ _ _ _ _ _ _ _ _ _ _ _ _ _ _ _ _ _ _ (by rw [HEE.out.2]; exact ⟨HEE.out.1, _, _, hI⟩)
      · obtain rfl : j = n := by omega
        have t1 : decide ((j : Int) < (j : Int)) = false := decide_eq_false (by omega)
        rw [Nat.sub_self, storedGo] at hEj
        have HEJ := Lib.hid hEj
        clear hEj
        go_wp2_with fail
        refine HQ.out _ _ _ _ _ _ _ _ _ _ _ _ _ _ _ _ _ _ _ _ _ _ _ _ _ _ _ _ _ _ _ ?_
        rw [HEJ.out]
        by_cases hb : b = 0
        · subst hb; exact hI
        · rw [deadOr_dead hb]; exact ⟨hb, _, _, hI⟩

set_option maxRecDepth 100000 in
set_option maxHeartbeats 2000000 in
theorem raw_stored (hd : Fits S w0 a cap d most) (h : RefS S w0 w P a cap d most p out bad) {E : Except Nat (Nat × List UInt8)} (hE : E = deadOr bad (storedR d most p out)) (u0 u1 u2 u3 u4 u5 u6 u8 u9 u10 u11 u12 u13 u14 u15 u16 u17 u18 u19 u20 u21 u22 u23 u24 u25 u26 u27 u28 u29 u30 u31 u32 u33 u34 u35 u36 u37 u38 u39 u40 u41 u42 u43 u44 u45 u46 u47 u48 u49 u50 u51 u52 u53 u54 u55 u56 u57 u58 u59 u60 u61 u62 u63 u64 u65 u66 u67 u68 u69 u70 u71 u72 u73 u74 u75 u76 u77 u78 u79 u80 u81 u82 u83 u84 u85 u86 u87 u88 u89 u90 u91 u92 u93 u94 u95 u96 u97 u98 u99 u100 u101 u102 u103 u104 u105 u106 u107 u108 u109 : Value) {Q : Exit → Act → World → Prop}
    (hQ : ∀ (u9 u10 u11 u31 u32 u33 u34 u35 u36 u37 u38 u39 u40 u41 u42 u43 u44 u45 u46 u47 u48 u49 u50 u51 u52 u53 u54 u55 u56 u57 u58 u59 u60 u61 u62 u63 u64 u65 u66 u67 u68 u69 u70 u71 u72 : Value) (wc : World), RefOut S w0 wc P a cap d most E → Q .normal ⟨#[u0, u1, u2, u3, u4, u5, u6, .pointer (some ⟨P, 0, none⟩), u8, u9, u10, u11, u12, u13, u14, u15, u16, u17, u18, u19, u20, u21, u22, u23, u24, u25, u26, u27, u28, u29, u30, u31, u32, u33, u34, u35, u36, u37, u38, u39, u40, u41, u42, u43, u44, u45, u46, u47, u48, u49, u50, u51, u52, u53, u54, u55, u56, u57, u58, u59, u60, u61, u62, u63, u64, u65, u66, u67, u68, u69, u70, u71, u72, u73, u74, u75, u76, u77, u78, u79, u80, u81, u82, u83, u84, u85, u86, u87, u88, u89, u90, u91, u92, u93, u94, u95, u96, u97, u98, u99, u100, u101, u102, u103, u104, u105, u106, u107, u108, u109], []⟩ wc) :
    Code.wp Try.prog rawStored Q ⟨#[u0, u1, u2, u3, u4, u5, u6, .pointer (some ⟨P, 0, none⟩), u8, u9, u10, u11, u12, u13, u14, u15, u16, u17, u18, u19, u20, u21, u22, u23, u24, u25, u26, u27, u28, u29, u30, u31, u32, u33, u34, u35, u36, u37, u38, u39, u40, u41, u42, u43, u44, u45, u46, u47, u48, u49, u50, u51, u52, u53, u54, u55, u56, u57, u58, u59, u60, u61, u62, u63, u64, u65, u66, u67, u68, u69, u70, u71, u72, u73, u74, u75, u76, u77, u78, u79, u80, u81, u82, u83, u84, u85, u86, u87, u88, u89, u90, u91, u92, u93, u94, u95, u96, u97, u98, u99, u100, u101, u102, u103, u104, u105, u106, u107, u108, u109], []⟩ w := by
  conv => arg 2; whnf
  have HE := Lib.hid hE
  have hsz := hd.small
  clear hE
  go_wp2_with fail
  go_loopw [45] (fun _ wr => ∃ p' : Nat, p ≤ p' ∧ (p' + 7) / 8 = (p + 7) / 8 ∧ RefS S w0 wr P a cap d most p' out bad) (fun _ wr => refLeft P (8 * d.length) wr)
  case atStart => exact ⟨p, Nat.le_refl _, rfl, h⟩
  case round =>
    obtain ⟨p', hp', hal, hI⟩ := hrel
    have hpl0 : p ≤ 8 * d.length := by obtain ⟨_, h⟩ := h; exact h.le
    clear h
    have hleft := Lib.hid (hI.left (8 * d.length))
    obtain ⟨v, hIv⟩ := id hI
    have hpl := hIv.le
    obtain ⟨-, c1, -, -, c4⟩ := five_cells hIv.blk
    clear hIv
    by_cases h8 : p' % 8 = 0
    · have t1 : ((p' : Int) % 8 != 0) = false := by rw [bne_eq_false_iff_eq]; omega
      go_upto_if 43 with (fail)
      refine wp_cond_split rfl (fun h => ?_) (fun _ => ?_)
      · cases h
      refine wp_exit ?_
      refine ‹∀ (a : Act) (w : World), Code.wp Try.prog _ _ a w → _› _ _ ?_
      exact raw_stored2 hd hI (HE.out.trans (stored_nums hpl0 p' (fun hb => by omega))) _ _ _ _ _ _ _ _ _ _ _ _ _ _ _ _ _ _ _ _ _ _ _ _ _ _ _ _ _ _ _ _ _ _ _ _ _ _ _ _ _ _ _ _ _ _ _ _ _ _ _ _ _ _ _ _ _ _ _ _ _ _ _ _ _ _ _ _ _ _ _ _ _ _ _ _ _ _ _ _ _ _ _ _ _ _ _ _ _ _ _ _ _ _ _ _ _ _ _ _ _ _ _ _ _ _ _ _ _ (fun _ _ _ _ _ _ _ _ _ _ _ _ _ _ _ _ _ _ _ _ _ _ _ _ _ _ _ _ _ _ wc hO => hQ _ _ _ _ _ _ _ _ _ _ _ _ _ _ _ _ _ _ _ _ _ _ _ _ _ _ _ _ _ _ _ _ _ _ _ _ _ _ _ _ _ _ _ _ _ wc hO)
    have t1 : ((p' : Int) % 8 != 0) = true := by rw [bne_iff_ne]; omega
    by_cases hb : bad = 0
    rotate_left
    · have t2 : ((bad : Int) == 0) = false := by rw [beq_eq_false_iff_ne]; omega
      go_upto_if 43 with (fail)
      refine wp_cond_split rfl (fun h => ?_) (fun _ => ?_)
      · cases h
      refine wp_exit ?_
      refine ‹∀ (a : Act) (w : World), Code.wp Try.prog _ _ a w → _› _ _ ?_
      exact raw_stored2 hd hI (HE.out.trans (stored_nums hpl0 p' (fun hb => by omega))) _ _ _ _ _ _ _ _ _ _ _ _ _ _ _ _ _ _ _ _ _ _ _ _ _ _ _ _ _ _ _ _ _ _ _ _ _ _ _ _ _ _ _ _ _ _ _ _ _ _ _ _ _ _ _ _ _ _ _ _ _ _ _ _ _ _ _ _ _ _ _ _ _ _ _ _ _ _ _ _ _ _ _ _ _ _ _ _ _ _ _ _ _ _ _ _ _ _ _ _ _ _ _ _ _ _ _ _ _ (fun _ _ _ _ _ _ _ _ _ _ _ _ _ _ _ _ _ _ _ _ _ _ _ _ _ _ _ _ _ _ wc hO => hQ _ _ _ _ _ _ _ _ _ _ _ _ _ _ _ _ _ _ _ _ _ _ _ _ _ _ _ _ _ _ _ _ _ _ _ _ _ _ _ _ _ _ _ _ _ wc hO)
    · subst hb
      have C := refBit_any hd hI
      rw [bitN_live (by omega)] at C
      go_wp2_with fail
      refine C.mono ?_
      rintro e w2 ⟨rfl, h2⟩
      have hleft2 := Lib.hid (h2.left (8 * d.length))
      clear C
      go_wp2_with fail
      go_roundw
      case rel => exact ⟨p' + 1, by omega, by omega, h2⟩
      case measure => rw [hleft.out, hleft2.out]; simp; omega

theorem fixed15 : (∀ i, fixedL.getD i 0 ≤ 15) ∧ (∀ i, fixedD.getD i 0 ≤ 15) := by
  refine ⟨getD_le15 fun x hx => ?_, getD_le15 fun x hx => ?_⟩
  · unfold fixedL at hx
    simp only [List.mem_append] at hx
    rcases hx with ((h | h) | h) | h <;> rw [List.eq_of_mem_replicate h] <;> decide
  · unfold fixedD at hx
    rw [List.eq_of_mem_replicate hx]; decide

set_option maxRecDepth 100000 in
set_option maxHeartbeats 2000000 in
theorem raw_fixed (hd : Fits S w0 a cap d most) (h : RefS S w0 w P a cap d most p out bad) {E : Except Nat (Nat × List UInt8)} (hE : E = deadOr bad (signsR d most fixedL fixedD (8 * d.length + 1) p out)) (u0 u1 u2 u3 u4 u5 u6 u8 u9 u10 u11 u12 u13 u14 u15 u16 u17 u18 u19 u20 u21 u22 u23 u24 u25 u26 u27 u28 u29 u30 u31 u32 u33 u34 u35 u36 u37 u38 u39 u40 u41 u42 u43 u44 u45 u46 u47 u48 u49 u50 u51 u52 u53 u54 u55 u56 u57 u58 u59 u60 u61 u62 u63 u64 u65 u66 u67 u68 u69 u70 u71 u72 u73 u74 u75 u76 u77 u78 u79 u80 u81 u82 u83 u84 u85 u86 u87 u88 u89 u90 u91 u92 u93 u94 u95 u96 u97 u98 u99 u100 u101 u102 u103 u104 u105 u106 u107 u108 u109 : Value) {Q : Exit → Act → World → Prop}
    (hQ : ∀ (u12 u13 u75 u76 u77 u78 u79 u80 u81 u82 u83 u84 : Value) (wc : World), RefOut S w0 wc P a cap d most E → Q .normal ⟨#[u0, u1, u2, u3, u4, u5, u6, .pointer (some ⟨P, 0, none⟩), u8, u9, u10, u11, u12, u13, u14, u15, u16, u17, u18, u19, u20, u21, u22, u23, u24, u25, u26, u27, u28, u29, u30, u31, u32, u33, u34, u35, u36, u37, u38, u39, u40, u41, u42, u43, u44, u45, u46, u47, u48, u49, u50, u51, u52, u53, u54, u55, u56, u57, u58, u59, u60, u61, u62, u63, u64, u65, u66, u67, u68, u69, u70, u71, u72, u73, u74, u75, u76, u77, u78, u79, u80, u81, u82, u83, u84, u85, u86, u87, u88, u89, u90, u91, u92, u93, u94, u95, u96, u97, u98, u99, u100, u101, u102, u103, u104, u105, u106, u107, u108, u109], []⟩ wc) :
    Code.wp Try.prog rawFixed Q ⟨#[u0, u1, u2, u3, u4, u5, u6, .pointer (some ⟨P, 0, none⟩), u8, u9, u10, u11, u12, u13, u14, u15, u16, u17, u18, u19, u20, u21, u22, u23, u24, u25, u26, u27, u28, u29, u30, u31, u32, u33, u34, u35, u36, u37, u38, u39, u40, u41, u42, u43, u44, u45, u46, u47, u48, u49, u50, u51, u52, u53, u54, u55, u56, u57, u58, u59, u60, u61, u62, u63, u64, u65, u66, u67, u68, u69, u70, u71, u72, u73, u74, u75, u76, u77, u78, u79, u80, u81, u82, u83, u84, u85, u86, u87, u88, u89, u90, u91, u92, u93, u94, u95, u96, u97, u98, u99, u100, u101, u102, u103, u104, u105, u106, u107, u108, u109], []⟩ w := by
  conv => arg 2; whnf
  have HQ := Lib.hid hQ
  have HGL := Lib.hid (fun q => signG_eq d fixedL false fixed15.1 goodL (good_some fixedL goodL) q)
  have HGD := Lib.hid (fun q => signG_eq d fixedD false fixed15.2 goodD (good_some fixedD goodD) q)
  have hsm : true = !decide ((sgn fixedD).length = 0) := by rw [decide_eq_false (good_some fixedD goodD)]; rfl
  have HSM := Lib.hid hsm
  have hR : (bad = 0 ∧ signsR d most fixedL fixedD (8 * d.length + 1) p out = E) ∨ (bad ≠ 0 ∧ E = .error bad) := by
    by_cases hb : bad = 0
    · subst hb; exact .inl ⟨rfl, hE.symm⟩
    · exact .inr ⟨hb, by rw [hE, deadOr_dead hb]⟩
  have HR := Lib.hid hR
  have C0 := refFixed_any w
  have e1 : (genC fixedL).length = 288 := by rw [genC_len, fixedL_len]
  have e2 : (genC fixedD).length = 32 := by rw [genC_len, fixedD_len]
  have hl := fixedL_len
  have hdl := fixedD_len
  generalize fixedL = FL at *
  generalize fixedD = FD at *
  rw [hl, hdl] at C0
  clear hQ hE hsm hR
  go_wp2_with fail
  refine C0.mono ?_
  rintro e w1 ⟨a1, c1, a2, c2, rfl, hn1, hn2, g1⟩
  have C1 := codes_any hn1 (by omega)
  rw [hl] at C1
  clear C0
  go_wp2_with fail
  refine Calls.mono C1 ?_
  rintro e w2 ⟨gc, cc, rfl, hgc, hgw, hcc, hcells, g12⟩
  have C2 := codes_any (hn2.below g12) (by omega)
  rw [hdl] at C2
  have hgcl : gc < w2.heap.size := by
    rcases Nat.lt_or_ge gc w2.heap.size with h | h
    · exact h
    · exact absurd (Array.getElem?_eq_none h) hgc
  clear C1
  go_wp2_with fail
  refine Calls.mono C2 ?_
  rintro e w3 ⟨gd, dc, rfl, hgd, hdw, hdc, hdcells, g23⟩
  clear C2
  have hgdl : gd < w3.heap.size := by
    rcases Nat.lt_or_ge gd w3.heap.size with h | h
    · exact h
    · exact absurd (Array.getElem?_eq_none h) hgd
  have hs01 := g1.size
  have hs12 := g12.size
  have hs23 := g23.size
  have g13 := g1.trans ((g12.trans (g23.mono hs12)).mono hs01)
  obtain ⟨T3, hST3, h3, -, hTnew, hback⟩ := h.holdNew g13
  have hd3 := hd.hold (h.later g13).frame hST3
  have X1 : Txts T3 w3 (some ⟨gc, 0, none⟩) cc (genC FL) := ⟨hcells.below g23, by omega, fun x hx => by injection hx with hx; subst hx; exact hTnew gc (by show _ ≤ gc; omega) (by show gc < _; omega)⟩
  have X2 : Txts T3 w3 (some ⟨gd, 0, none⟩) dc (genC FD) := ⟨hdcells, by omega, fun x hx => by injection hx with hx; subst hx; exact hTnew gd (by show _ ≤ gd; omega) hgdl⟩
  have C3 := refSigns_any hd3 h3 X1 X2 (by omega) (by omega) (genC_short FL) (genC_short FD) HGL.out true HSM.out (fun _ => HGD.out) E HR.out
  rw [e1, e2] at C3
  have HB := Lib.hid (fun w' (hO : RefOut T3 w3 w' P a cap d most E) => (show RefOut S w0 w' P a cap d most E by
    cases E with
    | ok x => exact hback _ _ _ _ hO
    | error k => obtain ⟨hk, q, o, h⟩ := hO; exact ⟨hk, q, o, hback _ _ _ _ h⟩))
  clear h h3 hd hd3 X1 X2 hTnew hback hcells hdcells g12 g23 g13 e1 e2
  go_wp2_with fail
  refine Calls.mono C3 ?_
  rintro e w4 ⟨rfl, hO⟩
  go_wp2_with fail
  exact HQ.out _ _ _ _ _ _ _ _ _ _ _ _ _ (HB.out _ hO)
end
end Go.Proofs.Ytaapnjhkflpiiaa
namespace Go.Proofs.Ytaapnjhkflpiiaa
open Go.RowKit Go.Mix

theorem bitN_val0 (d : List UInt8) (p b : Nat) (h : (bitN d p b).2.2 ≠ 0) : (bitN d p b).1 = 0 := by
  unfold bitN at h ⊢
  split
  · rfl
  · split
    · rename_i h1 h2
      rw [if_neg h1, if_pos h2] at h
      exact absurd rfl h
    · rfl
theorem two_dead (d : List UInt8) (p b : Nat) (h : (numN d p b 2).2.2 ≠ 0) : (numN d p b 2).1 < 2 := by
  have h1 := numN_lt d p b 1
  have h2 : (bitN d (numN d p b 1).2.1 (numN d p b 1).2.2).2.2 ≠ 0 := h
  have h3 := bitN_val0 _ _ _ h2
  show (numN d p b 1).1 + 2 ^ 1 * (bitN d (numN d p b 1).2.1 (numN d p b 1).2.2).1 < 2
  rw [h3]
  omega
theorem raw_step {d : List UInt8} {most : Int} {f q : Nat} {o : List UInt8} (hq : q ≤ 8 * d.length) :
    rawGo d most (f + 1) q o = (fun (L : Nat × Nat × Nat) => (fun (N : Nat × Nat × Nat) => match deadOr N.2.2 (blockR d most N.1 N.2.1 o) with
      | .error e => .error e
      | .ok (p3, o') => if L.1 = 1 then .ok (p3, o') else rawGo d most f p3 o') (numN d L.2.1 L.2.2 2)) (bitN d q 0) := by
  rw [rawGo]
  by_cases hlt : q < 8 * d.length
  · rw [num_one d q hlt, bitN_live hlt]
    simp only
    rcases num_or d (q + 1) 2 (by omega) with ⟨n, q1, h1, h2, h3, h4⟩ | ⟨h1, h2⟩
    · rw [h1, h2]
      simp only [deadOr_live]
      cases blockR d most n q1 o <;> rfl
    · have e : (numN d (q + 1) 0 2).2.2 = 3 := by rw [h2]
      rw [h1]
      simp only [e, deadOr_dead (show (3 : Nat) ≠ 0 by decide)]
  · rw [num_one_err d q hlt, bitN_out (by omega)]
    simp only [show stopN 0 3 = 3 from rfl, numN_bad d _ 3 (by decide), deadOr_dead (show (3 : Nat) ≠ 0 by decide)]

noncomputable def rawLast : Code := ((Try.f23.body.bind (tailAt 23)).getD .skip)

set_option maxRecDepth 100000 in
set_option maxHeartbeats 2000000 in
theorem raw_last {w w1 wr : World} {a : Option Addr} {cap : Nat} {d : List UInt8} {most : Int} {A q bd : Nat} {o : List UInt8} {R : Except Nat (Nat × List UInt8)} (hE : rawOf d most = rawEnd R) (hb : Below A w w1) (hA : w.heap.size = A)
    (hI : RefS (· < A) w1 wr A a cap d most q o bd) (hR : (bd = 0 ∧ R = .ok (q, o)) ∨ (bd ≠ 0 ∧ R = .error bd)) (hsm : d.length ≤ 100000000) (u0 u1 u2 u3 u4 u5 u6 u8 u9 u10 u11 u12 u13 u14 u15 u16 u17 u18 u19 u20 u21 u22 u23 u24 u25 u26 u27 u28 u29 u30 u31 u32 u33 u34 u35 u36 u37 u38 u39 u40 u41 u42 u43 u44 u45 u46 u47 u48 u49 u50 u51 u52 u53 u54 u55 u56 u57 u58 u59 u60 u61 u62 u63 u64 u65 u66 u67 u68 u69 u70 u71 u72 u73 u74 u75 u76 u77 u78 u79 u80 u81 u82 u83 u84 u85 u86 u87 u88 u89 u90 u91 u92 u93 u94 u95 u96 u97 u98 u99 u100 u101 u102 u103 u104 u105 u106 u107 u108 u109 : Value) :
    Code.wp Try.prog rawLast (bodyPost Try.prog Try.f23 (RawEnds d most w)) ⟨#[u0, u1, u2, u3, u4, u5, u6, .pointer (some ⟨A, 0, none⟩), u8, u9, u10, u11, u12, u13, u14, u15, u16, u17, u18, u19, u20, u21, u22, u23, u24, u25, u26, u27, u28, u29, u30, u31, u32, u33, u34, u35, u36, u37, u38, u39, u40, u41, u42, u43, u44, u45, u46, u47, u48, u49, u50, u51, u52, u53, u54, u55, u56, u57, u58, u59, u60, u61, u62, u63, u64, u65, u66, u67, u68, u69, u70, u71, u72, u73, u74, u75, u76, u77, u78, u79, u80, u81, u82, u83, u84, u85, u86, u87, u88, u89, u90, u91, u92, u93, u94, u95, u96, u97, u98, u99, u100, u101, u102, u103, u104, u105, u106, u107, u108, u109], []⟩ wr := by
  conv => arg 2; whnf
  obtain ⟨v, hIv⟩ := hI
  obtain ⟨av, cv, hv, hsl⟩ := hIv.row.sl
  obtain ⟨-, c1, c2, -, c4⟩ := five_cells hIv.blk
  have hb2 : Below A w wr := hb.trans (hIv.row.frame.toBelow fun k hk => hk)
  have hoff : ∀ x, av = some x → o.length ≤ cv ∧ A ≤ x.block := fun x hx => by
    refine ⟨hsl.le, ?_⟩
    have := hIv.row.off x.block (by rw [hv, hx]; rfl)
    omega
  subst hv
  have hpl := hIv.le
  rcases hR with ⟨rfl, hR⟩ | ⟨hbd, hR⟩
  · have HE := Lib.hid (show rawOf d most = (o, (q + 7) / 8, 0) by rw [hE, hR]; rfl)
    have k1 : ∀ y : Later wr, y.1.cell? ⟨A, 1, none⟩ = some (.int .i64 (q : Int)) := fun y => (five_cells (block_below hIv.blk y.2)).2.1
    have k2 : ∀ y : Later wr, y.1.cell? ⟨A, 2, none⟩ = some (.slice av o.length cv) := fun y => (five_cells (block_below hIv.blk y.2)).2.2.1
    have w1' : IntKind.i64.wrap ((q : Int) + 7) = (q : Int) + 7 := IntWalk.i64_in _ (by omega)
    have w2' : IntKind.i64.wrap (((q : Int) + 7).tdiv 8) = (((q + 7) / 8 : Nat) : Int) := by
      rw [Int.tdiv_eq_ediv_of_nonneg (by omega), IntWalk.i64_in _ (by omega)]
      omega
    clear hE hR hIv c1 c2
    go_upto_region 25 with (fail)
    refine wp_region_mix [(0, 0), (1, 0), (2, 0), (3, 0), (4, 0), (5, 0), (6, 0), (7, 0), (8, 0), (9, 0), (10, 0), (11, 0), (12, 0)] (by kernel_rfl) (by kernel_rfl) ?_
    iterate 13 (refine mix_calm rfl (fun K hK => ?_); go_simp; (refine hK _ ?_; clear hK K))
    refine mix_nil fun w2 hw2 => ?_
    go_wp2_with fail
    go_ret3
    refine ⟨av, cv, ?_, ?_, ?_, fun x hx => ?_⟩
    · rw [HE.out]
      first | rfl | (simp only [w2'])
    · rw [HE.out]; exact hsl.below hw2
    · rw [hA]; exact hb2.trans (hw2.mono (hA ▸ hb2.size))
    · rw [hA]; exact (hoff x hx).2
  · have HE := Lib.hid (show rawOf d most = ([], 0, bd) by rw [hE, hR]; rfl)
    have t1 : ((bd : Int) != 0) = true := by rw [bne_iff_ne]; omega
    have k4 : ∀ y : Later wr, y.1.cell? ⟨A, 4, none⟩ = some (.int .i64 (bd : Int)) := fun y => (five_cells (block_below hIv.blk y.2)).2.2.2.2
    clear hE hR hIv c1 c2
    go_upto_region 24 with (fail)
    refine wp_region_mix [(0, 0), (1, 0), (2, 0), (3, 0), (4, 0), (5, 0), (6, 0)] (by kernel_rfl) (by kernel_rfl) ?_
    iterate 7 (refine mix_calm rfl (fun K hK => ?_); go_simp; (refine hK _ ?_; clear hK K))
    refine mix_nil fun w2 hw2 => ?_
    go_wp2_with fail
    go_ret3
    refine ⟨none, 0, ?_, ?_, ?_, fun x hx => by cases hx⟩
    · rw [HE.out]; rfl
    · rw [HE.out]; exact ⟨.inl rfl, Nat.le_refl _, by decide, fun _ => rfl⟩
    · rw [hA]; exact hb2.trans (hw2.mono (hA ▸ hb2.size))

set_option maxRecDepth 100000 in
set_option maxHeartbeats 2000000 in
theorem refRaw_any (w : World) (a : Option Addr) (cap : Nat) (d : List UInt8) (most : Int) (hs : Sl w a cap d) (hsm : d.length ≤ 100000000) (hroom : most ≤ 1000000) :
    Calls Try.prog 23 #[.slice a d.length cap, .int .i64 most] w (RawEnds d most w) := by
  obtain ⟨R, hR⟩ : ∃ R, R = rawGo d most (8 * d.length + 1) 0 [] := ⟨_, rfl⟩
  have hE : rawOf d most = rawEnd R := by rw [rawOf_end, hR]
  have HR := Lib.hid hR
  have HE := Lib.hid hE
  clear hR hE
  go_enter Try.func23, Try.ntmps23
  go_wp2_with fail
  have hP : (w.alloc (.cells #[.slice a d.length cap, .int .i64 0, .slice none 0 0, .int .i64 most, .int .i64 0] 67)).heap[w.heap.size]? = some _ := heap_alloc_last w _ _ rfl
  have hbw : Below w.heap.size w (w.alloc (.cells #[.slice a d.length cap, .int .i64 0, .slice none 0 0, .int .i64 most, .int .i64 0] 67)) := (Below.refl _ _).alloc (Nat.le_refl _) _
  have hsz := hbw.size
  generalize w.alloc (.cells #[.slice a d.length cap, .int .i64 0, .slice none 0 0, .int .i64 most, .int .i64 0] 67) = w1 at *
  obtain ⟨A, hAe⟩ : ∃ A, w.heap.size = A := ⟨_, rfl⟩
  rw [hAe] at hP hbw hsz ⊢
  have hFT : FrameS (· < A) w1 w1 := FrameS.refl fun k hk => by omega
  have hI1 : RefS (· < A) w1 w1 A a cap d most 0 [] 0 := ⟨.slice none 0 0, hP, Row.nil hFT, by omega, by simp, by omega, by omega⟩
  have hd : Fits (· < A) w1 a cap d most := ⟨⟨hs.below (hAe ▸ hbw), fun x hx hl => by
    rcases hs.bs with h1 | ⟨b, off, e, hc⟩
    · exact absurd h1 hl
    · rw [hx] at e
      injection e with e
      subst e
      have := lt_of_cell (hc 0 (by cases d with | nil => exact absurd rfl hl | cons _ _ => simp))
      show b < A
      simp at this
      omega⟩, hsm, hroom⟩
  have HAe := Lib.hid hAe
  clear hs hAe hP hFT hsz
  go_loopw [8] (fun _ wr => ∃ (q : Nat) (o : List UInt8) (bd : Nat), RefS (· < A) w1 wr A a cap d most q o bd ∧ ((bd = 0 ∧ ∃ f, rawGo d most f q o = R ∧ 8 * d.length < q + f) ∨ (bd ≠ 0 ∧ R = .error bd))) (fun _ wr => refLeft A (8 * d.length) wr)
  case atStart => exact ⟨0, [], 0, hI1, .inl ⟨rfl, _, HR.out.symm, by omega⟩⟩
  case round =>
    clear hI1
    obtain ⟨q, o, bd, hI, hcase⟩ := hrel
    have hleft := Lib.hid (hI.left (8 * d.length))
    obtain ⟨v, hIv⟩ := id hI
    have hql := hIv.le
    obtain ⟨-, -, -, -, c4⟩ := five_cells hIv.blk
    clear hIv
    rcases hcase with ⟨rfl, f, hgo, hf⟩ | ⟨hb, hRe⟩
    · cases f with
      | zero => omega
      | succ f =>
      rw [raw_step hql] at hgo
      have C1 := refBit_any hd hI
      have hlb := bitN_lt d q 0
      have hq1 : (bitN d q 0).2.2 = 0 → (bitN d q 0).2.1 = q + 1 := by
        by_cases hlt : q < 8 * d.length
        · rw [bitN_live hlt]; intro _; rfl
        · rw [bitN_out (by omega)]; intro h; exact absurd (show (3 : Nat) = 0 from h) (by decide)
      generalize bitN d q 0 = L at *
      obtain ⟨lb, q1, b1⟩ := L
      simp only at C1 hlb hgo hq1
      clear hI
      go_wp2_with fail
      refine C1.mono ?_
      rintro e w2 ⟨rfl, h2⟩
      clear C1 c4
      have C2 := refNumber_any hd h2 2 2 rfl (by decide)
      have ht := numN_lt d q1 b1 2
      have htd := two_dead d q1 b1
      have hq2 : (numN d q1 b1 2).2.2 = 0 → q < (numN d q1 b1 2).2.1 := by
        intro h
        by_cases hb1 : b1 = 0
        · subst hb1
          have hp1 : q1 ≤ 8 * d.length := by obtain ⟨_, h⟩ := h2; exact h.le
          rcases num_or d q1 2 hp1 with ⟨n, q2, h1, h3, h4, h5⟩ | ⟨h1, h3⟩
          · rw [h3]; have := hq1 rfl; show q < q2; omega
          · have e : (numN d q1 0 2).2.2 = 3 := by rw [h3]
            rw [e] at h; cases h
        · rw [numN_bad d q1 b1 hb1] at h
          exact absurd h hb1
      generalize numN d q1 b1 2 = N at *
      obtain ⟨t, q2, b2⟩ := N
      simp only at C2 ht htd hgo hq2
      have ht4 : t < 4 := ht
      have HGO := Lib.hid hgo
      have HQ2 := Lib.hid hq2
      obtain ⟨E, hE⟩ : ∃ E, E = deadOr b2 (blockR d most t q2 o) := ⟨_, rfl⟩
      have HEE := Lib.hid hE
      clear hgo ht h2 hq1 hq2 hE
      go_wp2_with fail
      refine C2.mono ?_
      rintro e w3 ⟨rfl, h3⟩
      clear C2
      have hq2l : q2 ≤ 8 * d.length := by obtain ⟨_, h⟩ := h3; exact h.le
      go_upto_block 2 with (fail)
      go_cut [8] from 27 to 89 (fun s8 wc => s8 = .int .i64 (lb : Int) ∧ RefOut (· < A) w1 wc A a cap d most E)
      case first =>
        clear hleft HGO HQ2
        by_cases h0 : t = 0
        · subst h0
          go_upto_if 29 with (fail)
          refine wp_cond_split rfl (fun _ => ?_) (fun h => ?_)
          rotate_left
          · cases h
          refine raw_stored hd h3 (E := E) HEE.out _ _ _ _ _ _ _ _ _ _ _ _ _ _ _ _ _ _ _ _ _ _ _ _ _ _ _ _ _ _ _ _ _ _ _ _ _ _ _ _ _ _ _ _ _ _ _ _ _ _ _ _ _ _ _ _ _ _ _ _ _ _ _ _ _ _ _ _ _ _ _ _ _ _ _ _ _ _ _ _ _ _ _ _ _ _ _ _ _ _ _ _ _ _ _ _ _ _ _ _ _ _ _ _ _ _ _ _ _ (fun u9 u10 u11 u31 u32 u33 u34 u35 u36 u37 u38 u39 u40 u41 u42 u43 u44 u45 u46 u47 u48 u49 u50 u51 u52 u53 u54 u55 u56 u57 u58 u59 u60 u61 u62 u63 u64 u65 u66 u67 u68 u69 u70 u71 u72 wc hO => ?_)
          go_wp2_with fail
          go_meet
          case rel => exact ⟨rfl, hO⟩
        · have v0 : ((t : Int) == 0) = false := by rw [beq_eq_false_iff_ne]; omega
          by_cases h1 : t = 1
          · subst h1
            go_upto_if 73 with (fail)
            refine wp_cond_split rfl (fun _ => ?_) (fun h => ?_)
            rotate_left
            · cases h
            refine raw_fixed hd h3 (E := E) HEE.out _ _ _ _ _ _ _ _ _ _ _ _ _ _ _ _ _ _ _ _ _ _ _ _ _ _ _ _ _ _ _ _ _ _ _ _ _ _ _ _ _ _ _ _ _ _ _ _ _ _ _ _ _ _ _ _ _ _ _ _ _ _ _ _ _ _ _ _ _ _ _ _ _ _ _ _ _ _ _ _ _ _ _ _ _ _ _ _ _ _ _ _ _ _ _ _ _ _ _ _ _ _ _ _ _ _ _ _ _ (fun u12 u13 u75 u76 u77 u78 u79 u80 u81 u82 u83 u84 wc hO => ?_)
            go_wp2_with fail
            go_meet
            case rel => exact ⟨rfl, hO⟩
          · have v1 : ((t : Int) == 1) = false := by rw [beq_eq_false_iff_ne]; omega
            have hb2 : b2 = 0 := by
              by_cases h : b2 = 0
              · exact h
              · have := htd h; omega
            subst hb2
            by_cases h2 : t = 2
            · subst h2
              have C := refTold_any hd h3
              have HE2 := Lib.hid (show E = (match toldR d q2 with
                | .error e => .error e
                | .ok (cl, cd, p') => signsR d most cl cd (8 * d.length + 1) p' o) from HEE.out)
              go_wp2_with fail
              refine Calls.mono C ?_
              rintro e w4 ⟨rfl, hO⟩
              clear C
              go_wp2_with fail
              go_meet
              case rel => exact ⟨rfl, by rw [HE2.out]; exact hO⟩
            · have v2 : ((t : Int) == 2) = false := by rw [beq_eq_false_iff_ne]; omega
              have HE2 := Lib.hid (show E = .error 4 by
                rw [HEE.out, deadOr_live]
                unfold blockR
                rw [if_neg h0, if_neg h1, if_neg h2])
              go_wp2_with fail
              refine (stop_any h3 4 4 rfl (by decide)).mono ?_
              rintro e w4 ⟨rfl, h4⟩
              go_wp2_with fail
              go_meet
              case rel => exact ⟨rfl, by rw [HE2.out]; exact ⟨by decide, _, _, h4⟩⟩
      case rest =>
        clear h3
        obtain ⟨rfl, hO⟩ := hcut
        have hgo := HGO.out
        simp only [← HEE.out] at hgo
        by_cases hl1 : lb = 1
        · subst hl1
          go_upto_if 90 with (fail)
          refine wp_cond_split rfl (fun _ => ?_) (fun h => ?_)
          rotate_left
          · cases h
          refine wp_exit ?_
          refine ‹∀ (a : Act) (w : World), Code.wp Try.prog _ _ a w → _› _ _ ?_
          cases E with
          | ok x =>
            obtain ⟨q3, o3⟩ := x
            exact raw_last HE.out (HAe.out ▸ hbw) HAe.out hO (.inl ⟨rfl, hgo.symm⟩) hsm _ _ _ _ _ _ _ _ _ _ _ _ _ _ _ _ _ _ _ _ _ _ _ _ _ _ _ _ _ _ _ _ _ _ _ _ _ _ _ _ _ _ _ _ _ _ _ _ _ _ _ _ _ _ _ _ _ _ _ _ _ _ _ _ _ _ _ _ _ _ _ _ _ _ _ _ _ _ _ _ _ _ _ _ _ _ _ _ _ _ _ _ _ _ _ _ _ _ _ _ _ _ _ _ _ _ _ _ _
          | error k =>
            obtain ⟨hk, q3, o3, h4⟩ := hO
            exact raw_last HE.out (HAe.out ▸ hbw) HAe.out h4 (.inr ⟨hk, hgo.symm⟩) hsm _ _ _ _ _ _ _ _ _ _ _ _ _ _ _ _ _ _ _ _ _ _ _ _ _ _ _ _ _ _ _ _ _ _ _ _ _ _ _ _ _ _ _ _ _ _ _ _ _ _ _ _ _ _ _ _ _ _ _ _ _ _ _ _ _ _ _ _ _ _ _ _ _ _ _ _ _ _ _ _ _ _ _ _ _ _ _ _ _ _ _ _ _ _ _ _ _ _ _ _ _ _ _ _ _ _ _ _ _
        · go_upto_if 90 with (fail)
          refine wp_cond_split rfl (fun h => ?_) (fun h => ?_)
          · rw [beq_iff_eq] at h; omega
          clear h
          cases E with
          | ok x =>
            obtain ⟨q3, o3⟩ := x
            have hO2 : RefS (· < A) w1 wc A a cap d most q3 o3 0 := hO
            have hleft2 := Lib.hid (hO2.left (8 * d.length))
            have HGO2 := Lib.hid ((if_neg hl1).symm.trans hgo)
            have hE2 := HEE.out
            have hlt : q < q3 := by
              by_cases hb2 : b2 = 0
              · have h1 := HQ2.out hb2
                rw [hb2, deadOr_live] at hE2
                have := (blockR_le hE2.symm hq2l).1
                omega
              · rw [deadOr_dead hb2] at hE2; cases hE2
            clear hE2 hgo hO
            go_wp2_with fail
            go_roundw
            case rel => exact ⟨q3, o3, 0, hO2, .inl ⟨rfl, f, HGO2.out, by omega⟩⟩
            case measure =>
              have := hO2.choose_spec.le
              rw [hleft.out, hleft2.out]; simp; omega
          | error k =>
            obtain ⟨hk, q3, o3, h4⟩ := hO
            have hleft2 := Lib.hid (h4.left (8 * d.length))
            have HGO2 := Lib.hid hgo
            clear hgo
            go_wp2_with fail
            go_roundw
            case rel => exact ⟨q3, o3, k, h4, .inr ⟨hk, HGO2.out.symm⟩⟩
            case measure => rw [hleft.out, hleft2.out, if_neg hk]; simp; omega
    · have t1 : ((bd : Int) == 0) = false := by rw [beq_eq_false_iff_ne]; omega
      go_upto_if 22 with (fail)
      refine wp_cond_split rfl (fun h => ?_) (fun _ => ?_)
      · cases h
      refine wp_exit ?_
      refine ‹∀ (a : Act) (w : World), Code.wp Try.prog _ _ a w → _› _ _ ?_
      exact raw_last HE.out (HAe.out ▸ hbw) HAe.out hI (.inr ⟨hb, hRe⟩) hsm _ _ _ _ _ _ _ _ _ _ _ _ _ _ _ _ _ _ _ _ _ _ _ _ _ _ _ _ _ _ _ _ _ _ _ _ _ _ _ _ _ _ _ _ _ _ _ _ _ _ _ _ _ _ _ _ _ _ _ _ _ _ _ _ _ _ _ _ _ _ _ _ _ _ _ _ _ _ _ _ _ _ _ _ _ _ _ _ _ _ _ _ _ _ _ _ _ _ _ _ _ _ _ _ _ _ _ _ _
end Go.Proofs.Ytaapnjhkflpiiaa
