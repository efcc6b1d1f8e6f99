/-
  MarksFinds: its last test.
-/
import Derived.Test.YtnlkanhakmkejaaKnown24
import Derived.Test.YtnlkanhakmkejaaMixG
namespace Go.Proofs.Ytnlkanhakmkejaa
open Go.RowKit Go.Mix Go.WideMaps Go.Proofs

/-- A function's region by its number. -/
def regionAt (k : Nat) : Code → Option Code
  | .region id l d => if id == k then some (.region id l d) else none
  | .seq a b => match regionAt k a with
    | some c => some c
    | none => regionAt k b
  | .loop c => regionAt k c
  | .block _ c => regionAt k c
  | .scope c => regionAt k c
  | .cond _ a b => match regionAt k a with
    | some c => some c
    | none => regionAt k b
  | _ => none
noncomputable def finds12 : Code := ((Try.f4.body.bind (regionAt 12)).getD .skip)
theorem eq_id_same {k : Nat} (A : ArrKey Try.prog k 5 20) (x : Id20) (w : World) : (Op.equalIn 10000 k (.agg (idA x)) (.agg (idA x))).run Try.prog w = .ok true w := by
  rw [eq_id_run A, decide_eq_true rfl]

set_option maxRecDepth 100000 in
set_option maxHeartbeats 8000000 in
theorem finds_00 {w8 : World} {x z : Id20} {am : Option Addr} {n cm B9 B11 : Nat} {Q : Exit → Act → World → Prop}
    (L9 : ∀ y : Later w8, (Instr.loadAt 30 (.pointer (some ⟨B9, 0, none⟩))).run Try.prog y.1 = .ok (.agg (idA x)) y.1)
    (L11 : ∀ y : Later w8, (Instr.loadAt 30 (.pointer (some ⟨B11, 0, none⟩))).run Try.prog y.1 = .ok (.agg (idA z)) y.1)
    (hx : x = id0)
    (hz : z = id0)
    (u0 u1 u2 u3 u4 u8 u13 u14 u15 u16 u17 u18 u19 u20 u21 u22 u23 u24 u25 u26 u27 u28 u29 u30 u31 u32 u33 u34 u35 u36 u37 u38 u39 u40 u41 u42 u43 u44 u45 u46 u47 u48 u49 u50 u51 u52 u53 u54 u55 u56 u57 u58 u59 u60 u61 u62 u63 u64 u65 u66 u67 u68 u69 u70 u71 u72 u73 u74 u75 u76 u77 u78 u79 u80 u81 u82 u83 u84 u85 u86 u87 u88 u89 u90 u91 u92 u93 u94 u95 u96 u97 u98 u99 u100 u101 u102 u103 u104 u105 u106 : Value)
    (hQ : ∀ a w9, Grow w8 w9 → a.tmps[4]? = some (.bool true) → a.defers = [] → Q .normal a w9) :
    Code.wp Try.prog finds12 Q
      ⟨#[u0, u1, u2, u3, u4, .slice am n cm, .int .i64 (-1), .int .i64 (-1), u8, .pointer (some ⟨B9, 0, none⟩), .bool false, .pointer (some ⟨B11, 0, none⟩), .bool false, u13, u14, u15, u16, u17, u18, u19, u20, u21, u22, u23, u24, u25, u26, u27, u28, u29, u30, u31, u32, u33, u34, u35, u36, u37, u38, u39, u40, u41, u42, u43, u44, u45, u46, u47, u48, u49, u50, u51, u52, u53, u54, u55, u56, u57, u58, u59, u60, u61, u62, u63, u64, u65, u66, u67, u68, u69, u70, u71, u72, u73, u74, u75, u76, u77, u78, u79, u80, u81, u82, u83, u84, u85, u86, u87, u88, u89, u90, u91, u92, u93, u94, u95, u96, u97, u98, u99, u100, u101, u102, u103, u104, u105, u106], []⟩ w8 := by
  conv => arg 2; whnf
  have E1 := eq_id_same arrG x
  have E2 := eq_id_same arrG z
  have G := fun op a b p q => tyG.eqF.2 op a b p q
  simp only [] at G
  have BZ : ∀ w, (Instr.build 30 ([] : List (Nat × Value)).toArray).run Try.prog w = .ok (.agg (idA id0)) w := fun w => by kernel_rfl
  subst hx hz
  generalize id0 = z0 at *
  refine wp_region_mg [(0, 0), (1, 0), (2, 0), (3, 0), (4, 0), (5, 0), (6, 0), (7, 0), (8, 0), (9, 0), (10, 0), (11, 0), (12, 0), (13, 0), (14, 0), (15, 0), (16, 0), (17, 0), (18, 0), (19, 0), (20, 0), (21, 0), (22, 0), (23, 0), (24, 0), (25, 0), (26, 0), (27, 0), (28, 0), (29, 0), (30, 0), (31, 0), (32, 0), (33, 0), (34, 0), (35, 0), (36, 0), (37, 0), (38, 0), (39, 0), (40, 0), (41, 0), (42, 0), (43, 0), (44, 0), (45, 0), (46, 0), (47, 0), (48, 0), (49, 0), (50, 0), (51, 0), (52, 0), (53, 0), (54, 0), (55, 0), (56, 0), (57, 0)] (by kernel_rfl) (by kernel_rfl) ?_
  refine mg_calm rfl (fun K hK => ?_)
  go_simp
  apply Exists.intro
  refine ⟨fun y => known_any y.1, hK _ ?_⟩
  clear hK K
  iterate 57 (first | (refine mg_load rfl rfl _ _ rfl _ _ rfl L9 ?_) | (refine mg_load rfl rfl _ _ rfl _ _ rfl L11 ?_) | (refine mg_build rfl rfl _ _ rfl [] _ rfl BZ ?_) | (refine mg_calm rfl (fun K hK => ?_); go_simp; (refine hK _ ?_; clear hK K)))
  exact mg_nil fun w9 hw9 => hQ _ w9 hw9 rfl rfl

set_option maxRecDepth 100000 in
set_option maxHeartbeats 8000000 in
theorem finds_01 {w8 : World} {x z : Id20} {am : Option Addr} {n cm B9 B11 k2 b2 q2 : Nat} {Q : Exit → Act → World → Prop}
    (L9 : ∀ y : Later w8, (Instr.loadAt 30 (.pointer (some ⟨B9, 0, none⟩))).run Try.prog y.1 = .ok (.agg (idA x)) y.1)
    (L11 : ∀ y : Later w8, (Instr.loadAt 30 (.pointer (some ⟨B11, 0, none⟩))).run Try.prog y.1 = .ok (.agg (idA z)) y.1)
    (hx : x = id0)
    (IX2 : ∀ W : World, (Instr.indexAt 23 (.slice am n cm) (.int .i64 (k2 : Int))).run Try.prog W = .ok (.pointer (some ⟨b2, q2, none⟩)) W)
    (LK2 : ∀ y : Later w8, (Instr.loadAt 30 (.pointer (some ⟨b2, q2, none⟩))).run Try.prog y.1 = .ok (.agg (idA z)) y.1)
    (u0 u1 u2 u3 u4 u8 u13 u14 u15 u16 u17 u18 u19 u20 u21 u22 u23 u24 u25 u26 u27 u28 u29 u30 u31 u32 u33 u34 u35 u36 u37 u38 u39 u40 u41 u42 u43 u44 u45 u46 u47 u48 u49 u50 u51 u52 u53 u54 u55 u56 u57 u58 u59 u60 u61 u62 u63 u64 u65 u66 u67 u68 u69 u70 u71 u72 u73 u74 u75 u76 u77 u78 u79 u80 u81 u82 u83 u84 u85 u86 u87 u88 u89 u90 u91 u92 u93 u94 u95 u96 u97 u98 u99 u100 u101 u102 u103 u104 u105 u106 : Value)
    (hQ : ∀ a w9, Grow w8 w9 → a.tmps[4]? = some (.bool true) → a.defers = [] → Q .normal a w9) :
    Code.wp Try.prog finds12 Q
      ⟨#[u0, u1, u2, u3, u4, .slice am n cm, .int .i64 (-1), .int .i64 (k2 : Int), u8, .pointer (some ⟨B9, 0, none⟩), .bool false, .pointer (some ⟨B11, 0, none⟩), .bool true, u13, u14, u15, u16, u17, u18, u19, u20, u21, u22, u23, u24, u25, u26, u27, u28, u29, u30, u31, u32, u33, u34, u35, u36, u37, u38, u39, u40, u41, u42, u43, u44, u45, u46, u47, u48, u49, u50, u51, u52, u53, u54, u55, u56, u57, u58, u59, u60, u61, u62, u63, u64, u65, u66, u67, u68, u69, u70, u71, u72, u73, u74, u75, u76, u77, u78, u79, u80, u81, u82, u83, u84, u85, u86, u87, u88, u89, u90, u91, u92, u93, u94, u95, u96, u97, u98, u99, u100, u101, u102, u103, u104, u105, u106], []⟩ w8 := by
  conv => arg 2; whnf
  have E1 := eq_id_same arrG x
  have E2 := eq_id_same arrG z
  have G := fun op a b p q => tyG.eqF.2 op a b p q
  simp only [] at G
  have BZ : ∀ w, (Instr.build 30 ([] : List (Nat × Value)).toArray).run Try.prog w = .ok (.agg (idA id0)) w := fun w => by kernel_rfl
  subst hx
  generalize id0 = z0 at *
  have tgb : decide ((k2 : Int) ≥ 0) = true := decide_eq_true (by omega)
  have tlb : decide ((k2 : Int) < 0) = false := decide_eq_false (by omega)
  have tgb' : decide (0 ≤ (k2 : Int)) = true := decide_eq_true (by omega)
  refine wp_region_mg [(0, 0), (1, 0), (2, 0), (3, 0), (4, 0), (5, 0), (6, 0), (7, 0), (8, 0), (9, 0), (10, 0), (11, 0), (12, 0), (13, 0), (14, 0), (15, 0), (16, 0), (17, 0), (18, 0), (19, 0), (20, 0), (21, 0), (22, 0), (23, 0), (24, 0), (25, 0), (26, 0), (27, 0), (28, 0), (29, 0), (30, 0), (31, 0), (32, 0), (33, 0), (34, 0), (35, 0), (36, 0), (37, 0), (38, 0), (39, 0), (40, 0), (41, 0), (42, 0), (43, 0), (44, 0), (45, 0), (46, 0), (47, 0), (48, 0), (49, 0), (50, 0), (51, 0), (52, 0), (53, 0), (54, 0), (55, 0), (56, 0), (57, 0)] (by kernel_rfl) (by kernel_rfl) ?_
  refine mg_calm rfl (fun K hK => ?_)
  go_simp
  apply Exists.intro
  refine ⟨fun y => known_any y.1, hK _ ?_⟩
  clear hK K
  iterate 57 (first | (refine mg_load rfl rfl _ _ rfl _ _ rfl L9 ?_) | (refine mg_load rfl rfl _ _ rfl _ _ rfl L11 ?_) | (refine mg_load rfl rfl _ _ rfl _ _ rfl LK2 ?_) | (refine mg_build rfl rfl _ _ rfl [] _ rfl BZ ?_) | (refine mg_calm rfl (fun K hK => ?_); go_simp; (refine hK _ ?_; clear hK K)))
  exact mg_nil fun w9 hw9 => hQ _ w9 hw9 rfl rfl

set_option maxRecDepth 100000 in
set_option maxHeartbeats 8000000 in
theorem finds_10 {w8 : World} {x z : Id20} {am : Option Addr} {n cm B9 B11 k1 b1 q1 : Nat} {Q : Exit → Act → World → Prop}
    (L9 : ∀ y : Later w8, (Instr.loadAt 30 (.pointer (some ⟨B9, 0, none⟩))).run Try.prog y.1 = .ok (.agg (idA x)) y.1)
    (L11 : ∀ y : Later w8, (Instr.loadAt 30 (.pointer (some ⟨B11, 0, none⟩))).run Try.prog y.1 = .ok (.agg (idA z)) y.1)
    (IX1 : ∀ W : World, (Instr.indexAt 23 (.slice am n cm) (.int .i64 (k1 : Int))).run Try.prog W = .ok (.pointer (some ⟨b1, q1, none⟩)) W)
    (LK1 : ∀ y : Later w8, (Instr.loadAt 30 (.pointer (some ⟨b1, q1 + 20, none⟩))).run Try.prog y.1 = .ok (.agg (idA x)) y.1)
    (hz : z = id0)
    (u0 u1 u2 u3 u4 u8 u13 u14 u15 u16 u17 u18 u19 u20 u21 u22 u23 u24 u25 u26 u27 u28 u29 u30 u31 u32 u33 u34 u35 u36 u37 u38 u39 u40 u41 u42 u43 u44 u45 u46 u47 u48 u49 u50 u51 u52 u53 u54 u55 u56 u57 u58 u59 u60 u61 u62 u63 u64 u65 u66 u67 u68 u69 u70 u71 u72 u73 u74 u75 u76 u77 u78 u79 u80 u81 u82 u83 u84 u85 u86 u87 u88 u89 u90 u91 u92 u93 u94 u95 u96 u97 u98 u99 u100 u101 u102 u103 u104 u105 u106 : Value)
    (hQ : ∀ a w9, Grow w8 w9 → a.tmps[4]? = some (.bool true) → a.defers = [] → Q .normal a w9) :
    Code.wp Try.prog finds12 Q
      ⟨#[u0, u1, u2, u3, u4, .slice am n cm, .int .i64 (k1 : Int), .int .i64 (-1), u8, .pointer (some ⟨B9, 0, none⟩), .bool true, .pointer (some ⟨B11, 0, none⟩), .bool false, u13, u14, u15, u16, u17, u18, u19, u20, u21, u22, u23, u24, u25, u26, u27, u28, u29, u30, u31, u32, u33, u34, u35, u36, u37, u38, u39, u40, u41, u42, u43, u44, u45, u46, u47, u48, u49, u50, u51, u52, u53, u54, u55, u56, u57, u58, u59, u60, u61, u62, u63, u64, u65, u66, u67, u68, u69, u70, u71, u72, u73, u74, u75, u76, u77, u78, u79, u80, u81, u82, u83, u84, u85, u86, u87, u88, u89, u90, u91, u92, u93, u94, u95, u96, u97, u98, u99, u100, u101, u102, u103, u104, u105, u106], []⟩ w8 := by
  conv => arg 2; whnf
  have E1 := eq_id_same arrG x
  have E2 := eq_id_same arrG z
  have G := fun op a b p q => tyG.eqF.2 op a b p q
  simp only [] at G
  have BZ : ∀ w, (Instr.build 30 ([] : List (Nat × Value)).toArray).run Try.prog w = .ok (.agg (idA id0)) w := fun w => by kernel_rfl
  subst hz
  generalize id0 = z0 at *
  have tga : decide ((k1 : Int) ≥ 0) = true := decide_eq_true (by omega)
  have tla : decide ((k1 : Int) < 0) = false := decide_eq_false (by omega)
  have tga' : decide (0 ≤ (k1 : Int)) = true := decide_eq_true (by omega)
  refine wp_region_mg [(0, 0), (1, 0), (2, 0), (3, 0), (4, 0), (5, 0), (6, 0), (7, 0), (8, 0), (9, 0), (10, 0), (11, 0), (12, 0), (13, 0), (14, 0), (15, 0), (16, 0), (17, 0), (18, 0), (19, 0), (20, 0), (21, 0), (22, 0), (23, 0), (24, 0), (25, 0), (26, 0), (27, 0), (28, 0), (29, 0), (30, 0), (31, 0), (32, 0), (33, 0), (34, 0), (35, 0), (36, 0), (37, 0), (38, 0), (39, 0), (40, 0), (41, 0), (42, 0), (43, 0), (44, 0), (45, 0), (46, 0), (47, 0), (48, 0), (49, 0), (50, 0), (51, 0), (52, 0), (53, 0), (54, 0), (55, 0), (56, 0), (57, 0)] (by kernel_rfl) (by kernel_rfl) ?_
  refine mg_calm rfl (fun K hK => ?_)
  go_simp
  apply Exists.intro
  refine ⟨fun y => known_any y.1, hK _ ?_⟩
  clear hK K
  iterate 57 (first | (refine mg_load rfl rfl _ _ rfl _ _ rfl L9 ?_) | (refine mg_load rfl rfl _ _ rfl _ _ rfl L11 ?_) | (refine mg_load rfl rfl _ _ rfl _ _ rfl LK1 ?_) | (refine mg_build rfl rfl _ _ rfl [] _ rfl BZ ?_) | (refine mg_calm rfl (fun K hK => ?_); go_simp; (refine hK _ ?_; clear hK K)))
  exact mg_nil fun w9 hw9 => hQ _ w9 hw9 rfl rfl

set_option maxRecDepth 100000 in
set_option maxHeartbeats 8000000 in
theorem finds_11 {w8 : World} {x z : Id20} {am : Option Addr} {n cm B9 B11 k1 b1 q1 k2 b2 q2 : Nat} {Q : Exit → Act → World → Prop}
    (L9 : ∀ y : Later w8, (Instr.loadAt 30 (.pointer (some ⟨B9, 0, none⟩))).run Try.prog y.1 = .ok (.agg (idA x)) y.1)
    (L11 : ∀ y : Later w8, (Instr.loadAt 30 (.pointer (some ⟨B11, 0, none⟩))).run Try.prog y.1 = .ok (.agg (idA z)) y.1)
    (IX1 : ∀ W : World, (Instr.indexAt 23 (.slice am n cm) (.int .i64 (k1 : Int))).run Try.prog W = .ok (.pointer (some ⟨b1, q1, none⟩)) W)
    (LK1 : ∀ y : Later w8, (Instr.loadAt 30 (.pointer (some ⟨b1, q1 + 20, none⟩))).run Try.prog y.1 = .ok (.agg (idA x)) y.1)
    (IX2 : ∀ W : World, (Instr.indexAt 23 (.slice am n cm) (.int .i64 (k2 : Int))).run Try.prog W = .ok (.pointer (some ⟨b2, q2, none⟩)) W)
    (LK2 : ∀ y : Later w8, (Instr.loadAt 30 (.pointer (some ⟨b2, q2, none⟩))).run Try.prog y.1 = .ok (.agg (idA z)) y.1)
    (u0 u1 u2 u3 u4 u8 u13 u14 u15 u16 u17 u18 u19 u20 u21 u22 u23 u24 u25 u26 u27 u28 u29 u30 u31 u32 u33 u34 u35 u36 u37 u38 u39 u40 u41 u42 u43 u44 u45 u46 u47 u48 u49 u50 u51 u52 u53 u54 u55 u56 u57 u58 u59 u60 u61 u62 u63 u64 u65 u66 u67 u68 u69 u70 u71 u72 u73 u74 u75 u76 u77 u78 u79 u80 u81 u82 u83 u84 u85 u86 u87 u88 u89 u90 u91 u92 u93 u94 u95 u96 u97 u98 u99 u100 u101 u102 u103 u104 u105 u106 : Value)
    (hQ : ∀ a w9, Grow w8 w9 → a.tmps[4]? = some (.bool true) → a.defers = [] → Q .normal a w9) :
    Code.wp Try.prog finds12 Q
      ⟨#[u0, u1, u2, u3, u4, .slice am n cm, .int .i64 (k1 : Int), .int .i64 (k2 : Int), u8, .pointer (some ⟨B9, 0, none⟩), .bool true, .pointer (some ⟨B11, 0, none⟩), .bool true, u13, u14, u15, u16, u17, u18, u19, u20, u21, u22, u23, u24, u25, u26, u27, u28, u29, u30, u31, u32, u33, u34, u35, u36, u37, u38, u39, u40, u41, u42, u43, u44, u45, u46, u47, u48, u49, u50, u51, u52, u53, u54, u55, u56, u57, u58, u59, u60, u61, u62, u63, u64, u65, u66, u67, u68, u69, u70, u71, u72, u73, u74, u75, u76, u77, u78, u79, u80, u81, u82, u83, u84, u85, u86, u87, u88, u89, u90, u91, u92, u93, u94, u95, u96, u97, u98, u99, u100, u101, u102, u103, u104, u105, u106], []⟩ w8 := by
  conv => arg 2; whnf
  have E1 := eq_id_same arrG x
  have E2 := eq_id_same arrG z
  have G := fun op a b p q => tyG.eqF.2 op a b p q
  simp only [] at G
  have tga : decide ((k1 : Int) ≥ 0) = true := decide_eq_true (by omega)
  have tla : decide ((k1 : Int) < 0) = false := decide_eq_false (by omega)
  have tga' : decide (0 ≤ (k1 : Int)) = true := decide_eq_true (by omega)
  have tgb : decide ((k2 : Int) ≥ 0) = true := decide_eq_true (by omega)
  have tlb : decide ((k2 : Int) < 0) = false := decide_eq_false (by omega)
  have tgb' : decide (0 ≤ (k2 : Int)) = true := decide_eq_true (by omega)
  refine wp_region_mg [(0, 0), (1, 0), (2, 0), (3, 0), (4, 0), (5, 0), (6, 0), (7, 0), (8, 0), (9, 0), (10, 0), (11, 0), (12, 0), (13, 0), (14, 0), (15, 0), (16, 0), (17, 0), (18, 0), (19, 0), (20, 0), (21, 0), (22, 0), (23, 0), (24, 0), (25, 0), (26, 0), (27, 0), (28, 0), (29, 0), (30, 0), (31, 0), (32, 0), (33, 0), (34, 0), (35, 0), (36, 0), (37, 0), (38, 0), (39, 0), (40, 0), (41, 0), (42, 0), (43, 0), (44, 0), (45, 0), (46, 0), (47, 0), (48, 0), (49, 0), (50, 0), (51, 0), (52, 0), (53, 0), (54, 0), (55, 0), (56, 0), (57, 0)] (by kernel_rfl) (by kernel_rfl) ?_
  refine mg_calm rfl (fun K hK => ?_)
  go_simp
  apply Exists.intro
  refine ⟨fun y => known_any y.1, hK _ ?_⟩
  clear hK K
  iterate 57 (first | (refine mg_load rfl rfl _ _ rfl _ _ rfl L9 ?_) | (refine mg_load rfl rfl _ _ rfl _ _ rfl L11 ?_) | (refine mg_load rfl rfl _ _ rfl _ _ rfl LK1 ?_) | (refine mg_load rfl rfl _ _ rfl _ _ rfl LK2 ?_) | (refine mg_calm rfl (fun K hK => ?_); go_simp; (refine hK _ ?_; clear hK K)))
  exact mg_nil fun w9 hw9 => hQ _ w9 hw9 rfl rfl
end Go.Proofs.Ytnlkanhakmkejaa
