/-
  MarksAdds: three of its regions.
-/
import Derived.Test.YtnlkanhakmkejaaAs24
import Derived.Test.YtnlkanhakmkejaaFindsLast
namespace Go.Proofs.Ytnlkanhakmkejaa
open Go.RowKit Go.Mix Go.WideMaps Go.Proofs

noncomputable def adds12Code : Code := ((Try.f3.body.bind (regionAt 12)).getD .skip)
set_option maxRecDepth 100000 in
set_option maxHeartbeats 8000000 in
theorem adds12 {w : World} {am an : Option Addr} {nm cm nn cn i k b1 q1 b2 q2 : Nat} {b : Bool} {p q : Pr} {Q : Exit → Act → World → Prop}
    (IX1 : ∀ W : World, (Instr.indexAt 23 (.slice an nn cn) (.int .i64 (k : Int))).run Try.prog W = .ok (.pointer (some ⟨b1, q1, none⟩)) W)
    (L1 : ∀ yy : Later w, (Instr.loadAt 32 (.pointer (some ⟨b1, q1, none⟩))).run Try.prog yy.1 = .ok (.agg (encA p)) yy.1)
    (IX2 : ∀ W : World, (Instr.indexAt 23 (.slice am nm cm) (.int .i64 (i : Int))).run Try.prog W = .ok (.pointer (some ⟨b2, q2, none⟩)) W)
    (L2 : ∀ yy : Later w, (Instr.loadAt 32 (.pointer (some ⟨b2, q2, none⟩))).run Try.prog yy.1 = .ok (.agg (encA q)) yy.1)
    (u0 u1 u2 u6 u7 u8 u10 u12 u13 u14 u15 u16 u17 u18 u19 u20 u21 u22 u23 u24 u25 u26 u27 u28 u29 u30 u31 u32 u33 u34 u35 u36 u37 u38 u39 u40 u41 u42 u43 u44 u45 u46 u47 u48 u49 u50 u51 u52 u53 u54 u55 u56 u57 u58 u59 u60 u61 u62 u63 u64 u65 u66 u67 u68 u69 u70 u71 u72 u73 u74 u75 u76 u77 u78 u79 u80 u81 u82 u83 u84 u85 u86 u87 u88 u89 u90 u91 u92 u93 u94 u95 u96 u97 u98 u99 u100 u101 u102 u103 u104 u105 u106 u107 u108 u109 u110 u111 u112 u113 u114 u115 u116 u117 u118 u119 u120 u121 u122 u123 u124 u125 u126 u127 u128 u129 u130 u131 u132 u133 u134 u135 u136 u137 u138 u139 u140 u141 u142 u143 u144 u145 u146 u147 u148 u149 u150 u151 u152 u153 u154 u155 u156 u157 u158 u159 u160 u161 u162 u163 u164 u165 u166 u167 u168 u169 u170 u171 u172 u173 u174 u175 u176 u177 u178 : Value)
    (hQ : ∀ (v42 v43 v44 v45 v46 v47 v48 v49 v50 v51 v52 v53 : Value) (w9 : World), Grow w w9 → Q .normal ⟨#[u0, u1, u2, .slice am nm cm, .slice an nn cn, .int .i64 (i : Int), u6, u7, u8, .bool (b || decide (p = q)), u10, .int .i64 (k : Int), u12, u13, u14, u15, u16, u17, u18, u19, u20, u21, u22, u23, u24, u25, u26, u27, u28, u29, u30, u31, u32, u33, u34, u35, u36, u37, u38, u39, u40, u41, v42, v43, v44, v45, v46, v47, v48, v49, v50, v51, v52, v53, u54, u55, u56, u57, u58, u59, u60, u61, u62, u63, u64, u65, u66, u67, u68, u69, u70, u71, u72, u73, u74, u75, u76, u77, u78, u79, u80, u81, u82, u83, u84, u85, u86, u87, u88, u89, u90, u91, u92, u93, u94, u95, u96, u97, u98, u99, u100, u101, u102, u103, u104, u105, u106, u107, u108, u109, u110, u111, u112, u113, u114, u115, u116, u117, u118, u119, u120, u121, u122, u123, u124, u125, u126, u127, u128, u129, u130, u131, u132, u133, u134, u135, u136, u137, u138, u139, u140, u141, u142, u143, u144, u145, u146, u147, u148, u149, u150, u151, u152, u153, u154, u155, u156, u157, u158, u159, u160, u161, u162, u163, u164, u165, u166, u167, u168, u169, u170, u171, u172, u173, u174, u175, u176, u177, u178], []⟩ w9) :
    Code.wp Try.prog adds12Code Q
      ⟨#[u0, u1, u2, .slice am nm cm, .slice an nn cn, .int .i64 (i : Int), u6, u7, u8, .bool b, u10, .int .i64 (k : Int), u12, u13, u14, u15, u16, u17, u18, u19, u20, u21, u22, u23, u24, u25, u26, u27, u28, u29, u30, u31, u32, u33, u34, u35, u36, u37, u38, u39, u40, u41, u42, u43, u44, u45, u46, u47, u48, u49, u50, u51, u52, u53, u54, u55, u56, u57, u58, u59, u60, u61, u62, u63, u64, u65, u66, u67, u68, u69, u70, u71, u72, u73, u74, u75, u76, u77, u78, u79, u80, u81, u82, u83, u84, u85, u86, u87, u88, u89, u90, u91, u92, u93, u94, u95, u96, u97, u98, u99, u100, u101, u102, u103, u104, u105, u106, u107, u108, u109, u110, u111, u112, u113, u114, u115, u116, u117, u118, u119, u120, u121, u122, u123, u124, u125, u126, u127, u128, u129, u130, u131, u132, u133, u134, u135, u136, u137, u138, u139, u140, u141, u142, u143, u144, u145, u146, u147, u148, u149, u150, u151, u152, u153, u154, u155, u156, u157, u158, u159, u160, u161, u162, u163, u164, u165, u166, u167, u168, u169, u170, u171, u172, u173, u174, u175, u176, u177, u178], []⟩ w := by
  conv => arg 2; whnf
  have E := tyG.eq_run p q
  have G := fun op x y => tyG.eqE.2 op x y p q
  simp only [] at G
  generalize decide (p = q) = d at *
  cases b
  · skip
    refine wp_region_mg [(0, 0), (1, 0), (2, 0), (3, 0), (4, 0), (5, 0), (6, 0), (7, 0), (8, 0), (9, 0), (10, 0), (11, 0), (12, 0)] (by kernel_rfl) (by kernel_rfl) ?_
    iterate 13 (first | (refine mg_load rfl rfl _ _ rfl _ _ rfl L1 ?_) | (refine mg_load rfl rfl _ _ rfl _ _ rfl L2 ?_) | (refine mg_calm rfl (fun K hK => ?_); go_simp; (refine hK _ ?_; clear hK K)))
    exact mg_nil fun w9 hw9 => hQ _ _ _ _ _ _ _ _ _ _ _ _ w9 hw9
  · skip
    refine wp_region_mg [(0, 0), (1, 0), (2, 0), (3, 0), (4, 0), (5, 0), (6, 0), (7, 0), (8, 0), (9, 0), (10, 0), (11, 0), (12, 0)] (by kernel_rfl) (by kernel_rfl) ?_
    iterate 13 (first | (refine mg_load rfl rfl _ _ rfl _ _ rfl L1 ?_) | (refine mg_load rfl rfl _ _ rfl _ _ rfl L2 ?_) | (refine mg_calm rfl (fun K hK => ?_); go_simp; (refine hK _ ?_; clear hK K)))
    exact mg_nil fun w9 hw9 => hQ _ _ _ _ _ _ _ _ _ _ _ _ w9 hw9

noncomputable def adds13Code : Code := ((Try.f3.body.bind (regionAt 13)).getD .skip)
set_option maxRecDepth 100000 in
set_option maxHeartbeats 8000000 in
theorem adds13 {w : World} {am an : Option Addr} {nm cm nn cn i k b1 q1 b2 q2 : Nat} {b : Bool} {p q : Pr} {Q : Exit → Act → World → Prop}
    (IX1 : ∀ W : World, (Instr.indexAt 23 (.slice an nn cn) (.int .i64 (k : Int))).run Try.prog W = .ok (.pointer (some ⟨b1, q1, none⟩)) W)
    (L1 : ∀ yy : Later w, (Instr.loadAt 30 (.pointer (some ⟨b1, q1, none⟩))).run Try.prog yy.1 = .ok (.agg (idA p.1)) yy.1)
    (L1b : ∀ yy : Later w, (Instr.loadAt 30 (.pointer (some ⟨b1, q1 + 20, none⟩))).run Try.prog yy.1 = .ok (.agg (idA p.2)) yy.1)
    (IX2 : ∀ W : World, (Instr.indexAt 23 (.slice am nm cm) (.int .i64 (i : Int))).run Try.prog W = .ok (.pointer (some ⟨b2, q2, none⟩)) W)
    (L2 : ∀ yy : Later w, (Instr.loadAt 30 (.pointer (some ⟨b2, q2, none⟩))).run Try.prog yy.1 = .ok (.agg (idA q.1)) yy.1)
    (L2b : ∀ yy : Later w, (Instr.loadAt 30 (.pointer (some ⟨b2, q2 + 20, none⟩))).run Try.prog yy.1 = .ok (.agg (idA q.2)) yy.1)
    (u0 u1 u2 u6 u7 u8 u9 u12 u13 u14 u15 u16 u17 u18 u19 u20 u21 u22 u23 u24 u25 u26 u27 u28 u29 u30 u31 u32 u33 u34 u35 u36 u37 u38 u39 u40 u41 u42 u43 u44 u45 u46 u47 u48 u49 u50 u51 u52 u53 u54 u55 u56 u57 u58 u59 u60 u61 u62 u63 u64 u65 u66 u67 u68 u69 u70 u71 u72 u73 u74 u75 u76 u77 u78 u79 u80 u81 u82 u83 u84 u85 u86 u87 u88 u89 u90 u91 u92 u93 u94 u95 u96 u97 u98 u99 u100 u101 u102 u103 u104 u105 u106 u107 u108 u109 u110 u111 u112 u113 u114 u115 u116 u117 u118 u119 u120 u121 u122 u123 u124 u125 u126 u127 u128 u129 u130 u131 u132 u133 u134 u135 u136 u137 u138 u139 u140 u141 u142 u143 u144 u145 u146 u147 u148 u149 u150 u151 u152 u153 u154 u155 u156 u157 u158 u159 u160 u161 u162 u163 u164 u165 u166 u167 u168 u169 u170 u171 u172 u173 u174 u175 u176 u177 u178 : Value)
    (hQ : ∀ (v54 v55 v56 v57 v58 v59 v60 v61 v62 v63 v64 v65 v66 v67 v68 v69 v70 v71 v72 v73 v74 v75 v76 v77 v78 v79 v80 : Value) (w9 : World), Grow w w9 → Q .normal ⟨#[u0, u1, u2, .slice am nm cm, .slice an nn cn, .int .i64 (i : Int), u6, u7, u8, u9, .bool (b || clashes q p), .int .i64 (k : Int), u12, u13, u14, u15, u16, u17, u18, u19, u20, u21, u22, u23, u24, u25, u26, u27, u28, u29, u30, u31, u32, u33, u34, u35, u36, u37, u38, u39, u40, u41, u42, u43, u44, u45, u46, u47, u48, u49, u50, u51, u52, u53, v54, v55, v56, v57, v58, v59, v60, v61, v62, v63, v64, v65, v66, v67, v68, v69, v70, v71, v72, v73, v74, v75, v76, v77, v78, v79, v80, u81, u82, u83, u84, u85, u86, u87, u88, u89, u90, u91, u92, u93, u94, u95, u96, u97, u98, u99, u100, u101, u102, u103, u104, u105, u106, u107, u108, u109, u110, u111, u112, u113, u114, u115, u116, u117, u118, u119, u120, u121, u122, u123, u124, u125, u126, u127, u128, u129, u130, u131, u132, u133, u134, u135, u136, u137, u138, u139, u140, u141, u142, u143, u144, u145, u146, u147, u148, u149, u150, u151, u152, u153, u154, u155, u156, u157, u158, u159, u160, u161, u162, u163, u164, u165, u166, u167, u168, u169, u170, u171, u172, u173, u174, u175, u176, u177, u178], []⟩ w9) :
    Code.wp Try.prog adds13Code Q
      ⟨#[u0, u1, u2, .slice am nm cm, .slice an nn cn, .int .i64 (i : Int), u6, u7, u8, u9, .bool b, .int .i64 (k : Int), u12, u13, u14, u15, u16, u17, u18, u19, u20, u21, u22, u23, u24, u25, u26, u27, u28, u29, u30, u31, u32, u33, u34, u35, u36, u37, u38, u39, u40, u41, u42, u43, u44, u45, u46, u47, u48, u49, u50, u51, u52, u53, u54, u55, u56, u57, u58, u59, u60, u61, u62, u63, u64, u65, u66, u67, u68, u69, u70, u71, u72, u73, u74, u75, u76, u77, u78, u79, u80, u81, u82, u83, u84, u85, u86, u87, u88, u89, u90, u91, u92, u93, u94, u95, u96, u97, u98, u99, u100, u101, u102, u103, u104, u105, u106, u107, u108, u109, u110, u111, u112, u113, u114, u115, u116, u117, u118, u119, u120, u121, u122, u123, u124, u125, u126, u127, u128, u129, u130, u131, u132, u133, u134, u135, u136, u137, u138, u139, u140, u141, u142, u143, u144, u145, u146, u147, u148, u149, u150, u151, u152, u153, u154, u155, u156, u157, u158, u159, u160, u161, u162, u163, u164, u165, u166, u167, u168, u169, u170, u171, u172, u173, u174, u175, u176, u177, u178], []⟩ w := by
  conv => arg 2; whnf
  have E1 := eq_id_run arrG p.1 q.1
  have E2 := eq_id_run arrG p.2 q.2
  have G1 := fun op x y => tyG.eqF.2 op x y p.1 q.1
  have G2 := fun op x y => tyG.eqF.2 op x y p.2 q.2
  simp only [] at G1 G2
  unfold clashes at hQ
  generalize decide (p.1 = q.1) = d1 at *
  generalize decide (p.2 = q.2) = d2 at *
  generalize p.1 = x1 at *
  generalize p.2 = x2 at *
  generalize q.1 = y1 at *
  generalize q.2 = y2 at *
  cases b
  · cases d1
    rotate_left
    refine wp_region_mg [(0, 0), (1, 0), (2, 0), (3, 0), (4, 0), (5, 0), (6, 0), (7, 0), (8, 0), (9, 0), (10, 0), (11, 0), (12, 0), (13, 0), (14, 0), (15, 0), (16, 0), (17, 0), (18, 0), (19, 0), (20, 0), (21, 0), (22, 0), (23, 0), (24, 0), (25, 0), (26, 0), (27, 0)] (by kernel_rfl) (by kernel_rfl) ?_
    iterate 28 (first | (refine mg_load rfl rfl _ _ rfl _ _ rfl L1 ?_) | (refine mg_load rfl rfl _ _ rfl _ _ rfl L2 ?_) | (refine mg_calm rfl (fun K hK => ?_); go_simp; (refine hK _ ?_; clear hK K)))
    exact mg_nil fun w9 hw9 => hQ _ _ _ _ _ _ _ _ _ _ _ _ _ _ _ _ _ _ _ _ _ _ _ _ _ _ _ w9 hw9
    refine wp_region_mg [(0, 0), (1, 0), (2, 0), (3, 0), (4, 0), (5, 0), (6, 0), (7, 0), (8, 0), (9, 0), (10, 0), (11, 0), (12, 0), (13, 0), (14, 0), (15, 0), (16, 0), (17, 0), (18, 0), (19, 0), (20, 0), (21, 0), (22, 0), (23, 0), (24, 0), (25, 0), (26, 0), (27, 0)] (by kernel_rfl) (by kernel_rfl) ?_
    iterate 28 (first | (refine mg_load rfl rfl _ _ rfl _ _ rfl L1 ?_) | (refine mg_load rfl rfl _ _ rfl _ _ rfl L1b ?_) | (refine mg_load rfl rfl _ _ rfl _ _ rfl L2 ?_) | (refine mg_load rfl rfl _ _ rfl _ _ rfl L2b ?_) | (refine mg_calm rfl (fun K hK => ?_); go_simp; (refine hK _ ?_; clear hK K)))
    exact mg_nil fun w9 hw9 => hQ _ _ _ _ _ _ _ _ _ _ _ _ _ _ _ _ _ _ _ _ _ _ _ _ _ _ _ w9 hw9
  · skip
    refine wp_region_mg [(0, 0), (1, 0), (2, 0), (3, 0), (4, 0), (5, 0), (6, 0), (7, 0), (8, 0), (9, 0), (10, 0), (11, 0), (12, 0), (13, 0), (14, 0), (15, 0), (16, 0), (17, 0), (18, 0), (19, 0), (20, 0), (21, 0), (22, 0), (23, 0), (24, 0), (25, 0), (26, 0), (27, 0)] (by kernel_rfl) (by kernel_rfl) ?_
    iterate 28 (first | (refine mg_load rfl rfl _ _ rfl _ _ rfl L1 ?_) | (refine mg_load rfl rfl _ _ rfl _ _ rfl L2 ?_) | (refine mg_calm rfl (fun K hK => ?_); go_simp; (refine hK _ ?_; clear hK K)))
    exact mg_nil fun w9 hw9 => hQ _ _ _ _ _ _ _ _ _ _ _ _ _ _ _ _ _ _ _ _ _ _ _ _ _ _ _ w9 hw9

noncomputable def adds30Code : Code := ((Try.f3.body.bind (regionAt 30)).getD .skip)
set_option maxRecDepth 100000 in
set_option maxHeartbeats 8000000 in
theorem adds30 {w : World} {an : Option Addr} {nn cn i b1 q1 B13 B15 : Nat} {x y : Id20} {Q : Exit → Act → World → Prop}
    (IX1 : ∀ W : World, (Instr.indexAt 23 (.slice an nn cn) (.int .i64 (i : Int))).run Try.prog W = .ok (.pointer (some ⟨b1, q1, none⟩)) W)
    (L13 : ∀ yy : Later w, (Instr.loadAt 30 (.pointer (some ⟨B13, 0, none⟩))).run Try.prog yy.1 = .ok (.agg (idA y)) yy.1)
    (L1b : ∀ yy : Later w, (Instr.loadAt 30 (.pointer (some ⟨b1, q1 + 20, none⟩))).run Try.prog yy.1 = .ok (.agg (idA y)) yy.1)
    (L15 : ∀ yy : Later w, (Instr.loadAt 30 (.pointer (some ⟨B15, 0, none⟩))).run Try.prog yy.1 = .ok (.agg (idA x)) yy.1)
    (L1 : ∀ yy : Later w, (Instr.loadAt 30 (.pointer (some ⟨b1, q1, none⟩))).run Try.prog yy.1 = .ok (.agg (idA x)) yy.1)
    (u0 u1 u2 u3 u5 u6 u7 u8 u9 u10 u11 u17 u18 u19 u20 u21 u22 u23 u24 u25 u26 u27 u28 u29 u30 u31 u32 u33 u34 u35 u36 u37 u38 u39 u40 u41 u42 u43 u44 u45 u46 u47 u48 u49 u50 u51 u52 u53 u54 u55 u56 u57 u58 u59 u60 u61 u62 u63 u64 u65 u66 u67 u68 u69 u70 u71 u72 u73 u74 u75 u76 u77 u78 u79 u80 u81 u82 u83 u84 u85 u86 u87 u88 u89 u90 u91 u92 u93 u94 u95 u96 u97 u98 u99 u100 u101 u102 u103 u104 u105 u106 u107 u108 u109 u110 u111 u112 u113 u114 u115 u116 u117 u118 u119 u120 u121 u122 u123 u124 u125 u126 u127 u128 u129 u130 u131 u132 u133 u134 u135 u136 u137 u138 u139 u140 u141 u142 u143 u144 u145 u146 u147 u148 u149 u150 u151 u152 u153 u154 u155 u156 u157 u158 u159 u160 u161 u162 u163 u164 u165 u166 u167 u168 u169 u170 u171 u172 u173 u174 u175 u176 u177 u178 : Value)
    (hQ : ∀ (v149 v150 v151 v152 v153 v154 v155 v156 v157 v158 v159 v160 v161 v162 v163 v164 v165 v166 v167 v168 v169 v170 v171 : Value) (w9 : World), Grow w w9 → Q .normal ⟨#[u0, u1, u2, u3, .slice an nn cn, u5, u6, u7, u8, u9, u10, u11, .int .i64 (i : Int), .pointer (some ⟨B13, 0, none⟩), .bool true, .pointer (some ⟨B15, 0, none⟩), .bool true, u17, u18, u19, u20, u21, u22, u23, u24, u25, u26, u27, u28, u29, u30, u31, u32, u33, u34, u35, u36, u37, u38, u39, u40, u41, u42, u43, u44, u45, u46, u47, u48, u49, u50, u51, u52, u53, u54, u55, u56, u57, u58, u59, u60, u61, u62, u63, u64, u65, u66, u67, u68, u69, u70, u71, u72, u73, u74, u75, u76, u77, u78, u79, u80, u81, u82, u83, u84, u85, u86, u87, u88, u89, u90, u91, u92, u93, u94, u95, u96, u97, u98, u99, u100, u101, u102, u103, u104, u105, u106, u107, u108, u109, u110, u111, u112, u113, u114, u115, u116, u117, u118, u119, u120, u121, u122, u123, u124, u125, u126, u127, u128, u129, u130, u131, u132, u133, u134, u135, u136, u137, u138, u139, u140, u141, u142, u143, u144, u145, u146, u147, u148, v149, v150, v151, v152, v153, v154, v155, v156, v157, v158, v159, v160, v161, v162, v163, v164, v165, v166, v167, v168, v169, v170, v171, .bool false, u173, u174, u175, u176, u177, u178], []⟩ w9) :
    Code.wp Try.prog adds30Code Q
      ⟨#[u0, u1, u2, u3, .slice an nn cn, u5, u6, u7, u8, u9, u10, u11, .int .i64 (i : Int), .pointer (some ⟨B13, 0, none⟩), .bool true, .pointer (some ⟨B15, 0, none⟩), .bool true, u17, u18, u19, u20, u21, u22, u23, u24, u25, u26, u27, u28, u29, u30, u31, u32, u33, u34, u35, u36, u37, u38, u39, u40, u41, u42, u43, u44, u45, u46, u47, u48, u49, u50, u51, u52, u53, u54, u55, u56, u57, u58, u59, u60, u61, u62, u63, u64, u65, u66, u67, u68, u69, u70, u71, u72, u73, u74, u75, u76, u77, u78, u79, u80, u81, u82, u83, u84, u85, u86, u87, u88, u89, u90, u91, u92, u93, u94, u95, u96, u97, u98, u99, u100, u101, u102, u103, u104, u105, u106, u107, u108, u109, u110, u111, u112, u113, u114, u115, u116, u117, u118, u119, u120, u121, u122, u123, u124, u125, u126, u127, u128, u129, u130, u131, u132, u133, u134, u135, u136, u137, u138, u139, u140, u141, u142, u143, u144, u145, u146, u147, u148, u149, u150, u151, u152, u153, u154, u155, u156, u157, u158, u159, u160, u161, u162, u163, u164, u165, u166, u167, u168, u169, u170, u171, u172, u173, u174, u175, u176, u177, u178], []⟩ w := by
  conv => arg 2; whnf
  have E1 := eq_id_same arrG x
  have E2 := eq_id_same arrG y
  have G1 := fun op u v => tyG.eqF.2 op u v x x
  have G2 := fun op u v => tyG.eqF.2 op u v y y
  simp only [] at G1 G2
  · skip
    refine wp_region_mg [(0, 0), (1, 0), (2, 0), (3, 0), (4, 0), (5, 0), (6, 0), (7, 0), (8, 0), (9, 0), (10, 0), (11, 0), (12, 0), (13, 0), (14, 0), (15, 0), (16, 0), (17, 0), (18, 0), (19, 0), (20, 0), (21, 0), (22, 0), (23, 0)] (by kernel_rfl) (by kernel_rfl) ?_
    iterate 24 (first | (refine mg_load rfl rfl _ _ rfl _ _ rfl L1 ?_) | (refine mg_load rfl rfl _ _ rfl _ _ rfl L1b ?_) | (refine mg_load rfl rfl _ _ rfl _ _ rfl L13 ?_) | (refine mg_load rfl rfl _ _ rfl _ _ rfl L15 ?_) | (refine mg_calm rfl (fun K hK => ?_); go_simp; (refine hK _ ?_; clear hK K)))
    exact mg_nil fun w9 hw9 => hQ _ _ _ _ _ _ _ _ _ _ _ _ _ _ _ _ _ _ _ _ _ _ _ w9 hw9
end Go.Proofs.Ytnlkanhakmkejaa
