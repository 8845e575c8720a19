/- Regions of the document's decoder (shuttleref09.Decode), each a theorem of its own: each theorem says its own conditions. -/
import Derived.Test.YtnejnnfjbhpigaaDoorVy
import Derived.Deep.CutRange
import Derived.BigRegion
import Derived.Deep.RegionHeld3
namespace Go.Proofs.YtnejnnfjbhpigaaDoor.Vit
open Go.RowKit Go.Proofs.YtnejnnfjbhpigaaDoorW.PrintWords Go.Proofs.YtnejnnfjbhpigaaDoorW.PrintLast Go.Proofs.YtnejnnfjbhpigaaDoorW.PrintMore Go.Proofs.YtnejnnfjbhpigaaDoor.Mem
attribute [local go_sem] max2_int min2_int max_two min_two max_three min_three max_four min_four   -- for this text's walks alone
set_option linter.unusedVariables false
set_option linter.unusedSimpArgs false

theorem t1_nonneg (t : Nat) : (0 : Int) ≤ (t : Int) + 1 := by omega
theorem t1_toNat (t : Nat) : ((t : Int) + 1).toNat = t + 1 := by omega
theorem t4_nonneg (t : Nat) : (0 : Int) ≤ 4 * (t : Int) := by omega
theorem t4_toNat (t : Nat) : (4 * (t : Int)).toNat = 4 * t := by omega
theorem t44_toNat (t : Nat) : (4 * (t : Int) + 4).toNat = 4 * t + 4 := by omega
theorem t4_le (t : Nat) : 4 * (t : Int) ≤ 4 * (t : Int) + 4 := by omega
theorem t44_le {t steps c : Nat} (h : t < steps) (hc : 4 * steps ≤ c) : 4 * (t : Int) + 4 ≤ (c : Int) := by omega
theorem t4_ne {t steps c : Nat} (h : t < steps) (hc : 4 * steps ≤ c) : ¬ c = 4 * t := by omega
theorem t4_in {t steps : Nat} (h : t < steps) (hs : steps ≤ 4102) : -9223372036854775808 ≤ 4 * (t : Int) ∧ 4 * (t : Int) ≤ 9223372036854775807 := by omega
theorem t44_in {t steps : Nat} (h : t < steps) (hs : steps ≤ 4102) : -9223372036854775808 ≤ 4 * (t : Int) + 4 ∧ 4 * (t : Int) + 4 ≤ 9223372036854775807 := by omega
theorem t1_in {t steps : Nat} (h : t < steps) (hs : steps ≤ 4102) : -9223372036854775808 ≤ (t : Int) + 1 ∧ (t : Int) + 1 ≤ 9223372036854775807 := by omega
theorem t_lt {t steps : Nat} (h : t < steps) : (t : Int) < (steps : Int) + 1 := by omega
theorem t1_lt {t steps : Nat} (h : t < steps) : (t : Int) + 1 < (steps : Int) + 1 := by omega
theorem gv_in {g v : Int} (h : v = none40 ∨ -1000000000 ≤ v ∧ v ≤ 1000000000) (hg : -4000 ≤ g ∧ g ≤ 4000) : -9223372036854775808 ≤ g + v ∧ g + v ≤ 9223372036854775807 := by have := n40; omega
theorem wrap_half : IntKind.i64.wrap (-549755813888) = -549755813888 := IntWalk.i64_in _ ⟨by decide, by decide⟩
theorem lt_cast {T : Nat} (h : T < 64) : (T : Int) < 64 := by omega

/-- A function's region, by its number. -/
def regOf (n : Nat) : Code → Option Code
  | .region i ops b => if i = n then some (.region i ops b) else none
  | .seq a b => match regOf n a with
    | some c => some c
    | none => regOf n b
  | .block _ c => regOf n c
  | .loop c => regOf n c
  | .scope c => regOf n c
  | .cond _ a b => match regOf n a with
    | some c => some c
    | none => regOf n b
  | _ => none
noncomputable def reg18 (n : Nat) : Code := ((Tryd.f40.body.bind (regOf n)).getD .skip)

set_option maxHeartbeats 6400000 in
set_option maxRecDepth 1000000 in
theorem reg28 {Q : Exit → Act → World → Prop} {lb lo c steps bb t k eb T : Nat} {x2 x3 x4 x5 x6 G1 V1 C0 : Int} {W1 : World} (htl : t < steps) (hs41 : steps ≤ 4102) (hc : 4 * steps ≤ c) (hk : k < 64) (hT64 : T < 64)
    (hb : W1.heap[eb]? = some (.cells #[.int .i64 (k : Int), .int .i64 (T : Int), .int .u8 x2, .int .u8 x3, .int .u8 x4, .int .u8 x5, .int .u8 x6] 69 (0, 0))) (k1 : W1.cell? ⟨bb, (t + 1) * 64 + T, none⟩ = some (.int .i64 V1)) (k2 : W1.cell? ⟨bb, t * 64 + k, none⟩ = some (.int .i64 C0)) (k3 : W1.frozen? ⟨bb, t * 64 + k, none⟩ = false)
    (hgv : IntKind.i64.wrap (G1 + V1) = G1 + V1)
    (hg : ∀ q, Calls Tryd.prog 68 #[.slice (some ⟨lb, lo + 4 * t, none⟩) 4 (c - 4 * t), .agg #[.int .i64 (k : Int), .int .i64 (T : Int), .int .u8 x2, .int .u8 x3, .int .u8 x4, .int .u8 x5, .int .u8 x6]] (W1.drewN q) fun e w' => e = .returned (.int .i64 G1) ∧ Below (W1.drewN q).heap.size (W1.drewN q) w') (u1 u2 u3 u4 u5 u6 u7 u8 u10 u13 u15 u16 u17 u18 u19 u20 u21 u22 u23 u24 u25 u26 u27 u28 u29 u30 u31 u32 u33 u34 u35 u36 u37 u38 u39 u40 u41 u42 u43 u44 u45 u46 u47 u48 u49 u50 u51 u52 u53 u54 u55 u56 u57 u58 u59 u60 u61 u62 u63 u64 u65 u66 u67 u68 u69 u70 u71 u72 u73 u74 u75 u76 u77 u78 u79 u80 u81 u82 u83 u84 u85 u86 u87 u88 u89 u90 u91 u92 u93 u94 u95 u96 u97 u98 u99 u100 u101 u102 u103 u104 u105 u106 u107 u108 u109 u110 u111 u112 u113 u114 u115 u116 u117 u118 u119 u120 u121 u122 u123 u124 u125 u126 u127 u128 u129 u130 u131 u132 u133 u134 u135 u136 u137 u138 u139 u140 u141 u142 u143 u144 u145 u146 u147 u148 u149 u150 u151 u152 u153 u154 u155 u156 u157 u158 u159 u160 u161 u162 u163 u164 u165 u166 u167 u168 u169 u170 u171 u172 u173 u174 u175 u176 u177 u178 u179 u180 u181 u182 u183 u184 u185 u186 u187 : Value) (hQ : ∀ (v95 v96 v97 v98 v99 v100 v101 v102 v103 v104 v105 v106 v107 v108 v109 v110 v111 v112 v113 v114 v115 v116 v117 v118 v119 v120 v121 v122 v123 v124 : Value) (w2 : World), Below W1.heap.size W1 w2 → Q .normal ⟨#[.slice (some ⟨lb, lo, none⟩) (4 * steps) c, u1, u2, u3, u4, u5, u6, u7, u8, .slice (some ⟨bb, 0, none⟩) (steps + 1) (steps + 1), u10, .int .i64 (t : Int), .int .i64 (k : Int), u13, .pointer (some ⟨eb, 0, none⟩), u15, u16, u17, u18, u19, u20, u21, u22, u23, u24, u25, u26, u27, u28, u29, u30, u31, u32, u33, u34, u35, u36, u37, u38, u39, u40, u41, u42, u43, u44, u45, u46, u47, u48, u49, u50, u51, u52, u53, u54, u55, u56, u57, u58, u59, u60, u61, u62, u63, u64, u65, u66, u67, u68, u69, u70, u71, u72, u73, u74, u75, u76, u77, u78, u79, u80, u81, u82, u83, u84, u85, u86, u87, u88, u89, u90, u91, u92, u93, u94, v95, v96, v97, v98, v99, v100, v101, v102, v103, v104, v105, v106, v107, v108, v109, v110, v111, v112, v113, v114, v115, v116, v117, v118, v119, v120, v121, v122, v123, v124, u125, u126, u127, u128, u129, u130, u131, u132, u133, u134, u135, u136, u137, u138, u139, u140, u141, u142, u143, u144, u145, u146, u147, u148, u149, u150, u151, u152, u153, u154, u155, u156, u157, u158, u159, u160, u161, u162, u163, u164, u165, u166, u167, u168, u169, u170, u171, u172, u173, u174, u175, u176, u177, u178, u179, u180, u181, u182, u183, u184, u185, u186, u187], []⟩ (w2.setCell ⟨bb, t * 64 + k, none⟩ (.int .i64 (if C0 < G1 + V1 then G1 + V1 else C0)))) :
    Code.wp Tryd.prog (reg18 28) Q ⟨#[.slice (some ⟨lb, lo, none⟩) (4 * steps) c, u1, u2, u3, u4, u5, u6, u7, u8, .slice (some ⟨bb, 0, none⟩) (steps + 1) (steps + 1), u10, .int .i64 (t : Int), .int .i64 (k : Int), u13, .pointer (some ⟨eb, 0, none⟩), u15, u16, u17, u18, u19, u20, u21, u22, u23, u24, u25, u26, u27, u28, u29, u30, u31, u32, u33, u34, u35, u36, u37, u38, u39, u40, u41, u42, u43, u44, u45, u46, u47, u48, u49, u50, u51, u52, u53, u54, u55, u56, u57, u58, u59, u60, u61, u62, u63, u64, u65, u66, u67, u68, u69, u70, u71, u72, u73, u74, u75, u76, u77, u78, u79, u80, u81, u82, u83, u84, u85, u86, u87, u88, u89, u90, u91, u92, u93, u94, u95, u96, u97, u98, u99, u100, u101, u102, u103, u104, u105, u106, u107, u108, u109, u110, u111, u112, u113, u114, u115, u116, u117, u118, u119, u120, u121, u122, u123, u124, u125, u126, u127, u128, u129, u130, u131, u132, u133, u134, u135, u136, u137, u138, u139, u140, u141, u142, u143, u144, u145, u146, u147, u148, u149, u150, u151, u152, u153, u154, u155, u156, u157, u158, u159, u160, u161, u162, u163, u164, u165, u166, u167, u168, u169, u170, u171, u172, u173, u174, u175, u176, u177, u178, u179, u180, u181, u182, u183, u184, u185, u186, u187], []⟩ W1 := by
  have HQ := Aside0.mk hQ
  have HG := Aside0.mk hg
  have M0 := blk_cell hb 0
  have M1 := blk_cell hb 1
  have M2 := blk_cell hb 2
  have M3 := blk_cell hb 3
  have M4 := blk_cell hb 4
  have M5 := blk_cell hb 5
  have M6 := blk_cell hb 6
  simp only [List.getElem?_toArray, List.getElem?_cons_zero, List.getElem?_cons_succ] at M0 M1 M2 M3 M4 M5 M6
  have HK := Aside0.mk (And.intro M1 (And.intro k1 (And.intro k2 k3)))
  have q5 := t1_nonneg t
  have q6 := t1_toNat t
  have q7 := t4_toNat t
  have q8 := t44_toNat t
  have q9 := t4_le t
  have q10 := t44_le htl hc
  have q11 := t4_ne htl hc
  have q12 := t4_nonneg t
  have q13 := t_lt htl
  have q14 := t1_lt htl
  have q15 := lt_cast hk
  have q16 := lt_cast hT64
  have hadd : IntKind.i64.wrap ((t : Int) + 1) = (t : Int) + 1 := IntWalk.i64_in _ (t1_in htl hs41)
  have hmul : IntKind.i64.wrap (4 * (t : Int)) = 4 * (t : Int) := IntWalk.i64_in _ (t4_in htl hs41)
  have hmul4 : IntKind.i64.wrap (4 * (t : Int) + 4) = 4 * (t : Int) + 4 := IntWalk.i64_in _ (t44_in htl hs41)
  clear hQ hg hb hs41 hc
  conv => arg 2; whnf
  refine wp_region_noPanic ?_
  go_region_law ((go_simp; go_at_call 68; refine (HG.out 1).mono ?_; rintro e w2 ⟨rfl, hB2⟩; have c1 := below_cell hB2 (show (W1.drewN 1).cell? _ = _ from HK.out.1); have c2 := below_cell hB2 (show (W1.drewN 1).cell? _ = _ from HK.out.2.1); have c3 := below_cell hB2 (show (W1.drewN 1).cell? _ = _ from HK.out.2.2.1); have fz3 := (hB2.frozen (lies_lt (w := W1.drewN 1) HK.out.2.2.1)).trans HK.out.2.2.2; have HB2 := Aside0.mk hB2; clear hB2))
  all_goals exact NoPanic.normal (HQ.out _ _ _ _ _ _ _ _ _ _ _ _ _ _ _ _ _ _ _ _ _ _ _ _ _ _ _ _ _ _ _ ((pw_below_drewN (Below.refl _ _) 1).trans HB2.out))

set_option maxHeartbeats 6400000 in
set_option maxRecDepth 1000000 in
theorem reg35b {Q : Exit → Act → World → Prop} {lb lo c steps bb t k eb T : Nat} {x0 x2 x3 x4 x5 x6 G1 V1 C0 : Int} {W1 : World} (htl : t < steps) (hs41 : steps ≤ 4102) (hc : 4 * steps ≤ c) (hk : k < 64) (hT64 : T < 64)
    (hb : W1.heap[eb]? = some (.cells #[.int .i64 x0, .int .i64 (T : Int), .int .u8 x2, .int .u8 x3, .int .u8 x4, .int .u8 x5, .int .u8 x6] 69 (0, 0))) (k1 : W1.cell? ⟨bb, (t + 1) * 64 + T, none⟩ = some (.int .i64 V1)) (k2 : W1.cell? ⟨bb, t * 64 + k, none⟩ = some (.int .i64 C0))
    (hgv : IntKind.i64.wrap (G1 + V1) = G1 + V1) (hdec : decide (V1 ≤ -549755813888) = false)
    (hg : ∀ q, Calls Tryd.prog 68 #[.slice (some ⟨lb, lo + 4 * t, none⟩) 4 (c - 4 * t), .agg #[.int .i64 x0, .int .i64 (T : Int), .int .u8 x2, .int .u8 x3, .int .u8 x4, .int .u8 x5, .int .u8 x6]] (W1.drewN q) fun e w' => e = .returned (.int .i64 G1) ∧ Below (W1.drewN q).heap.size (W1.drewN q) w') (u1 u2 u3 u4 u5 u7 u8 u10 u11 u12 u13 u14 u15 u19 u20 u21 u22 u23 u24 u25 u26 u27 u28 u29 u30 u31 u32 u33 u34 u35 u36 u37 u38 u39 u40 u41 u42 u43 u44 u45 u46 u47 u48 u49 u50 u51 u52 u53 u54 u55 u56 u57 u58 u59 u60 u61 u62 u63 u64 u65 u66 u67 u68 u69 u70 u71 u72 u73 u74 u75 u76 u77 u78 u79 u80 u81 u82 u83 u84 u85 u86 u87 u88 u89 u90 u91 u92 u93 u94 u95 u96 u97 u98 u99 u100 u101 u102 u103 u104 u105 u106 u107 u108 u109 u110 u111 u112 u113 u114 u115 u116 u117 u118 u119 u120 u121 u122 u123 u124 u125 u126 u127 u128 u129 u130 u131 u132 u133 u134 u135 u136 u137 u138 u139 u140 u141 u142 u143 u144 u145 u146 u147 u148 u149 u150 u151 u152 u153 u154 u155 u156 u157 u158 u159 u160 u161 u162 u163 u164 u165 u166 u167 u168 u169 u170 u171 u172 u173 u174 u175 u176 u177 u178 u179 u180 u181 u182 u183 u184 u185 u186 u187 : Value) (hQ : ∀ (v134 v135 v136 v137 v138 v139 v140 v141 v142 v143 v144 v145 v146 v147 v148 v149 v150 v151 v152 v153 v154 v155 v156 v157 v158 v159 v160 v161 v162 v163 v164 v165 v166 v167 v168 v169 v170 v171 : Value) (w2 : World), Below W1.heap.size W1 w2 → v171 = .bool (G1 + V1 != C0) → Q .normal ⟨#[.slice (some ⟨lb, lo, none⟩) (4 * steps) c, u1, u2, u3, u4, u5, .int .i64 (-1099511627776), u7, u8, .slice (some ⟨bb, 0, none⟩) (steps + 1) (steps + 1), u10, u11, u12, u13, u14, u15, .int .i64 (k : Int), .int .i64 (t : Int), .pointer (some ⟨eb, 0, none⟩), u19, u20, u21, u22, u23, u24, u25, u26, u27, u28, u29, u30, u31, u32, u33, u34, u35, u36, u37, u38, u39, u40, u41, u42, u43, u44, u45, u46, u47, u48, u49, u50, u51, u52, u53, u54, u55, u56, u57, u58, u59, u60, u61, u62, u63, u64, u65, u66, u67, u68, u69, u70, u71, u72, u73, u74, u75, u76, u77, u78, u79, u80, u81, u82, u83, u84, u85, u86, u87, u88, u89, u90, u91, u92, u93, u94, u95, u96, u97, u98, u99, u100, u101, u102, u103, u104, u105, u106, u107, u108, u109, u110, u111, u112, u113, u114, u115, u116, u117, u118, u119, u120, u121, u122, u123, u124, u125, u126, u127, u128, u129, u130, u131, u132, u133, v134, v135, v136, v137, v138, v139, v140, v141, v142, v143, v144, v145, v146, v147, v148, v149, v150, v151, v152, v153, v154, v155, v156, v157, v158, v159, v160, v161, v162, v163, v164, v165, v166, v167, v168, v169, v170, v171, u172, u173, u174, u175, u176, u177, u178, u179, u180, u181, u182, u183, u184, u185, u186, u187], []⟩ w2) :
    Code.wp Tryd.prog (reg18 35) Q ⟨#[.slice (some ⟨lb, lo, none⟩) (4 * steps) c, u1, u2, u3, u4, u5, .int .i64 (-1099511627776), u7, u8, .slice (some ⟨bb, 0, none⟩) (steps + 1) (steps + 1), u10, u11, u12, u13, u14, u15, .int .i64 (k : Int), .int .i64 (t : Int), .pointer (some ⟨eb, 0, none⟩), u19, u20, u21, u22, u23, u24, u25, u26, u27, u28, u29, u30, u31, u32, u33, u34, u35, u36, u37, u38, u39, u40, u41, u42, u43, u44, u45, u46, u47, u48, u49, u50, u51, u52, u53, u54, u55, u56, u57, u58, u59, u60, u61, u62, u63, u64, u65, u66, u67, u68, u69, u70, u71, u72, u73, u74, u75, u76, u77, u78, u79, u80, u81, u82, u83, u84, u85, u86, u87, u88, u89, u90, u91, u92, u93, u94, u95, u96, u97, u98, u99, u100, u101, u102, u103, u104, u105, u106, u107, u108, u109, u110, u111, u112, u113, u114, u115, u116, u117, u118, u119, u120, u121, u122, u123, u124, u125, u126, u127, u128, u129, u130, u131, u132, u133, u134, u135, u136, u137, u138, u139, u140, u141, u142, u143, u144, u145, u146, u147, u148, u149, u150, u151, u152, u153, u154, u155, u156, u157, u158, u159, u160, u161, u162, u163, u164, u165, u166, u167, u168, u169, u170, u171, u172, u173, u174, u175, u176, u177, u178, u179, u180, u181, u182, u183, u184, u185, u186, u187], []⟩ W1 := by
  have HQ := Aside0.mk hQ
  have HG := Aside0.mk hg
  have M0 := blk_cell hb 0
  have M1 := blk_cell hb 1
  have M2 := blk_cell hb 2
  have M3 := blk_cell hb 3
  have M4 := blk_cell hb 4
  have M5 := blk_cell hb 5
  have M6 := blk_cell hb 6
  simp only [List.getElem?_toArray, List.getElem?_cons_zero, List.getElem?_cons_succ] at M0 M1 M2 M3 M4 M5 M6
  have HK := Aside0.mk (And.intro M1 (And.intro k1 k2))
  have q7 := t4_toNat t
  have q8 := t44_toNat t
  have q9 := t4_le t
  have q10 := t44_le htl hc
  have q11 := t4_ne htl hc
  have q12 := t4_nonneg t
  have q13 := t_lt htl
  have q15 := lt_cast hk
  have hmul : IntKind.i64.wrap (4 * (t : Int)) = 4 * (t : Int) := IntWalk.i64_in _ (t4_in htl hs41)
  have hmul4 : IntKind.i64.wrap (4 * (t : Int) + 4) = 4 * (t : Int) + 4 := IntWalk.i64_in _ (t44_in htl hs41)
  have q5 := t1_nonneg t
  have q6 := t1_toNat t
  have q14 := t1_lt htl
  have q16 := lt_cast hT64
  have hadd : IntKind.i64.wrap ((t : Int) + 1) = (t : Int) + 1 := IntWalk.i64_in _ (t1_in htl hs41)
  have hw5 := wrap_half
  clear hQ hg hb hs41 hc
  conv => arg 2; whnf
  refine wp_region_noPanic ?_
  go_region_held3 (fun w' => w'.cell? ⟨eb, 0, none⟩ = some (.int .i64 x0) ∧ w'.cell? ⟨eb, 1, none⟩ = some (.int .i64 (T : Int)) ∧ w'.cell? ⟨eb, 2, none⟩ = some (.int .u8 x2) ∧ w'.cell? ⟨eb, 3, none⟩ = some (.int .u8 x3) ∧ w'.cell? ⟨eb, 4, none⟩ = some (.int .u8 x4) ∧ w'.cell? ⟨eb, 5, none⟩ = some (.int .u8 x5) ∧ w'.cell? ⟨eb, 6, none⟩ = some (.int .u8 x6) ∧ w'.cell? ⟨bb, (t + 1) * 64 + T, none⟩ = some (.int .i64 V1) ∧ w'.cell? ⟨bb, t * 64 + k, none⟩ = some (.int .i64 C0)) (first | go_keep) (first | (go_at_call 68; refine (HG.out 1).mono ?_; rintro e w2 ⟨rfl, hB2⟩; have c0 := below_cell hB2 (show (W1.drewN 1).cell? _ = _ from M0); have c1 := below_cell hB2 (show (W1.drewN 1).cell? _ = _ from M1); have c2 := below_cell hB2 (show (W1.drewN 1).cell? _ = _ from M2); have c3 := below_cell hB2 (show (W1.drewN 1).cell? _ = _ from M3); have c4 := below_cell hB2 (show (W1.drewN 1).cell? _ = _ from M4); have c5 := below_cell hB2 (show (W1.drewN 1).cell? _ = _ from M5); have c6 := below_cell hB2 (show (W1.drewN 1).cell? _ = _ from M6); have c7 := below_cell hB2 (show (W1.drewN 1).cell? _ = _ from HK.out.2.1); have c8 := below_cell hB2 (show (W1.drewN 1).cell? _ = _ from HK.out.2.2); have HB2 := Aside0.mk hB2; clear hB2))
  all_goals exact NoPanic.normal (HQ.out _ _ _ _ _ _ _ _ _ _ _ _ _ _ _ _ _ _ _ _ _ _ _ _ _ _ _ _ _ _ _ _ _ _ _ _ _ _ _ ((pw_below_drewN (Below.refl _ _) 1).trans HB2.out) rfl)

end Go.Proofs.YtnejnnfjbhpigaaDoor.Vit
