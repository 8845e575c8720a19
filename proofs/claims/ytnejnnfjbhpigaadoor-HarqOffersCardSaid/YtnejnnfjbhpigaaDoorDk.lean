/- A region of the law HarqOffers, a theorem of its own. Each theorem says its own conditions. -/
import Derived.Test.YtnejnnfjbhpigaaDoorDi
import Derived.Deep.CutRange
import Derived.BigRegion
import Derived.Deep.RegionHeld3
namespace Go.Proofs.YtnejnnfjbhpigaaDoor.Vit
open Go.RowKit Go.Proofs.YtnejnnfjbhpigaaDoorW.PrintWords Go.Proofs.YtnejnnfjbhpigaaDoorW.PrintLast Go.Proofs.YtnejnnfjbhpigaaDoorW.PrintMore Go.Proofs.YtnejnnfjbhpigaaDoor.Mem Go.Proofs.YtnejnnfjbhpigaaDoor.Crc
attribute [local go_sem] max2_int min2_int max_two min_two max_three min_three max_four min_four   -- for this text's walks alone
set_option linter.unusedVariables false
set_option linter.unusedSimpArgs false

open Go.Proofs.YtnejnnfjbhpigaaDoor.Chk
noncomputable def regO (n : Nat) : Code := ((Tryd.f5.body.bind (regOf n)).getD .skip)
set_option maxHeartbeats 6400000 in
set_option maxRecDepth 1000000 in
theorem reg13 {Q : Exit → Act → World → Prop} {cb q1 Qn cw : Nat} {Aw : Option Addr} {raw : List Int} {vv nn : Int} {W0 : World} (M1 : W0.cell? ⟨cb, 1, none⟩ = some (.int .i64 vv)) (M3 : W0.cell? ⟨cb, 3, none⟩ = some (.slice Aw Qn cw)) (M4 : W0.cell? ⟨cb, 4, none⟩ = some (.int .i64 nn))
    (hmin : (if (100 : Int) < (Qn : Int) then (100 : Int) else (Qn : Int)) = (q1 : Int)) (hq1c : (q1 : Int) ≤ (cw : Int)) (hq100 : q1 ≤ 100) (hC : (Kd.int .u8).C W0 Aw q1 (raw.take q1)) (u0 u1 u2 u3 u4 u5 u6 u7 u8 u9 u10 u11 u12 u14 u15 u16 u17 u18 u19 u20 u21 u22 u23 u24 u25 u26 u27 u28 u29 u30 u31 u32 u33 u34 u35 u36 u37 u38 u39 u40 u41 u42 u43 u44 u45 u46 u47 u48 u49 u50 u51 u52 u53 u54 u55 u56 u57 u58 u59 u60 u61 u62 u63 u64 u65 u66 u67 u68 u69 u70 u71 u72 u73 u74 u75 u76 u77 u78 u79 u80 u81 u82 u83 u84 u85 u86 u87 u88 u89 u90 u91 u92 u93 u94 u95 u96 u97 u98 u99 u100 u101 u102 u103 u104 u105 u106 u107 u108 u109 u110 u111 u112 u113 u114 u115 u116 u117 u118 u119 u120 u121 u122 u123 u124 u125 u126 u127 u128 u129 u130 u131 u132 u133 u134 u135 u136 u137 u138 u139 u140 u141 u142 u143 u144 u145 u146 u147 u148 u149 u150 u151 u152 u153 u154 u155 u156 u157 u158 u159 u160 u161 u162 u163 u164 u165 u166 u167 u168 u169 u170 u171 u172 u173 u174 u175 u176 u177 u178 u179 u180 u181 u182 : Value)
    (hQ : ∀ (v16 v83 v84 v85 v86 v87 v88 v89 v90 v91 v92 v93 v94 v95 : Value) (w2 : World), (Kd.int .u8).R 5 w2 W0.heap.size (fun j => W0.heap.size ≤ j) v16 (raw.take q1) → Below W0.heap.size W0 w2 → Q .normal ⟨#[u0, u1, u2, u3, u4, u5, u6, u7, u8, u9, u10, u11, u12, .pointer (some ⟨cb, 0, none⟩), .int .i64 nn, .int .i64 vv, v16, u17, u18, u19, u20, u21, u22, u23, u24, u25, u26, u27, u28, u29, u30, u31, u32, u33, u34, u35, u36, u37, u38, u39, u40, u41, u42, u43, u44, u45, u46, u47, u48, u49, u50, u51, u52, u53, u54, u55, u56, u57, u58, u59, u60, u61, u62, u63, u64, u65, u66, u67, u68, u69, u70, u71, u72, u73, u74, u75, u76, u77, u78, u79, u80, u81, u82, v83, v84, v85, v86, v87, v88, v89, v90, v91, v92, v93, v94, v95, u96, u97, u98, u99, u100, u101, u102, u103, u104, u105, u106, u107, u108, u109, u110, u111, u112, u113, u114, u115, u116, u117, u118, u119, u120, u121, u122, u123, u124, u125, u126, u127, u128, u129, u130, u131, u132, u133, u134, u135, u136, u137, u138, u139, u140, u141, u142, u143, u144, u145, u146, u147, u148, u149, u150, u151, u152, u153, u154, u155, u156, u157, u158, u159, u160, u161, u162, u163, u164, u165, u166, u167, u168, u169, u170, u171, u172, u173, u174, u175, u176, u177, u178, u179, u180, u181, u182], []⟩ w2) :
    Code.wp Tryd.prog (regO 13) Q ⟨#[u0, u1, u2, u3, u4, u5, u6, u7, u8, u9, u10, u11, u12, .pointer (some ⟨cb, 0, none⟩), u14, u15, u16, u17, u18, u19, u20, u21, u22, u23, u24, u25, u26, u27, u28, u29, u30, u31, u32, u33, u34, u35, u36, u37, u38, u39, u40, u41, u42, u43, u44, u45, u46, u47, u48, u49, u50, u51, u52, u53, u54, u55, u56, u57, u58, u59, u60, u61, u62, u63, u64, u65, u66, u67, u68, u69, u70, u71, u72, u73, u74, u75, u76, u77, u78, u79, u80, u81, u82, u83, u84, u85, u86, u87, u88, u89, u90, u91, u92, u93, u94, u95, u96, u97, u98, u99, u100, u101, u102, u103, u104, u105, u106, u107, u108, u109, u110, u111, u112, u113, u114, u115, u116, u117, u118, u119, u120, u121, u122, u123, u124, u125, u126, u127, u128, u129, u130, u131, u132, u133, u134, u135, u136, u137, u138, u139, u140, u141, u142, u143, u144, u145, u146, u147, u148, u149, u150, u151, u152, u153, u154, u155, u156, u157, u158, u159, u160, u161, u162, u163, u164, u165, u166, u167, u168, u169, u170, u171, u172, u173, u174, u175, u176, u177, u178, u179, u180, u181, u182], []⟩ W0 := by
  have HQ := Aside0.mk hQ
  have HC := Aside0.mk hC
  have HM := Aside0.mk (And.intro M1 (And.intro M3 M4))
  have M1a : ∀ o, (W0.alloc o).cell? ⟨cb, 1, none⟩ = some (.int .i64 vv) := fun o => Lib.cell?_alloc_some _ M1
  have M3a : ∀ o, (W0.alloc o).cell? ⟨cb, 3, none⟩ = some (.slice Aw Qn cw) := fun o => Lib.cell?_alloc_some _ M3
  have M4a : ∀ o, (W0.alloc o).cell? ⟨cb, 4, none⟩ = some (.int .i64 nn) := fun o => Lib.cell?_alloc_some _ M4
  clear hQ hC
  conv => arg 2; whnf
  refine wp_region_noPanic ?_
  go_region_held3 (fun w' => w'.cell? ⟨cb, 1, none⟩ = some (.int .i64 vv) ∧ w'.cell? ⟨cb, 3, none⟩ = some (.slice Aw Qn cw) ∧ w'.cell? ⟨cb, 4, none⟩ = some (.int .i64 nn)) (first | go_keep) (first
    | (refine Kd.R_append_rows_step (Kd.int .u8) (w0 := W0) W0.heap.size (by rfl) _ _ _ _ (.int .u8 0) 1 (by rfl) Tryd.underlying22 info5 rfl (by decide) (by decide) (.slice (some ⟨W0.heap.size, 0, none⟩) 0 0) [] (raw.take q1) Aw q1 cw (fun j => W0.heap.size ≤ j) (fun _ => False) (by rfl) (by rfl) (Kd.R_below (Kd.R_of_own (World.ownsRow_made W0 #[] 0 (Nat.le_refl _) (Nat.zero_le _) rfl) (fun k hk => by simp [Value.ownBlock] at hk; omega)) (below_drew (Below.refl _ _))) (Kd.C_below HC.out (below_drew (below_alloc (Below.refl _ _) _))) (fun x cs h => h) (fun _ hk => hk.elim) (fun k hk => by simp at hk; omega) (below_drew (below_alloc (Below.refl _ _) _)) (by simp) (by simp; omega) ?_; intro v7 w7 hR7 hB7 hG7 hat7; have M1b := below_cell hB7 HM.out.1; have M3b := below_cell hB7 HM.out.2.1; have M4b := below_cell hB7 HM.out.2.2; have H7 := Aside0.mk (And.intro hR7 hB7); clear hR7 hB7 hG7 hat7))
  all_goals exact NoPanic.normal (HQ.out v7 _ _ _ _ _ _ _ _ _ _ _ _ _ _ H7.out.1 H7.out.2)
end Go.Proofs.YtnejnnfjbhpigaaDoor.Vit
