/- The laws StatsLines and StatsYields: walks. Each theorem says its own conditions. -/
import Derived.Test.YtjillkcognlljaaDoorSc
namespace Go.Proofs.YtjillkcognlljaaDoor.Vit
open Go.RowKit Go.Proofs.YtjillkcognlljaaDoorW.PrintWords Go.Proofs.YtjillkcognlljaaDoorW.PrintLast Go.Proofs.YtjillkcognlljaaDoorW.PrintMore Go.Proofs.YtjillkcognlljaaDoor.Mem
attribute [local go_sem] max2_int min2_int max_two min_two max_three min_three max_four min_four   -- for this text's walks alone
set_option linter.unusedVariables false
set_option linter.unusedSimpArgs false

set_option maxHeartbeats 1600000 in
set_option maxRecDepth 100000 in
theorem counts_any (c : Nat → Int) (w : World) : Calls Tryd.prog 9 #[.agg (cnts c)] w fun e w' => e = .returned (.agg (cnts c)) ∧ Below w.heap.size w w' := by
  go_enter Tryd.func9, Tryd.ntmps9
  go_wp2_with fail
  exact bodyPost_ret (v := .agg (cnts c)) (by simp [results, Tryd.results9, go_sem]) rfl ⟨rfl, below_alloc (below_alloc (Below.refl _ _) _) _⟩
def cA : Nat → Int
  | 0 => 3
  | 6 => 1
  | _ => 0
def cB : Nat → Int := fun _ => 0
theorem cA_in (k : Nat) : -9223372036854775808 ≤ cA k ∧ cA k ≤ 9223372036854775807 := by unfold cA; split <;> omega
theorem cB_in (k : Nat) : -9223372036854775808 ≤ cB k ∧ cB k ≤ 9223372036854775807 := by unfold cB; omega
theorem lin_A : lin cA = [115, 101, 110, 116, 32, 51, 44, 32, 114, 101, 97, 100, 32, 49] := by
  have h3 : Lib.itoa 3 = [51] := by have := Lib.itoa_nonneg 3; rw [Lib.decDigits_one (by omega)] at this; exact this
  have h1 : Lib.itoa 1 = [49] := by have := Lib.itoa_nonneg 1; rw [Lib.decDigits_one (by omega)] at this; exact this
  have ho : outs cA 8 = [ent 0 3, ent 6 1] := rfl
  unfold lin
  rw [ho, if_neg (by simp)]
  unfold ent
  rw [h3, h1]
  rfl
theorem lin_B : lin cB = [110, 111, 116, 104, 105, 110, 103] := by
  have ho : outs cB 8 = [] := rfl
  unfold lin
  rw [ho, if_pos rfl]
set_option maxHeartbeats 1600000 in
set_option maxRecDepth 100000 in
theorem lines_any (w : World) (ht : Tab w) : Calls Tryd.prog 7 #[] w fun e w' => e = .returned (.bool true) ∧ Below w.heap.size w w' := by
  have hA := fun W hT => Line_any cA cA_in W hT
  have hB := fun W hT => Line_any cB cB_in W hT
  simp only [lin_A] at hA
  simp only [lin_B] at hB
  have HH := Aside0.mk (And.intro hA (And.intro hB ht))
  clear hA hB ht
  go_enter Tryd.func7, Tryd.ntmps7
  go_wp2_with fail
  refine (HH.out.1 _ HH.out.2.2).mono ?_
  rintro e w1 ⟨rfl, hB1⟩
  have H1 := Aside0.mk hB1
  clear hB1
  go_wp2_with fail
  refine (HH.out.2.1 _ (HH.out.2.2.below H1.out)).mono ?_
  rintro e w2 ⟨rfl, hB2⟩
  have H2 := Aside0.mk hB2
  clear hB2
  go_wp2_with fail
  go_ret
  exact ⟨rfl, H1.out.trans (H2.out.mono H1.out.size)⟩
set_option maxHeartbeats 3200000 in
set_option maxRecDepth 100000 in
theorem slines_any (c : Nat → Int) (hc : ∀ k, -9223372036854775808 ≤ c k ∧ c k ≤ 9223372036854775807) (w : World) (ht : Tab w) : Calls Tryd.prog 3 #[.agg (cnts c)] w fun e w' => e = .returned (.bool true) ∧ Below w.heap.size w w' := by
  have hL := fun W hT => Line_any c hc W hT
  have hR := fun W => RLine_any c hc W
  have hT := fun W => counts_any c W
  obtain ⟨L, hLL⟩ : ∃ L, lin c = L := ⟨_, rfl⟩
  simp only [hLL] at hL hR
  have HH := Aside0.mk (And.intro hL (And.intro hR (And.intro hT ht)))
  clear hL hR hT ht hc hLL
  go_enter Tryd.func3, Tryd.ntmps3
  go_upto_region 1 with fail
  obtain ⟨W1, hW1⟩ : ∃ W1, w.alloc (.cells (cnts c) 22) = W1 := ⟨_, rfl⟩
  have h0 : W1.heap[w.heap.size]? = some (.cells (cnts c) 22 (0, 0)) := by rw [← hW1]; exact heap_alloc_new w _
  have hB1 : Below w.heap.size w W1 := by rw [← hW1]; exact below_alloc (Below.refl _ _) _
  rw [hW1]
  have H1 := Aside0.mk (And.intro h0 (And.intro hB1 (HH.out.2.2.2.below hB1)))
  clear hW1 h0 hB1
  go_region_law (first
    | (go_simp; go_at_call 7; refine (lines_any _ (H1.out.2.2.below (pw_below_drewN (Below.refl _ _) 1))).mono ?_; rintro e w2 ⟨rfl, hB2⟩; have hx2 := below_cell_blk hB2 (show W1.drew.heap[w.heap.size]? = _ from H1.out.1); have x0 := blk_cell hx2 0; have x1 := blk_cell hx2 1; have x2 := blk_cell hx2 2; have x3 := blk_cell hx2 3; have x4 := blk_cell hx2 4; have x5 := blk_cell hx2 5; have x6 := blk_cell hx2 6; have x7 := blk_cell hx2 7; simp only [List.getElem?_toArray, List.getElem?_cons_zero, List.getElem?_cons_succ] at x0 x1 x2 x3 x4 x5 x6 x7; have H2 := Aside0.mk (And.intro hx2 (And.intro (H1.out.2.2.below ((pw_below_drewN (Below.refl _ _) 1).trans hB2)) ((H1.out.2.1.trans ((pw_below_drewN (Below.refl W1.heap.size W1) 1).mono H1.out.2.1.size)).trans (hB2.mono H1.out.2.1.size)))); clear hx2 hB2)
    | (go_simp; go_at_call 9; refine (HH.out.2.2.1 _).mono ?_; rintro e w3 ⟨rfl, hB3⟩; have hx3 := below_cell_blk hB3 H2.out.1; have y0 := blk_cell hx3 0; have y1 := blk_cell hx3 1; have y2 := blk_cell hx3 2; have y3 := blk_cell hx3 3; have y4 := blk_cell hx3 4; have y5 := blk_cell hx3 5; have y6 := blk_cell hx3 6; have y7 := blk_cell hx3 7; simp only [List.getElem?_toArray, List.getElem?_cons_zero, List.getElem?_cons_succ] at y0 y1 y2 y3 y4 y5 y6 y7; have H3 := Aside0.mk (And.intro hx3 (And.intro (H2.out.2.1.below hB3) (H2.out.2.2.trans (hB3.mono H2.out.2.2.size)))); clear hx3 hB3)
    | (go_simp; go_at_call 8; refine (HH.out.1 _ H3.out.2.1).mono ?_; rintro e w4 ⟨rfl, hB4⟩; have hx4 := below_cell_blk hB4 H3.out.1; have z0 := blk_cell hx4 0; have z1 := blk_cell hx4 1; have z2 := blk_cell hx4 2; have z3 := blk_cell hx4 3; have z4 := blk_cell hx4 4; have z5 := blk_cell hx4 5; have z6 := blk_cell hx4 6; have z7 := blk_cell hx4 7; simp only [List.getElem?_toArray, List.getElem?_cons_zero, List.getElem?_cons_succ] at z0 z1 z2 z3 z4 z5 z6 z7; have H4 := Aside0.mk (And.intro hx4 (H3.out.2.2.trans (hB4.mono H3.out.2.2.size))); clear hx4 hB4)
    | (go_simp; go_at_call 10; refine (HH.out.2.1 _).mono ?_; rintro e w5 ⟨rfl, hB5⟩; have H5 := Aside0.mk (H4.out.2.trans (hB5.mono H4.out.2.size)); clear hB5))
  all_goals go_wp2_with fail
  all_goals go_ret
  all_goals exact ⟨by rfl, H5.out⟩
end Go.Proofs.YtjillkcognlljaaDoor.Vit
