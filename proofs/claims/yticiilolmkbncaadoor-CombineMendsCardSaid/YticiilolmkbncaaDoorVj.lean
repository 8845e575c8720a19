/- Contracts of the decoder (Decode): each theorem says its own conditions. -/
import Derived.Test.YticiilolmkbncaaDoorVi
namespace Go.Proofs.YticiilolmkbncaaDoor.Vit
open Go.RowKit Go.Proofs.YticiilolmkbncaaDoorW.PrintWords Go.Proofs.YticiilolmkbncaaDoorW.PrintLast Go.Proofs.YticiilolmkbncaaDoorW.PrintMore Go.Proofs.YticiilolmkbncaaDoor.Mem
attribute [local go_sem] max2_int min2_int max_two min_two max_three min_three max_four min_four   -- for this text's walks alone
set_option linter.unusedVariables false
set_option linter.unusedSimpArgs false

theorem Steps_zero (w : World) : Calls Tryd.prog 41 #[.int .i64 0] w fun e w' => e = .returned (.int .i64 6) ∧ ∃ q, w' = w.drewN q := by
  go_enter Tryd.func41, Tryd.ntmps41
  go_wp2_with fail
  go_ret
  exact ⟨rfl, 0, rfl⟩
/-- A row of numbers that is not empty: where it lies. -/
theorem row_form {xs : List Int} {A : Option Addr} {n : Nat} {w : World} (hC : (Kd.int .i64).C w A n xs) (hn : 0 < n) :
    ∃ b o, A = some ⟨b, o, none⟩ ∧ ∀ j, j < n → w.cell? ⟨b, o + j, none⟩ = some (.int .i64 (xs.getD j 0)) := by
  obtain ⟨ad, hA, h0⟩ := Kd.at_int hC 0 (by omega) (by omega)
  obtain ⟨b, o, sp⟩ := ad
  have hsp : sp = none := by
    cases sp with
    | none => rfl
    | some q =>
      have h0' : w.cell? ⟨b, o, some q⟩ = some (.int .i64 (rd xs 0)) := h0
      unfold World.cell? at h0'
      split at h0' <;> simp_all
  subst hsp
  refine ⟨b, o, hA, fun j hj => ?_⟩
  obtain ⟨ad2, hA2, h2⟩ := Kd.at_int hC (j : Int) (by omega) (by omega)
  rw [hA] at hA2
  cases hA2
  rw [Int.toNat_natCast] at h2
  have e : (⟨b, o, none⟩ : Addr).add j = ⟨b, o + j, none⟩ := by
    unfold Addr.add
    split <;> simp_all
  rw [e] at h2
  exact h2
/-- The decoder's answer: the list, its score, the error's number. -/
def decOf (xs : List Int) : List Int × Int × Int :=
  if xs.length % 4 ≠ 0 ∨ xs.length < 24 ∨ 16408 < xs.length then ([], 0, 1)
  else if ∃ x ∈ xs, x ≠ clip x then ([], 0, 5)
  else (way (fun j => xs.getD j 0) (xs.length / 4 - 6) (xs.length / 4) (xs.length / 4 - 6), cv (fun j => xs.getD j 0) (xs.length / 4 - 6) (xs.length / 4) 0 0, 0)

set_option maxHeartbeats 3200000 in
set_option maxRecDepth 100000 in
theorem Decode_any (xs : List Int) (A : Option Addr) (c : Nat) (w : World) (hC : (Kd.int .i64).C w A xs.length xs) (hc : xs.length ≤ c) (hn : xs.length ≤ 140737488355328) (ht : Taps w) :
    Calls Tryd.prog 14 #[.slice A xs.length c] w fun e w' =>
      ∃ v, e = .returned (.tuple #[v, .int .i64 (decOf xs).2.1, .int .i64 (decOf xs).2.2]) ∧ (Kd.int .u8).R 5 w' w.heap.size (fun _ => True) v (decOf xs).1 ∧ Below w.heap.size w w' := by
  have HI := Aside0.mk (fun W (hW : (Kd.int .i64).C W A xs.length xs) => ContainsFunc_any xs A c W hW hc hn)
  have HC := Aside0.mk (And.intro hC ht)
  obtain ⟨D, hD⟩ : ∃ D, decOf xs = D := ⟨_, rfl⟩
  have HD := Aside0.mk hD
  rw [hD]
  clear hC hD
  have q1 : (xs.length : Int).tdiv 4 = ((xs.length / 4 : Nat) : Int) := by rw [Int.tdiv_eq_ediv_of_nonneg (by omega)]; omega
  have q2 : (xs.length : Int).tmod 4 = ((xs.length % 4 : Nat) : Int) := by rw [Int.tmod_eq_emod_of_nonneg (by omega)]; omega
  obtain ⟨L, hL⟩ : ∃ L, xs.length = L := ⟨_, rfl⟩
  have HL := Aside0.mk hL
  rw [hL] at q1 q2 hc hn HI HC
  rw [hL]
  clear hL
  obtain ⟨s, hs⟩ : ∃ s, L / 4 = s := ⟨_, rfl⟩
  obtain ⟨m, hm⟩ : ∃ m, L % 4 = m := ⟨_, rfl⟩
  have q3 : wrap64 (s : Int) = (s : Int) := by unfold wrap64; omega
  have q4 : wrap64 ((s : Int) - 6) = (s : Int) - 6 := by unfold wrap64; omega
  rw [hs] at q1
  rw [hm] at q2
  have HS := Aside0.mk (And.intro hs hm)
  clear hs hm
  by_cases c1 : m = 0
  · subst c1
    by_cases c2 : s < 6
    · obtain rfl : D = ([], 0, 1) := by rw [← HD.out]; unfold decOf; rw [if_pos]; have := HS.out; have := HL.out; omega
      have c2' : (s : Int) - 6 < 0 := by omega
      go_enter Tryd.func14, Tryd.ntmps14
      go_wp2_with (first | (go_at_call 41; refine (Steps_zero _).mono ?_; rintro e w1 ⟨rfl, q0, rfl⟩))
      go_ret3
      exact ⟨_, rfl, Kd.R_nil _ _ _ _ _, pw_below_drewN (Below.refl _ _) _⟩
    · have c2' : ¬ (s : Int) - 6 < 0 := by omega
      by_cases c3 : 4102 < s
      · obtain rfl : D = ([], 0, 1) := by rw [← HD.out]; unfold decOf; rw [if_pos]; have := HS.out; have := HL.out; omega
        have c3' : 4096 < (s : Int) - 6 := by omega
        go_enter Tryd.func14, Tryd.ntmps14
        go_wp2_with (first | (go_at_call 41; refine (Steps_zero _).mono ?_; rintro e w1 ⟨rfl, q0, rfl⟩))
        go_ret3
        exact ⟨_, rfl, Kd.R_nil _ _ _ _ _, pw_below_drewN (Below.refl _ _) _⟩
      · have c3' : ¬ 4096 < (s : Int) - 6 := by omega
        by_cases c4 : ∃ x ∈ xs, x ≠ clip x
        · obtain rfl : D = ([], 0, 5) := by rw [← HD.out]; unfold decOf; rw [if_neg (by have := HS.out; have := HL.out; omega), if_pos c4]
          have hd : decide (∃ x ∈ xs, x ≠ clip x) = true := decide_eq_true c4
          have HI2 := HI.out
          rw [hd] at HI2
          have HI3 := Aside0.mk HI2
          clear HI HI2 hd c4
          go_enter Tryd.func14, Tryd.ntmps14
          go_wp2_with (first | (go_at_call 41; refine (Steps_zero _).mono ?_; rintro e w1 ⟨rfl, q0, rfl⟩) | (go_at_call 42; refine (HI3.out _ (Kd.C_drewN HC.out.1 _)).mono ?_; rintro e w2 ⟨rfl, q9, rfl⟩))
          go_ret3
          exact ⟨_, rfl, Kd.R_nil _ _ _ _ _, pw_below_drewN (Below.refl _ _) _⟩
        · have hd : decide (∃ x ∈ xs, x ≠ clip x) = false := decide_eq_false c4
          have HI2 := HI.out
          rw [hd] at HI2
          have HI3 := Aside0.mk HI2
          obtain ⟨N, hN⟩ : ∃ N, s = N + 6 := ⟨s - 6, by omega⟩
          have q1' : (L : Int).tdiv 4 = (N : Int) + 6 := by rw [q1]; omega
          have q3' : wrap64 ((N : Int) + 6) = (N : Int) + 6 := by unfold wrap64; omega
          have q4' : wrap64 (N : Int) = (N : Int) := by unfold wrap64; omega
          have c2'' : ¬ (N : Int) < 0 := by omega
          have c3'' : ¬ 4096 < (N : Int) := by omega
          obtain ⟨lb, lo, hA, hcell⟩ := row_form HC.out.1 (by have := HS.out; omega)
          subst hA
          obtain ⟨f, hf⟩ : ∃ f : Nat → Int, (fun j => xs.getD j 0) = f := ⟨_, rfl⟩
          have hfx : ∀ j, xs.getD j 0 = f j := fun j => congrFun hf j
          have hin : ∀ j, -1000 ≤ f j ∧ f j ≤ 1000 := by
            intro j
            rw [← hfx]
            by_cases hj : j < xs.length
            · have hm : xs.getD j 0 ∈ xs := by rw [List.getD_eq_getElem?_getD, List.getElem?_eq_getElem hj]; exact List.getElem_mem hj
              have h1 : xs.getD j 0 = clip (xs.getD j 0) := Classical.byContradiction fun h => c4 ⟨_, hm, h⟩
              rw [h1]
              unfold clip
              omega
            · rw [List.getD_eq_getElem?_getD, List.getElem?_eq_none (by omega)]
              exact ⟨by decide, by decide⟩
          obtain rfl : D = (way f N s N, cv f N s 0 0, 0) := by
            rw [← HD.out]; unfold decOf; rw [if_neg (by have := HS.out; have := HL.out; omega), if_neg c4, hf, HL.out, HS.out.1, hN]; rfl
          have H4 := Aside0.mk (And.intro hin (And.intro (fun j (hj : j < 4 * s) => (hcell j (by have := HS.out; omega)).trans (by rw [hfx])) (And.intro hN (show L = 4 * s by have := HS.out; omega))))
          clear HI HI2 hd c4 q1 q3 q4 c2' c3' hN hcell hin hf hfx
          go_enter Tryd.func14, Tryd.ntmps14
          go_upto_region 6 with (first | (go_at_call 41; refine (Steps_zero _).mono ?_; rintro e w1 ⟨rfl, q0, rfl⟩) | (go_at_call 42; refine (HI3.out _ (Kd.C_drewN HC.out.1 _)).mono ?_; rintro e w2 ⟨rfl, q9, rfl⟩))
          have HT := HC.out.2.below (pw_below_drewN (Below.refl w.heap.size w) (q0 + q9))
          refine wp_region_lit ?_
          refine wpList_step (fun K hK => ?_)
          go_simp
          go_at_call 45
          refine (build_any _ HT).mono ?_
          rintro e w1 ⟨G, rfl, hG, hB1⟩
          have HB1 := Aside0.mk (And.intro hG hB1)
          clear hG hB1
          refine hK _ _ ?_
          clear hK K
          refine wpList_plain rfl (fun _ hK => ?_)
          go_simp
          refine hK _ _ ?_
          clear hK
          refine wpList_plain rfl (fun _ hK => ?_)
          go_simp
          refine hK _ _ ?_
          clear hK
          refine wpList_plain rfl (fun _ hK => ?_)
          go_simp
          refine hK _ _ ?_
          clear hK
          refine wpList_plain rfl (fun _ hK => ?_)
          go_simp
          refine hK _ _ ?_
          clear hK
          have hG1 := HB1.out.1.1
          have hG2 := HB1.out.1.one
          have hth : (w1.alloc (.cells Tryd.zeroCells76 76)).there w1.heap.size 0 G.size := there_of_row (heap_alloc_new w1 _) (by rw [hG1]; exact Nat.le_of_eq zero76.symm)
          refine wpList_store_mid rfl 76 _ _ rfl w1.heap.size 0 G rfl rfl hth (by rw [hG1]; exact info76) hG2 ?_
          clear hth
          refine wpList_plain rfl (fun _ hK => ?_)
          go_simp
          refine hK _ _ ?_
          clear hK
          refine wpList_nil ?_
          obtain ⟨W, hW⟩ : ∃ W, (World.setCells (w1.alloc (.cells Tryd.zeroCells76 76)) w1.heap.size 0 G.toList) = W := ⟨_, rfl⟩
          change Exit.then _ _ .normal _ (World.setCells (w1.alloc (.cells Tryd.zeroCells76 76)) w1.heap.size 0 G.toList)
          rw [hW]
          have hWG : W.heap[w1.heap.size]? = some (.cells G 76 (0, 0)) := by
            obtain ⟨A', h1, h2, h3⟩ := setCells_row G.toList 0 (w1.alloc (.cells Tryd.zeroCells76 76)) _ (heap_alloc_new w1 _) (by rw [Array.length_toList, hG1, zero76]; omega)
            have hAA : A' = G := by
              apply Array.toList_inj.1
              rw [h3]
              simp only [List.take_zero, List.nil_append, Nat.zero_add]
              rw [List.drop_of_length_le (by rw [Array.length_toList, Array.length_toList, hG1, zero76]; exact Nat.le_refl _), List.append_nil]
            rw [← hW]
            rw [hAA] at h1
            exact h1
          have hBW : Below w.heap.size w W := by
            rw [← hW]
            exact below_setCells (HB1.out.2.size) _ _ _ ((pw_below_drewN (Below.refl _ _) _).trans (below_alloc (HB1.out.2) _))
          have HW := Aside0.mk (And.intro hWG hBW)
          clear hW hWG hBW hG1 hG2
          go_upto_region 9 with fail
          have HC3 := Aside0.mk (columns_any f H4.out.1 N s L lb lo c w1.heap.size G H4.out.2.2.2 hc (by have := H4.out.2.2.1; omega) (by have := H4.out.2.2.1; omega) W (fun j hj => below_cell HW.out.2 (H4.out.2.1 j hj)) HW.out.1 HB1.out.1)
          go_upto_region 10 with (go_at_call 46; refine HC3.out.mono ?_; rintro e w3 ⟨A, rfl, hA3, hM3, hB3⟩; have H3 := Aside0.mk (And.intro hA3 (And.intro hM3 hB3)); clear hA3 hM3 hB3)
          obtain ⟨C0, hC0⟩ : ∃ C0, cv f N s 0 0 = C0 := ⟨_, rfl⟩
          obtain ⟨WY, hWY⟩ : ∃ WY, way f N s N = WY := ⟨_, rfl⟩
          have hb3 : Below W.heap.size W w3.drew := pw_below_drewN H3.out.2.2 1
          have k0 : w3.drew.cell? ⟨W.heap.size, 0, none⟩ = some (.int .i64 C0) := by
            rw [← hC0]
            exact col_cell (t := 0) (k := 0) (w := w3) (cb := W.heap.size) (steps := s) (n := N) (f := f) H3.out.1 H3.out.2.1 (pw_below_drewN (Below.refl _ _) 1) (by have := H4.out.2.2.1; omega) (by omega)
          have hc4 := trace_any f H4.out.1 N s L lb lo c w1.heap.size W.heap.size G A H4.out.2.2.2 hc (by have := H4.out.2.2.1; omega) (by have := H4.out.2.2.1; omega) w3.drew (fun j hj => below_cell hb3 (below_cell HW.out.2 (H4.out.2.1 j hj))) (below_cell_blk hb3 HW.out.1) HB1.out.1 H3.out.1 H3.out.2.1
          have hbw : Below w.heap.size w w3.drew := HW.out.2.trans (hb3.mono HW.out.2.size)
          rw [hWY] at hc4
          have HC0 := Aside0.mk (And.intro hC0 hWY)
          have HC4 := Aside0.mk (And.intro hc4 hbw)
          clear hc4 hb3 hC0 hWY hbw
          have hs1 : (0 : Int) < (s : Int) + 1 := by omega
          go_region_held3 (fun w' => w'.cell? ⟨W.heap.size, 0, none⟩ = some (.int .i64 C0)) (first | go_keep) (first | (go_at_call 47; refine HC4.out.1.mono ?_; rintro e w4 ⟨v, rfl, hR4, hB4⟩; have k2 := below_cell hB4 k0; have H5 := Aside0.mk (And.intro hR4 hB4); clear hR4 hB4))
          all_goals go_wp2_with fail
          all_goals go_ret3
          all_goals (refine ⟨v, ?_, ?_, ?_⟩)
          · show Ending.returned (.tuple #[v, .int .i64 C0, .int .i64 0]) = _
            rw [HC0.out.1]
          · show (Kd.int .u8).R 5 w4 w.heap.size (fun x => True) v (way f N s N)
            rw [HC0.out.2]
            exact Kd.R_lower H5.out.1 HC4.out.2.size
          · exact HC4.out.2.trans (H5.out.2.mono HC4.out.2.size)
  · obtain rfl : D = ([], 0, 1) := by rw [← HD.out]; unfold decOf; rw [if_pos]; have := HS.out; have := HL.out; omega
    have c1' : ((m : Int) != 0) = true := by simpa using c1
    go_enter Tryd.func14, Tryd.ntmps14
    go_wp2_with (first | (go_at_call 41; refine (Steps_zero _).mono ?_; rintro e w1 ⟨rfl, q0, rfl⟩))
    all_goals go_ret3
    all_goals exact ⟨_, rfl, Kd.R_nil _ _ _ _ _, pw_below_drewN (Below.refl _ _) _⟩
end Go.Proofs.YticiilolmkbncaaDoor.Vit
