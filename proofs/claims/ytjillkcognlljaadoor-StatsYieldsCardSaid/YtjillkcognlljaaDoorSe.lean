/- The law StatsYields: of all numbers the yield is told, or that there is none. Each theorem says its own conditions. -/
import Derived.Test.YtjillkcognlljaaDoorSd
namespace Go.Proofs.YtjillkcognlljaaDoor.Vit
open Go.RowKit Go.Proofs.YtjillkcognlljaaDoorW.PrintWords Go.Proofs.YtjillkcognlljaaDoorW.PrintLast Go.Proofs.YtjillkcognlljaaDoorW.PrintMore Go.Proofs.YtjillkcognlljaaDoor.Mem
attribute [local go_sem] max2_int min2_int max_two min_two max_three min_three max_four min_four   -- for this text's walks alone
set_option linter.unusedVariables false
set_option linter.unusedSimpArgs false

theorem Yield_no (s r : Int) (h : s < 1 ∨ r < 0 ∨ 1099511627776 < r) (w : World) : Calls Tryd.prog 11 #[.int .i64 s, .int .i64 r] w fun e w' => e = .returned (.tuple #[.int .i64 0, .bool false]) ∧ w = w' := by
  by_cases h1 : s < 1
  · go_enter Tryd.func11, Tryd.ntmps11
    go_wp2_with fail
    go_ret2
    exact ⟨rfl, rfl⟩
  · by_cases h2 : r < 0
    · have d1 : decide (s < 1) = false := decide_eq_false h1
      have d2 : decide (r < 0) = true := decide_eq_true h2
      go_enter Tryd.func11, Tryd.ntmps11
      go_wp2_with fail
      go_ret2
      exact ⟨rfl, rfl⟩
    · have h3 : 1099511627776 < r := by omega
      have d1 : decide (s < 1) = false := decide_eq_false h1
      have d2 : decide (r < 0) = false := decide_eq_false h2
      have d3 : decide (1099511627776 < r) = true := decide_eq_true h3
      go_enter Tryd.func11, Tryd.ntmps11
      go_wp2_with fail
      go_ret2
      exact ⟨rfl, rfl⟩
theorem Yield_yes (s r : Int) (h1 : ¬ s < 1) (h2 : ¬ r < 0) (h3 : ¬ 1099511627776 < r) (w : World) : Calls Tryd.prog 11 #[.int .i64 s, .int .i64 r] w fun e w' => e = .returned (.tuple #[.int .i64 (1000 * r / s), .bool true]) ∧ w = w' := by
  have d1 : decide (s < 1) = false := decide_eq_false h1
  have d2 : decide (r < 0) = false := decide_eq_false h2
  have d3 : decide (1099511627776 < r) = false := decide_eq_false h3
  have hs0 : (s == 0) = false := by rw [beq_eq_false_iff_ne]; omega
  have hs1 : ¬ s = 0 := by omega
  go_enter Tryd.func11, Tryd.ntmps11
  go_wp2_with fail
  go_ret2
  exact ⟨rfl, rfl⟩
set_option maxHeartbeats 3200000 in
set_option maxRecDepth 100000 in
theorem syields_any (s r : Int) (w : World) (ht : Tab w) : Calls Tryd.prog 4 #[.int .i64 s, .int .i64 r] w fun e w' => e = .returned (.bool true) ∧ Below w.heap.size w w' := by
  by_cases hok : s < 1 ∨ r < 0 ∨ 1099511627776 < r
  · have hY := Yield_no s r hok w
    have hl := lines_any w ht
    have HH := Aside0.mk (And.intro hY hl)
    have HO := Aside0.mk hok
    clear hY hl ht
    by_cases h1 : s < 1
    · clear hok
      have d1 : decide (1 ≤ s) = false := decide_eq_false (by omega)
      go_enter Tryd.func4, Tryd.ntmps4
      go_wp2_with fail
      refine HH.out.1.mono ?_
      rintro e w1 ⟨rfl, rfl⟩
      go_wp2_with fail
      refine HH.out.2.mono ?_
      rintro e w2 ⟨rfl, hB2⟩
      have HB := Aside0.mk hB2
      clear hB2
      go_wp2_with fail
      go_ret
      exact ⟨rfl, HB.out⟩
    · by_cases h2 : r < 0
      · clear hok
        have d1 : decide (1 ≤ s) = true := decide_eq_true (by omega)
        have d2 : decide (0 ≤ r) = false := decide_eq_false (by omega)
        go_enter Tryd.func4, Tryd.ntmps4
        go_wp2_with fail
        refine HH.out.1.mono ?_
        rintro e w1 ⟨rfl, rfl⟩
        go_wp2_with fail
        refine HH.out.2.mono ?_
        rintro e w2 ⟨rfl, hB2⟩
        have HB := Aside0.mk hB2
        clear hB2
        go_wp2_with fail
        go_ret
        exact ⟨rfl, HB.out⟩
      · have h3 : 1099511627776 < r := by omega
        clear hok
        have d1 : decide (1 ≤ s) = true := decide_eq_true (by omega)
        have d2 : decide (0 ≤ r) = true := decide_eq_true (by omega)
        have d3 : decide (r ≤ 1099511627776) = false := decide_eq_false (by omega)
        go_enter Tryd.func4, Tryd.ntmps4
        go_wp2_with fail
        refine HH.out.1.mono ?_
        rintro e w1 ⟨rfl, rfl⟩
        go_wp2_with fail
        refine HH.out.2.mono ?_
        rintro e w2 ⟨rfl, hB2⟩
        have HB := Aside0.mk hB2
        clear hB2
        go_wp2_with fail
        go_ret
        exact ⟨rfl, HB.out⟩
  · have h1 : ¬ s < 1 := fun h => hok (Or.inl h)
    have h2 : ¬ r < 0 := fun h => hok (Or.inr (Or.inl h))
    have h3 : ¬ 1099511627776 < r := fun h => hok (Or.inr (Or.inr h))
    have hY := Yield_yes s r h1 h2 h3 w
    have hl := lines_any w ht
    clear hok ht
    obtain ⟨n, hn⟩ : ∃ n, 1000 * r / s = n := ⟨_, rfl⟩
    rw [hn] at hY
    have e1 := Int.mul_ediv_add_emod (1000 * r) s
    have e2 := Int.emod_nonneg (1000 * r) (show s ≠ 0 by omega)
    have e3 := Int.emod_lt_of_pos (1000 * r) (show 0 < s by omega)
    have e4 := Int.ediv_nonneg (a := 1000 * r) (b := s) (by omega) (by omega)
    rw [hn] at e1 e4
    have e5 := Int.mul_nonneg (show (0 : Int) ≤ s by omega) e4
    obtain ⟨p, hp⟩ : ∃ p, s * n = p := ⟨_, rfl⟩
    rw [hp] at e1 e5
    have hp2 : n * s = p := by rw [Int.mul_comm]; exact hp
    have e6 : p ≤ 1000 * r := by omega
    have e7 : 1000 * r - p < s := by omega
    have d1 : decide (1 ≤ s) = true := decide_eq_true (by omega)
    have d2 : decide (0 ≤ r) = true := decide_eq_true (by omega)
    have d3 : decide (r ≤ 1099511627776) = true := decide_eq_true (by omega)
    have d4 : decide (0 ≤ n) = true := decide_eq_true e4
    have e8 : n ≤ 1000 * r := by
      have h := Int.mul_le_mul_of_nonneg_right (show (1 : Int) ≤ s by omega) e4
      rw [Int.one_mul, hp] at h
      omega
    have d5 : decide (n ≤ 1000 * r) = true := decide_eq_true e8
    have d6 : decide (0 ≤ 1000 * r - p) = true := decide_eq_true (by omega)
    have d7 : decide (1000 * r - p < s) = true := decide_eq_true e7
    have HH := Aside0.mk (And.intro hY hl)
    clear hY hl hn e1 e2 e3 hp
    go_enter Tryd.func4, Tryd.ntmps4
    go_wp2_with fail
    refine HH.out.1.mono ?_
    rintro e w1 ⟨rfl, rfl⟩
    go_wp2_with fail
    refine HH.out.2.mono ?_
    rintro e w2 ⟨rfl, hB2⟩
    have HB := Aside0.mk hB2
    clear hB2
    go_wp2_with fail
    go_ret
    exact ⟨rfl, HB.out⟩
end Go.Proofs.YtjillkcognlljaaDoor.Vit
