/- Proved: of all numbers the bound is told, or that there is none, and with more it is never less. No conditions. -/
import Derived.Test.YtfhfeelkjpcogaaPBoundTicksx1
namespace Go.Proofs.Ytfhfeelkjpcogaa.Pure
open Go.RowKit Go.Proofs.Ytfhfeelkjpcogaa.PBoundTicks Go.Proofs.YtfhfeelkjpcogaaW.PrintWords Go.Proofs.YtfhfeelkjpcogaaW.PrintLast Go.Proofs.YtfhfeelkjpcogaaW.PrintMore

theorem bt_w64 {n : Int} (h0 : -9223372036854775808 ≤ n) (h1 : n ≤ 9223372036854775807) : wrap64 n = n := by
  unfold wrap64; omega

theorem bt_bounds : shuttlelaw37_bounds.f 10 = some true := by kernel_rfl

theorem bt_prod {p q : Int} (hp : 0 ≤ p) (hp1 : p ≤ 1002) (hq : 0 ≤ q) (hq1 : q ≤ 1000001) :
    0 ≤ 32 * p * p ∧ 32 * p * p ≤ 32128128 ∧ 0 ≤ 32 * p * p * q ∧ 32 * p * p * q ≤ 32128160128128 := by
  have h1 : 0 ≤ 32 * p * p := Int.mul_nonneg (by omega) hp
  have h2 : 32 * p * p ≤ 32064 * 1002 := Int.mul_le_mul (by omega) hp1 hp (by omega)
  have h3 : 0 ≤ 32 * p * p * q := Int.mul_nonneg h1 hq
  have h4 : 32 * p * p * q ≤ 32128128 * 1000001 := Int.mul_le_mul (by omega) hq1 hq (by omega)
  exact ⟨h1, by omega, h3, by omega⟩

theorem bt_in {a n : Int} (h1 : 1 ≤ a) (h2 : a ≤ 1000) (h3 : 0 ≤ n) (h4 : n ≤ 1000000) :
    bound_Ticks.f a n = some (32 * (a + 2) * (a + 2) * (n + 1), 0) := by
  have hb := bt_prod (p := a + 2) (q := n + 1) (by omega) (by omega) (by omega) (by omega)
  unfold bound_Ticks.f bound_within.f
  rw [if_pos h1]; simp only [Option.bind_some]
  rw [if_pos (by simpa using h2), if_pos h3]; simp only [Option.bind_some]
  rw [if_pos (by simpa using h4)]
  rw [bt_w64 (n := a + 2) (by omega) (by omega), bt_w64 (n := 32 * (a + 2)) (by omega) (by omega), bt_w64 (n := 32 * (a + 2) * (a + 2)) (by omega) (by omega), bt_w64 (n := n + 1) (by omega) (by omega), bt_w64 (by omega) (by omega)]

theorem bt_out {a n : Int} (h : a < 1 ∨ a > 1000 ∨ n < 0 ∨ n > 1000000) : bound_Ticks.f a n = some (0, 1) := by
  unfold bound_Ticks.f bound_within.f
  by_cases h1 : a ≥ 1
  · rw [if_pos h1]; simp only [Option.bind_some]
    by_cases h2 : a ≤ 1000
    · rw [if_pos (by simpa using h2)]
      by_cases h3 : n ≥ 0
      · rw [if_pos h3]; simp only [Option.bind_some]; rw [if_neg (by simp; omega)]
      · rw [if_neg h3]; simp
    · rw [if_neg (by simpa using h2)]
  · rw [if_neg h1]; simp

theorem bt_mono {p q p' q' : Int} (hp : 0 ≤ p') (hpp : p' ≤ p) (hq : 0 ≤ q') (hqq : q' ≤ q) : 32 * p' * p' * q' ≤ 32 * p * p * q := by
  have h1 : 32 * p' * p' ≤ 32 * p * p := Int.mul_le_mul (by omega) hpp hp (by omega)
  have h0 : 0 ≤ 32 * p * p := Int.mul_nonneg (by omega) (by omega)
  exact Int.mul_le_mul h1 hqq hq h0

theorem bt_form (a n : Int) : 32 * (a * a + 4 * a + 4) * (n + 1) = 32 * (a + 2) * (a + 2) * (n + 1) := by grind

theorem bt_form1 (a : Int) : 32 * (a * a + 4 * a + 4) = 32 * (a + 2) * (a + 2) := by grind

theorem mx_le {a b c : Int} (h1 : a ≤ c) (h2 : b ≤ c) : mx a b ≤ c := by unfold mx; split <;> assumption
theorem le_mx {a b : Int} : b ≤ mx a b := by unfold mx; split <;> omega

theorem BoundTicks : shuttlelaw37_BoundTicks.Pure := by
  intro a n _ _
  refine ⟨10, ?_⟩
  unfold shuttlelaw37_BoundTicks.f
  rw [bt_bounds]
  by_cases h : a < 1 ∨ a > 1000 ∨ n < 0 ∨ n > 1000000
  · rw [bt_out h]; simp only [Option.bind_some, if_true]
    rcases h with h | h | h | h
    · rw [if_pos h]; rfl
    · rw [if_pos h]; simp
    · rw [if_pos h]; simp
    · rw [if_pos h]; simp
  · have h1 : 1 ≤ a := by omega
    have h2 : a ≤ 1000 := by omega
    have h3 : 0 ≤ n := by omega
    have h4 : n ≤ 1000000 := by omega
    rw [bt_in h1 h2 h3 h4]; simp only [Option.bind_some, if_true]
    rw [if_neg (by omega), if_neg (by omega), if_neg (by omega), if_neg (by omega)]
    have e1 : wrap64 (a - 1) = a - 1 := bt_w64 (by omega) (by omega)
    have e2 : wrap64 (n - 1) = n - 1 := bt_w64 (by omega) (by omega)
    rw [e1, e2, bt_in le_mx (mx_le (by omega) (by omega)) le_mx (mx_le (by omega) (by omega))]
    simp only [Option.bind_some, if_true]
    have hb := bt_prod (p := a + 2) (q := n + 1) (by omega) (by omega) (by omega) (by omega)
    have hs : 0 ≤ a * a := Int.mul_nonneg (by omega) (by omega)
    have hs1 : a * a ≤ 1000 * 1000 := Int.mul_le_mul h2 h2 (by omega) (by omega)
    have hf := bt_form1 a
    rw [bt_w64 (n := a * a) (by omega) (by omega), bt_w64 (n := 4 * a) (by omega) (by omega), bt_w64 (n := a * a + 4 * a) (by omega) (by omega), bt_w64 (n := a * a + 4 * a + 4) (by omega) (by omega), bt_w64 (n := 32 * (a * a + 4 * a + 4)) (by omega) (by omega), hf,
      bt_w64 (n := n + 1) (by omega) (by omega), bt_w64 (n := 32 * (a + 2) * (a + 2) * (n + 1)) (by omega) (by omega), if_pos rfl]
    have hm : mx (a - 1) 1 ≤ a := mx_le (by omega) h1
    have hm2 : mx (n - 1) 0 ≤ n := mx_le (by omega) h3
    have g1 : (1 : Int) ≤ mx (a - 1) 1 := le_mx
    have g2 : (0 : Int) ≤ mx (n - 1) 0 := le_mx
    have := bt_mono (p := a + 2) (q := n + 1) (p' := mx (a - 1) 1 + 2) (q' := mx (n - 1) 0 + 1) (by omega) (by omega) (by omega) (by omega)
    rw [decide_eq_true this]

end Go.Proofs.Ytfhfeelkjpcogaa.Pure
