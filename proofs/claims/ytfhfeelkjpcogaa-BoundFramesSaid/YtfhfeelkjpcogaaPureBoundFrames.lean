/- Proved: of all windows and ticks it is told how many frames go out at most, or that there is no such bound. No conditions. -/
import Derived.Test.YtfhfeelkjpcogaaPBoundFramesx2
namespace Go.Proofs.Ytfhfeelkjpcogaa.Pure
open Go.RowKit Go.Proofs.Ytfhfeelkjpcogaa.PBoundFrames Go.Proofs.YtfhfeelkjpcogaaW.PrintWords Go.Proofs.YtfhfeelkjpcogaaW.PrintLast Go.Proofs.YtfhfeelkjpcogaaW.PrintMore

theorem bf_w64 {n : Int} (h0 : -9223372036854775808 ≤ n) (h1 : n ≤ 9223372036854775807) : wrap64 n = n := by
  unfold wrap64; omega

theorem bf_bounds : shuttlelaw37_bounds.f 5000 = some true := by kernel_rfl

/-- how many tries there are in t ticks -/
def bfT (t : Int) : Int := if t < 1 then 0 else if t < 3 then 1 else if t < 7 then 2 else if t < 15 then 3 else if t < 31 then 4 else 5 + (t - 31) / 16

theorem bf_tot1 : backoff_Total.f 1 = some (2, 0) := by kernel_rfl
theorem bf_tot2 : backoff_Total.f 2 = some (6, 0) := by kernel_rfl
theorem bf_tot3 : backoff_Total.f 3 = some (14, 0) := by kernel_rfl
theorem bf_tot4 : backoff_Total.f 4 = some (30, 0) := by kernel_rfl

theorem bf_tries (k : Nat) (t : Int) (h : t ≤ 1000000) : bound_tries.f (k + 5) t = some (bfT t) := by
  unfold bound_tries.f bfT
  by_cases h1 : t < 1
  · rw [if_pos h1, if_pos h1]
  · rw [if_neg h1, if_neg h1]
    have w1 : wrap64 (0 + 1) = 1 := by kernel_rfl
    have w2 : wrap64 (1 + 1) = 2 := by kernel_rfl
    have w3 : wrap64 (2 + 1) = 3 := by kernel_rfl
    have w4 : wrap64 (3 + 1) = 4 := by kernel_rfl
    have v1 : wrap64 (1 + 2) = 3 := by kernel_rfl
    have v2 : wrap64 (1 + 6) = 7 := by kernel_rfl
    have v3 : wrap64 (1 + 14) = 15 := by kernel_rfl
    have v4 : wrap64 (1 + 30) = 31 := by kernel_rfl
    simp only [bound_tries.l0]
    rw [w1, w2, w3, w4, bf_tot1, bf_tot2, bf_tot3, bf_tot4]
    simp only [Option.bind_some, if_true]
    rw [v1, v2, v3, v4, if_pos (show (0 : Int) < 4 by omega), if_pos (show (1 : Int) < 4 by omega), if_pos (show (2 : Int) < 4 by omega), if_pos (show (3 : Int) < 4 by omega), if_neg (show ¬ (4 : Int) < 4 by omega)]
    by_cases h2 : t < 3
    · rw [if_pos h2, if_pos h2]
    · rw [if_neg h2, if_neg h2]
      by_cases h3 : t < 7
      · rw [if_pos h3, if_pos h3]
      · rw [if_neg h3, if_neg h3]
        by_cases h4 : t < 15
        · rw [if_pos h4, if_pos h4]
        · rw [if_neg h4, if_neg h4]
          by_cases h5 : t < 31
          · rw [if_pos h5, if_pos h5]
          · rw [if_neg h5, if_neg h5, bf_w64 (n := t - 1) (by omega) (by omega), bf_w64 (n := t - 1 - 30) (by omega) (by omega), Int.tdiv_eq_ediv_of_nonneg (by omega), bf_w64 (n := (t - 1 - 30) / 16) (by omega) (by omega), bf_w64 (by omega) (by omega)]
            have : t - 1 - 30 = t - 31 := by omega
            rw [this]

/-- frames of a window in t ticks -/
def bfF (s t : Int) : Int := s * (if bfT t > 0 then bfT t + 3 else bfT t)

theorem bfT_bd (t : Int) (h : t ≤ 1000000) : 0 ≤ bfT t ∧ bfT t ≤ 62504 := by
  unfold bfT
  repeat' split
  all_goals omega

theorem bf_small {s x : Int} (h0 : 0 ≤ s) (h1 : s ≤ 32) (h2 : 0 ≤ x) (h3 : x ≤ 100000) : 0 ≤ s * x ∧ s * x ≤ 3200000 := by
  have := Int.mul_nonneg h0 h2
  have h4 : s * x ≤ 32 * 100000 := Int.mul_le_mul h1 h3 h2 (by omega)
  exact ⟨this, by omega⟩

theorem bf_in (k : Nat) {s t : Int} (h1 : 1 ≤ s) (h2 : s ≤ 32) (h3 : 0 ≤ t) (h4 : t ≤ 1000000) :
    bound_Frames.f (k + 6) s t = some (bfF s t, 0) := by
  unfold bound_Frames.f bound_within.f
  rw [if_pos h1]; simp only [Option.bind_some]
  rw [if_pos (by simpa using h2), if_pos h3]; simp only [Option.bind_some]
  simp only [bound_Frames.j0]
  rw [if_neg (by simpa using h4), bf_tries k t h4]
  simp only [Option.bind_some]
  have hb := bfT_bd t h4
  unfold bfF
  by_cases hp : bfT t > 0
  · rw [if_pos hp, if_pos hp, bf_w64 (n := bfT t + 3) (by omega) (by omega)]
    have := bf_small (s := s) (x := bfT t + 3) (by omega) h2 (by omega) (by omega)
    rw [bf_w64 (by omega) (by omega)]
  · rw [if_neg hp, if_neg hp]
    have := bf_small (s := s) (x := bfT t) (by omega) h2 (by omega) (by omega)
    rw [bf_w64 (by omega) (by omega)]

theorem bf_out (k : Nat) {s t : Int} (h : s < 1 ∨ s > 32 ∨ t < 0 ∨ t > 1000000) : bound_Frames.f (k + 1) s t = some (0, 1) := by
  unfold bound_Frames.f bound_within.f
  by_cases h1 : s ≥ 1
  · rw [if_pos h1]; simp only [Option.bind_some]
    by_cases h2 : s ≤ 32
    · rw [if_pos (by simpa using h2)]
      by_cases h3 : t ≥ 0
      · rw [if_pos h3]; simp only [Option.bind_some, bound_Frames.j0]; rw [if_pos (by simp; omega)]
      · rw [if_neg h3]; simp [bound_Frames.j0]
    · rw [if_neg (by simpa using h2)]; simp [bound_Frames.j0]
  · rw [if_neg h1]; simp [bound_Frames.j0]

/-- the wait behind so many tries -/
def bfW (n : Int) : Int := if n ≤ 1 then 2 else if n = 2 then 4 else if n = 3 then 8 else 16

theorem bf_wait (k : Nat) (n : Int) : shuttleref20_Wait.f (k + 5) n = some (bfW n) := by
  unfold shuttleref20_Wait.f bfW
  have w1 : wrap64 (2 * 2) = 4 := by kernel_rfl
  have w2 : wrap64 (2 * 4) = 8 := by kernel_rfl
  have w3 : wrap64 (2 * 8) = 16 := by kernel_rfl
  have v1 : wrap64 (1 + 1) = 2 := by kernel_rfl
  have v2 : wrap64 (2 + 1) = 3 := by kernel_rfl
  have v3 : wrap64 (3 + 1) = 4 := by kernel_rfl
  simp only [shuttleref20_Wait.l0]
  rw [w1, w2, w3, v1, v2, v3, if_pos (show (2 : Int) < 16 by omega), if_pos (show (4 : Int) < 16 by omega), if_pos (show (8 : Int) < 16 by omega), if_neg (show ¬ (16 : Int) < 16 by omega)]
  by_cases h1 : n ≤ 1
  · rw [if_pos h1, if_neg (by omega)]
  · rw [if_neg h1, if_pos (by omega)]
    by_cases h2 : n = 2
    · rw [if_pos h2, if_neg (by omega)]
    · rw [if_neg h2, if_pos (by omega)]
      by_cases h3 : n = 3
      · rw [if_pos h3, if_neg (by omega)]
      · rw [if_neg h3, if_pos (by omega)]
        split <;> rfl

/-- when the try behind n tries is due -/
def bfD (n : Int) : Int := if n ≤ 0 then 1 else if n = 1 then 3 else if n = 2 then 7 else if n = 3 then 15 else 31 + 16 * (n - 4)

theorem bfT_due {t : Int} (h : 1 ≤ t) (hd : t = bfD (bfT (t - 1))) : bfT t = bfT (t - 1) + 1 := by
  revert hd
  unfold bfD bfT
  repeat' split
  all_goals omega

theorem bfT_not {t : Int} (h : 1 ≤ t) (hd : t ≠ bfD (bfT (t - 1))) (hl : t ≤ bfD (bfT (t - 1))) : bfT t = bfT (t - 1) := by
  revert hd hl
  unfold bfD bfT
  repeat' split
  all_goals omega

theorem bfT_le {t : Int} : t + 1 ≤ bfD (bfT t) := by
  unfold bfD bfT
  repeat' split
  all_goals omega

theorem bfD_step {n : Int} (h : 0 ≤ n) : bfD (n + 1) = bfD n + bfW (n + 1) := by
  unfold bfD bfW
  repeat' split
  all_goals omega

def bfN (n : Int) : Int := if n > 0 then n + 3 else n

set_option maxHeartbeats 2000000 in
theorem bf_ref (d : Nat) : ∀ (k : Nat) (s t x : Int), 1 ≤ s → s ≤ 32 → x ≤ 4000 → 1 ≤ t → t ≤ x + 1 → x + 1 - t = d → d + 6 ≤ k →
    shuttleref37_Frames.l0 k s x (bfN (bfT (t - 1))) (bfT (t - 1)) (bfD (bfT (t - 1))) t = some (s * bfN (bfT x)) := by
  induction d with
  | zero =>
    intro k s t x hs1 hs2 hx ht1 ht2 hd hk
    obtain ⟨k, rfl⟩ : ∃ m, k = m + 1 := ⟨k - 1, by omega⟩
    have e : t - 1 = x := by omega
    have hb := bfT_bd x (by omega)
    simp only [shuttleref37_Frames.l0]
    rw [if_neg (by omega), e]
    have := bf_small (s := s) (x := bfN (bfT x)) (by omega) hs2 (by unfold bfN; split <;> omega) (by unfold bfN; split <;> omega)
    rw [bf_w64 (by omega) (by omega)]
  | succ d ih =>
    intro k s t x hs1 hs2 hx ht1 ht2 hd hk
    obtain ⟨k, rfl⟩ : ∃ m, k = m + 6 := ⟨k - 6, by omega⟩
    have hb := bfT_bd (t - 1) (by omega)
    have ih1 := ih (k + 5) s (t + 1) x hs1 hs2 hx (by omega) (by omega) (by omega) (by omega)
    have e : t + 1 - 1 = t := by omega
    rw [e] at ih1
    have hl : t ≤ bfD (bfT (t - 1)) := by have := bfT_le (t := t - 1); omega
    have hw : wrap64 (t + 1) = t + 1 := bf_w64 (by omega) (by omega)
    simp only [shuttleref37_Frames.l0]
    rw [if_pos (by omega), hw]
    by_cases hdue : t = bfD (bfT (t - 1))
    · have hT := bfT_due ht1 hdue
      have hD := bfD_step hb.1
      rw [if_pos hdue, bf_w64 (n := bfT (t - 1) + 1) (by omega) (by omega)]
      have hN0 : 0 ≤ bfN (bfT (t - 1)) ∧ bfN (bfT (t - 1)) ≤ 70000 := by unfold bfN; split <;> omega
      have hW : 2 ≤ bfW (bfT (t - 1) + 1) ∧ bfW (bfT (t - 1) + 1) ≤ 16 := by unfold bfW; repeat' split <;> omega
      rw [bf_w64 (n := bfN (bfT (t - 1)) + 1) (by omega) (by omega), bf_wait k, Option.bind_some, Option.bind_some, bf_w64 (n := t + bfW (bfT (t - 1) + 1)) (by omega) (by omega), bf_w64 (n := bfN (bfT (t - 1)) + 1 + 3) (by omega) (by omega)]
      rw [← hT] at hD ⊢
      have hD' : t + bfW (bfT t) = bfD (bfT t) := by omega
      rw [hD']
      by_cases h1 : bfT t = 1
      · rw [if_pos h1]
        have : bfN (bfT (t - 1)) + 1 + 3 = bfN (bfT t) := by unfold bfN; rw [if_neg (by omega), if_pos (by omega)]; omega
        rw [this]; exact ih1
      · rw [if_neg h1]
        have : bfN (bfT (t - 1)) + 1 = bfN (bfT t) := by unfold bfN; rw [if_pos (by omega), if_pos (by omega)]; omega
        rw [this]; exact ih1
    · have hT := bfT_not ht1 hdue hl
      rw [if_neg hdue, ← hT]; exact ih1

theorem bf_ref0 (s x : Int) (hs1 : 1 ≤ s) (hs2 : s ≤ 32) (hx0 : 0 ≤ x) (hx : x ≤ 4000) : shuttleref37_Frames.f 4999 s x = some (bfF s x) :=
  bf_ref x.toNat 4999 s 1 x hs1 hs2 hx (by omega) (by omega) (by omega) (by omega)

theorem bfT_late {t : Int} (h : 4000 < t) : bfT t = bfT (t - 16) + 1 := by
  unfold bfT
  repeat' split
  all_goals omega

theorem BoundFrames : shuttlelaw37_BoundFrames.Pure := by
  intro s t _ _
  refine ⟨5000, ?_⟩
  unfold shuttlelaw37_BoundFrames.f
  rw [bf_bounds]
  by_cases h : s < 1 ∨ s > 32 ∨ t < 0 ∨ t > 1000000
  · rw [bf_out 4999 h]; simp only [Option.bind_some, if_true]
    have hd : t > 1000000 → decide (t > 1000000) = true := fun h => decide_eq_true h
    have hj : shuttlelaw37_BoundFrames.j0 5000 s t 0 1 true = some true := by
      simp [shuttlelaw37_BoundFrames.j0]
    rcases h with h | h | h | h
    · rw [if_pos h, hj]
    · rw [if_pos h, hj]; simp
    · rw [if_pos h, hj]; simp
    · rw [hd h, hj]; simp
  · have h1 : 1 ≤ s := by omega
    have h2 : s ≤ 32 := by omega
    have h3 : 0 ≤ t := by omega
    have h4 : t ≤ 1000000 := by omega
    rw [bf_in 4994 h1 h2 h3 h4]; simp only [Option.bind_some, if_true]
    rw [if_neg (by omega), if_neg (by omega), if_neg (by omega), decide_eq_false (by omega)]
    simp only [shuttlelaw37_BoundFrames.j0]
    rw [if_neg (by simp)]
    simp only [if_true]
    by_cases h5 : t > 4000
    · rw [if_pos h5, bf_w64 (n := t - 16) (by omega) (by omega), bf_in 4993 h1 h2 (by omega) (by omega)]
      simp only [Option.bind_some, if_true]
      have hb := bfT_bd (t - 16) (by omega)
      have hl := bfT_late h5
      have hp : 0 < bfT (t - 16) := by unfold bfT; repeat' split <;> omega
      have e1 : bfF s t = s * (bfT (t - 16) + 3) + s := by
        unfold bfF; rw [if_pos (by omega), hl, show bfT (t - 16) + 1 + 3 = (bfT (t - 16) + 3) + 1 by omega, Int.mul_add, Int.mul_one]
      have e2 : bfF s (t - 16) = s * (bfT (t - 16) + 3) := by
        unfold bfF; rw [if_pos (by omega)]
      have := bf_small (s := s) (x := bfT (t - 16) + 3) (by omega) h2 (by omega) (by omega)
      rw [e1, e2, bf_w64 (by omega) (by omega)]; simp
    · rw [if_neg h5, bf_ref0 s t h1 h2 h3 (by omega)]; simp

end Go.Proofs.Ytfhfeelkjpcogaa.Pure
