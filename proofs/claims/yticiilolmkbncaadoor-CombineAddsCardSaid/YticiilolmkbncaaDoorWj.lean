/- Contracts for the law CombineAdds: the combiner's refusals, and no buffer at all. Each theorem says its own conditions. -/
import Derived.Test.YticiilolmkbncaaDoorWf
namespace Go.Proofs.YticiilolmkbncaaDoor.Vit
open Go.RowKit Go.Proofs.YticiilolmkbncaaDoorW.PrintWords Go.Proofs.YticiilolmkbncaaDoorW.PrintLast Go.Proofs.YticiilolmkbncaaDoorW.PrintMore Go.Proofs.YticiilolmkbncaaDoor.Mem
attribute [local go_sem] max2_int min2_int max_two min_two max_three min_three max_four min_four   -- for this text's walks alone
set_option linter.unusedVariables false
set_option linter.unusedSimpArgs false

theorem none_any (w : World) : Calls Tryd.prog 36 #[] w fun e w' => e = .returned (.pointer none) ∧ w = w' := by
  go_enter Tryd.func36, Tryd.ntmps36
  go_wp2_with fail
  go_ret
  exact ⟨rfl, rfl⟩
theorem nil_reset (w : World) : Calls Tryd.prog 32 #[.pointer none] w fun e w' => e = .returned (.tuple #[]) ∧ w = w' := by
  go_enter Tryd.func32, Tryd.ntmps32
  go_wp2_with fail
  go_end0
  exact ⟨rfl, rfl⟩
theorem nil_decode (w : World) : Calls Tryd.prog 31 #[.pointer none] w fun e w' => e = .returned (.tuple #[.slice none 0 0, .int .i64 1]) ∧ w = w' := by
  go_enter Tryd.func31, Tryd.ntmps31
  go_wp2_with fail
  go_ret2
  exact ⟨rfl, rfl⟩
set_option maxRecDepth 100000 in
theorem nil_add (v : Int) (s : Value) (w : World) : Calls Tryd.prog 28 #[.pointer none, .int .i64 v, s] w fun e w' => e = .returned (.int .i64 1) ∧ w = w' := by
  go_enter Tryd.func28, Tryd.ntmps28
  go_wp2_with fail
  go_ret
  exact ⟨rfl, rfl⟩
theorem nil_soft (w : World) : Calls Tryd.prog 34 #[.pointer none] w fun e w' => e = .returned (.slice none 0 0) ∧ w = w' := by
  go_enter Tryd.func34, Tryd.ntmps34
  go_wp2_with fail
  go_ret
  exact ⟨rfl, rfl⟩
theorem nil_bits (w : World) : Calls Tryd.prog 37 #[.pointer none] w fun e w' => e = .returned (.int .i64 0) ∧ w = w' := by
  go_enter Tryd.func37, Tryd.ntmps37
  go_wp2_with fail
  go_ret
  exact ⟨rfl, rfl⟩
theorem nil_counts (w : World) : Calls Tryd.prog 35 #[.pointer none] w fun e w' => e = .returned (.agg #[.int .i64 0, .int .i64 0, .int .i64 0, .int .i64 0]) ∧ Below w.heap.size w w' := by
  go_enter Tryd.func35, Tryd.ntmps35
  go_wp2_with fail
  exact bodyPost_ret (v := .agg #[.int .i64 0, .int .i64 0, .int .i64 0, .int .i64 0]) (by simp [results, Tryd.results35, go_sem]) rfl ⟨rfl, below_alloc (Below.refl _ _) _⟩
theorem New_bad (n : Int) (hn : n < 0 ∨ 4096 < n) (w : World) : Calls Tryd.prog 25 #[.int .i64 n] w fun e w' => e = .returned (.tuple #[.pointer none, .int .i64 1]) ∧ w = w' := by
  by_cases h0 : n < 0
  · have d0 : decide (n < 0) = true := decide_eq_true h0
    go_enter Tryd.func25, Tryd.ntmps25
    go_wp2_with fail
    go_ret2
    exact ⟨rfl, rfl⟩
  · have h1 : 4096 < n := by omega
    have d0 : decide (n < 0) = false := decide_eq_false h0
    have d1 : decide (4096 < n) = true := decide_eq_true h1
    clear hn
    go_enter Tryd.func25, Tryd.ntmps25
    go_wp2_with fail
    go_ret2
    exact ⟨rfl, rfl⟩
set_option maxRecDepth 100000 in
theorem Add_arg (w : World) (b : Nat) (v : Int) (hv : v < 0 ∨ 3 < v) (s : Value) :
    Calls Tryd.prog 28 #[.pointer (some ⟨b, 0, none⟩), .int .i64 v, s] w fun e w' => e = .returned (.int .i64 1) ∧ w = w' := by
  by_cases h0 : v < 0
  · have d0 : decide (v < 0) = true := decide_eq_true h0
    go_enter Tryd.func28, Tryd.ntmps28
    go_wp2_with fail
    go_ret
    exact ⟨rfl, rfl⟩
  · have h1 : (4 : Int) ≤ v := by omega
    have d0 : decide (v < 0) = false := decide_eq_false h0
    have d1 : decide ((4 : Int) ≤ v) = true := decide_eq_true h1
    clear hv
    go_enter Tryd.func28, Tryd.ntmps28
    go_wp2_with fail
    go_ret
    exact ⟨rfl, rfl⟩
set_option maxRecDepth 100000 in
theorem Add_bad (w : World) (b sb n : Nat) (xs : List Int) (cs : Nat → Nat) (hI : IsBuf w b sb n xs cs) (v : Nat) (hv : v < 4) (p : List Int) (A : Option Addr) (m c : Nat) (hC : (Kd.int .u8).C w A m p) (hc : m ≤ c) (hm : m ≤ 1000000) (hbad : (∃ x ∈ p, 1 < x) ∨ m ≠ n + 6) :
    Calls Tryd.prog 28 #[.pointer (some ⟨b, 0, none⟩), .int .i64 (v : Int), .slice A m c] w fun e w' => e = .returned (.int .i64 (if ∃ x ∈ p, 1 < x then 5 else 13)) ∧ ∃ q, w' = w.drewN q := by
  have hright := BRight_any p A m c w hC hc (by omega)
  have hle := hI.le
  have M0 : w.cell? ⟨b, 0, none⟩ = some (.int .i64 (n : Int)) := blk_cell hI.blk 0
  have d1 : ¬ (v : Int) < 0 := by omega
  have d2 : ¬ (4 : Int) ≤ (v : Int) := by omega
  have d3 : decide ((v : Int) < 0) = false := decide_eq_false d1
  have d4 : decide ((4 : Int) ≤ (v : Int)) = false := decide_eq_false d2
  have d5 : decide (4 ≤ v) = false := decide_eq_false (by omega)
  by_cases hx : ∃ x ∈ p, 1 < x
  · rw [decide_eq_true hx] at hright
    rw [if_pos hx]
    have HR := Aside0.mk hright
    clear hright hx hbad hI
    go_enter Tryd.func28, Tryd.ntmps28
    go_wp2_with (go_at_call 52; refine HR.out.mono ?_; rintro e w1 ⟨rfl, q1, hw1⟩; have HW1 := Aside0.mk hw1; clear hw1)
    go_ret
    exact ⟨rfl, q1, HW1.out⟩
  · rw [decide_eq_false hx] at hright
    rw [if_neg hx]
    have hmn : m ≠ n + 6 := hbad.resolve_left hx
    have hne : ((m : Int) != ((n : Int) + 6)) = true := by
      simp
      omega
    have hne2 : ((m : Int) != ((n + 6 : Nat) : Int)) = true := by
      simp
      omega
    have HR := Aside0.mk hright
    clear hright hx hbad hI hmn
    go_enter Tryd.func28, Tryd.ntmps28
    go_upto_region 5 with (go_at_call 52; refine HR.out.mono ?_; rintro e w1 ⟨rfl, q1, hw1⟩; have HW1 := Aside0.mk hw1; clear hw1)
    have M1 : w1.cell? ⟨b, 0, none⟩ = some (.int .i64 (n : Int)) := by rw [HW1.out]; exact M0
    go_wp2_with (go_at_call 53; refine (VBits_any n (by omega) _).mono ?_; rintro e w2 ⟨rfl, rfl⟩)
    go_ret
    exact ⟨rfl, q1, HW1.out⟩
end Go.Proofs.YticiilolmkbncaaDoor.Vit
