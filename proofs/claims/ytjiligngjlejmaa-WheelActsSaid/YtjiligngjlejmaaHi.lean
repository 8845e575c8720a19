/- turns. -/
import Derived.Test.YtjiligngjlejmaaHh
namespace Go.Proofs.Ytjiligngjlejmaa.Vit
open Go.Shelf Go.RowKit Go.Proofs.YtjiligngjlejmaaW.PrintWords Go.Proofs.YtjiligngjlejmaaW.PrintLast Go.Proofs.YtjiligngjlejmaaW.PrintMore Go.Proofs.Ytjiligngjlejmaa.Mem
attribute [local go_sem] max2_int min2_int max_two min_two max_three min_three max_four min_four   -- for this text's walks alone
set_option linter.unusedVariables false
set_option linter.unusedSimpArgs false

theorem row_shape {w : World} {base : Nat} {ok : Nat → Prop} {v : Value} {ds : List Nat} (hq : (Kd.int .u16).Q 29 w base ok v (ints ds)) : ∃ A c, v = .slice A ds.length c := by
  obtain ⟨_, inner, ho, hr⟩ := hq
  obtain ⟨A, c, he, _⟩ := q_slice ho
  exact ⟨A, c, by rw [he, ints_len]⟩
theorem row_cell {w : World} {base : Nat} {ok : Nat → Prop} {v : Value} {ds : List Nat} (hq : (Kd.int .u16).Q 29 w base ok v (ints ds)) (h : 0 < ds.length) : ∃ g o c, v = .slice (some ⟨g, o, none⟩) ds.length c ∧ ∀ i, (hi : i < ds.length) → w.cell? ⟨g, o + i, none⟩ = some (.int .u16 ((ds[i] : Nat) : Int)) := by
  obtain ⟨g, o, c, rfl, _⟩ := Kd.Q_form hq (by rw [ints_len]; exact h)
  refine ⟨g, o, c, by rw [ints_len], fun i hi => ?_⟩
  have hx := (holds_of_Q hq i (by rw [List.size_toArray, ints_len]; exact hi)).1
  rw [hx, getElem!_pos (ints ds).toArray i (by rw [List.size_toArray, ints_len]; exact hi)]
  simp [ints]
/-- What a turn may touch lies behind the wheel's own beginning. -/
theorem ws_low {s0 : Nat} {W : World} {b m n now : Nat} {s : St} {own : Nat → Nat} (h : IsS s0 W b m n now s own) (ho : ∀ i, i < s0 → own i = 32) : ∀ i, WS b m own i → s0 ≤ i := by
  intro i hi
  have hl := h.1.low
  rcases hi with hi | hi | hi
  · omega
  · omega
  · by_cases hlt : i < s0
    · have := ho i hlt
      omega
    · omega
/-- One more turn. -/
theorem low_step {s0 : Nat} {w0 W W' : World} {b m n now : Nat} {s : St} {own : Nat → Nat} (h : IsS s0 W b m n now s own) (ho : ∀ i, i < s0 → own i = 32) (hB : Below s0 w0 W) (hs : s0 ≤ W.heap.size) (hC : Chg (WS b m own) W W') : Below s0 w0 W' :=
  hB.trans (hC.below hs (ws_low h ho))
set_option maxHeartbeats 1600000 in
theorem turns_walk (w : World) : Calls Try.prog 7 #[] w fun e w' => e = .returned (.bool true) ∧ Below w.heap.size w w' := by
  go_enter Try.func7, Try.ntmps7
  go_wp2_with (first
    | (go_at_call 6; refine (newS w).mono ?_; rintro e w1 ⟨b, m, rfl, q1, q2⟩; have A1 := Aside0.mk (And.intro q1 q2); clear q1 q2)
    | (go_at_call 8; refine (setS w.heap.size w1 b m 0 0 7 2 _ _ A1.out.1 (by omega) (by omega) A1.out.2.size (by omega) (by omega)).mono ?_; rintro e w2 ⟨rfl, own2, q1, q2, q3⟩; have A2 := Aside0.mk (And.intro q2 (And.intro (low_step A1.out.1 (fun _ _ => rfl) A1.out.2 A1.out.2.size q3) (And.intro (fun i (hi : i < w.heap.size) => q1 i (Nat.lt_of_lt_of_le hi A1.out.2.size)) (Nat.le_trans A1.out.2.size q3.size)))); clear q1 q2 q3)
    | (go_at_call 9; refine (tick_walk w.heap.size w2 b m 1 0 _ _ A2.out.1 (by omega) (by omega) [] (by rfl) List.Pairwise.nil (by decide)).mono ?_; rintro e w3 ⟨u3, own3, rfl, q1, q2, q3, q4⟩; have A3 := Aside0.mk (And.intro q3 (And.intro (low_step A2.out.1 A2.out.2.2.1 A2.out.2.1 A2.out.2.2.2 q4) (And.intro (fun i (hi : i < w.heap.size) => (q2 i (Nat.lt_of_lt_of_le hi A2.out.2.2.2)).trans (A2.out.2.2.1 i hi)) (Nat.le_trans A2.out.2.2.2 q4.size)))); obtain ⟨x3, c3, rfl⟩ := row_shape q1; clear q1 q2 q3 q4)
    | (go_at_call 9; refine (tick_walk w.heap.size w3 b m 1 1 _ _ A3.out.1 (by omega) (by omega) [7] (by rfl) (by simp) (by decide)).mono ?_; rintro e w4 ⟨u4, own4, rfl, q1, q2, q3, q4⟩; have A4 := Aside0.mk (And.intro q3 (low_step A3.out.1 A3.out.2.2.1 A3.out.2.1 A3.out.2.2.2 q4)); obtain ⟨g4, o4, c4, rfl, hc4⟩ := row_cell q1 (by decide); have hd4 : w4.cell? ⟨g4, o4, none⟩ = some (.int .u16 7) := hc4 0 (by decide); clear q1 q2 q3 q4 hc4)
    | (go_at_call 13; refine (nowS w.heap.size _ b m 1 2 _ _ A4.out.1).mono ?_; rintro e w5 ⟨rfl, rfl⟩))
  go_ret
  exact ⟨rfl, A4.out.2⟩
end Go.Proofs.Ytjiligngjlejmaa.Vit
