/- Set, Len and Now over a wheel's words; turns. -/
import Derived.Test.YtjiligngjlejmaaHg
namespace Go.Proofs.Ytjiligngjlejmaa.Vit
open Go.Shelf Go.RowKit Go.Proofs.YtjiligngjlejmaaW.PrintWords Go.Proofs.YtjiligngjlejmaaW.PrintLast Go.Proofs.YtjiligngjlejmaaW.PrintMore Go.Proofs.Ytjiligngjlejmaa.Mem
attribute [local go_sem] max2_int min2_int max_two min_two max_three min_three max_four min_four   -- for this text's walks alone
set_option linter.unusedVariables false
set_option linter.unusedSimpArgs false

/-- No number is set. -/
def St.nil : St := ⟨fun _ => none, fun _ => [], 0⟩
/-- A number is set, to be due at a tick. -/
def St.put (s : St) (a t : Nat) : St := ⟨upd s.f a (some t), fun j => if j = t % 32 then less (s.L j) a ++ [a] else less (s.L j) a, setCnt s.f a s.c⟩
theorem newS (w : World) :
    Calls Try.prog 6 #[] w fun e w' => ∃ b m, e = .returned (.pointer (some ⟨b, 0, none⟩)) ∧ IsS w.heap.size w' b m 0 0 St.nil (fun _ => 32) ∧ Below w.heap.size w w' := by
  refine (new_walk w).mono ?_
  rintro e w' ⟨b, m, he, hI, hB⟩
  exact ⟨b, m, he, ⟨hI, ⟨fun j x => ⟨fun h => (by cases h), fun ⟨t, h, _⟩ => (by cases h)⟩, fun j => List.nodup_nil, fun x t h => (by cases h)⟩, fun j => Nat.zero_le _, fun j x h => (by cases h)⟩, hB⟩
theorem setS (s0 : Nat) (W : World) (b m n now a k : Nat) (s : St) (own : Nat → Nat) (h : IsS s0 W b m n now s own) (ha : a < 65536) (hk : 1 ≤ k ∧ k ≤ 1000) (hs0 : s0 ≤ W.heap.size) (hn : n ≤ 1000000) (hnow : now ≤ 1000000) :
    Calls Try.prog 8 #[.pointer (some ⟨b, 0, none⟩), .int .u16 (a : Int), .int .i64 (k : Int)] W fun e w' => e = .returned (.int .i64 0) ∧
      ∃ own', (∀ i, i < W.heap.size → own' i = own i) ∧ IsS s0 w' b m (n + 1) now (s.put a (now + k)) own' ∧ Chg (WS b m own) W w' := by
  refine (set_walk s0 W b m n s.c now a k s.f s.L own h.1 h.2.1 ha (fun j => Nat.le_trans (h.2.2.1 j) hn) hk hs0 (by omega) hnow).mono ?_
  rintro e w' ⟨he, own', h1, h2, h3⟩
  have hle : ∀ j, (less (s.L j) a).length ≤ n := fun j => Nat.le_trans (List.length_filter_le _ _) (h.2.2.1 j)
  refine ⟨he, own', h1, ⟨h2, h.2.1.put (by omega), fun j => ?_, fun j x hx => ?_⟩, h3⟩
  · show (if j = (now + k) % 32 then less (s.L j) a ++ [a] else less (s.L j) a).length ≤ n + 1
    have := hle j
    by_cases hj : j = (now + k) % 32
    · rw [if_pos hj, List.length_append]; simp; omega
    · rw [if_neg hj]; omega
  · have hx' : x ∈ (if j = (now + k) % 32 then less (s.L j) a ++ [a] else less (s.L j) a) := hx
    by_cases hj : j = (now + k) % 32
    · rw [if_pos hj, List.mem_append, List.mem_singleton] at hx'
      rcases hx' with hx' | hx'
      · exact h.2.2.2 j x (mem_less.1 hx').1
      · omega
    · rw [if_neg hj] at hx'
      exact h.2.2.2 j x (mem_less.1 hx').1
set_option maxHeartbeats 800000 in
theorem lenS (s0 : Nat) (W : World) (b m n now : Nat) (s : St) (own : Nat → Nat) (h : IsS s0 W b m n now s own) :
    Calls Try.prog 10 #[.pointer (some ⟨b, 0, none⟩)] W fun e w' => e = .returned (.int .i64 (s.c : Nat)) ∧ w' = W := by
  obtain ⟨⟨⟨X, h1, h2, h3, h4, h5⟩, hm, hl, haw⟩, _⟩ := h
  have d1 := (blk_cell h1 1).trans h4
  have hle := fun ty => hm.len ty
  clear h1 h2 h3 h4 h5 hm hl haw
  go_enter Try.func10, Try.ntmps10
  go_wp2
  go_ret
  exact ⟨rfl, rfl⟩
set_option maxHeartbeats 800000 in
theorem nowS (s0 : Nat) (W : World) (b m n now : Nat) (s : St) (own : Nat → Nat) (h : IsS s0 W b m n now s own) :
    Calls Try.prog 13 #[.pointer (some ⟨b, 0, none⟩)] W fun e w' => e = .returned (.int .i64 (now : Nat)) ∧ w' = W := by
  obtain ⟨⟨⟨X, h1, h2, h3, h4, h5⟩, hm, hl, haw⟩, _⟩ := h
  have d0 := (blk_cell h1 0).trans h3
  clear h1 h2 h3 h4 h5 hm hl haw
  go_enter Try.func13, Try.ntmps13
  go_wp2
  go_ret
  exact ⟨rfl, rfl⟩
end Go.Proofs.Ytjiligngjlejmaa.Vit
