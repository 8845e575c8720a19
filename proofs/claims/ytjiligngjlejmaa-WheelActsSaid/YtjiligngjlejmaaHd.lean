/- take of a number that isn't set; New. -/
import Derived.Test.YtjiligngjlejmaaHc
namespace Go.Proofs.Ytjiligngjlejmaa.Vit
open Go.Shelf Go.RowKit Go.Proofs.YtjiligngjlejmaaW.PrintWords Go.Proofs.YtjiligngjlejmaaW.PrintLast Go.Proofs.YtjiligngjlejmaaW.PrintMore Go.Proofs.Ytjiligngjlejmaa.Mem
attribute [local go_sem] max2_int min2_int max_two min_two max_three min_three max_four min_four   -- for this text's walks alone
set_option linter.unusedVariables false
set_option linter.unusedSimpArgs false

set_option maxHeartbeats 3200000 in
set_option maxRecDepth 100000 in
theorem take_miss (s0 : Nat) (W : World) (b m n c now a : Nat) (f : Nat → Option Nat) (L : Nat → List Nat) (own : Nat → Nat) (h : IsW s0 W b m n c now f L own) (ha : a < 65536) (hf : f a = none) :
    Calls Try.prog 17 #[.pointer (some ⟨b, 0, none⟩), .int .u16 (a : Int)] W fun e w' => e = .returned (.bool false) ∧ Below W.heap.size W w' := by
  obtain ⟨⟨X, h1, h2, h3, h4, h5⟩, hm, hl, haw⟩ := h
  have hW1 : ∀ (ob : Obj) q, ((W.alloc ob).drewN q).heap[m]? = W.heap[m]? := fun ob q => by
    rw [World.heap_drewN]
    exact Below.heap_alloc W ob m hm.lt
  have hmw : ∀ q, MapIs ((W.alloc (.cells #[.int .u16 (a : Int)] 29)).drewN q) m n c f := fun q => hm.keep (hW1 _ q)
  have hlook := fun q => (hmw q).miss ha hf
  have hlook0 := hlook 0
  have d1 := (blk_cell h1 1).trans h4
  have e1 : ∀ ob, (W.alloc ob).cell? ⟨b, 1, none⟩ = some (.map (some m)) := fun ob => Lib.cell?_alloc_some _ d1
  clear h1 h2 h3 h4 h5 hm hl hW1 hmw d1 haw
  go_enter Try.func17, Try.ntmps17
  go_upto_region 1 with fail
  go_quiet (fail)
  go_wp2_with fail
  all_goals (go_ret)
  all_goals (exact ⟨rfl, pw_below_drewN (below_alloc (Below.refl _ _) _) _⟩)
set_option maxHeartbeats 3200000 in
set_option maxRecDepth 100000 in
theorem new_walk (w : World) :
    Calls Try.prog 6 #[] w fun e w' => ∃ b m, e = .returned (.pointer (some ⟨b, 0, none⟩)) ∧ IsW w.heap.size w' b m 0 0 0 (fun _ => none) (fun _ => []) (fun _ => 32) ∧ Below w.heap.size w w' := by
  have hmm := @run_makeMap Try.prog
  have hM := MapIs.made w
  go_enter Try.func6, Try.ntmps6
  go_wp2_with fail
  all_goals (go_ret)
  refine ⟨w.heap.size + 1, w.heap.size, rfl, ⟨⟨(Value.int .i64 0 :: .map (some w.heap.size) :: List.replicate 32 (.slice none 0 0)).toArray, ?_, rfl, rfl, rfl, fun j hj => ⟨.slice none 0 0, ?_, Kd.Q_nil _ _ _ _ _⟩⟩, ?_, ⟨by omega, by omega⟩, by decide⟩, below_alloc (below_alloc (Below.refl _ _) _) _⟩
  · have := blk_new (w.alloc (.map #[] 0)) (.cells (Value.int .i64 0 :: .map (some w.heap.size) :: List.replicate 32 (.slice none 0 0)).toArray 51 (0, 0))
    rw [World.size_alloc] at this
    exact this
  · show (Value.int .i64 0 :: .map (some w.heap.size) :: List.replicate 32 (.slice none 0 0)).toArray[2 + j]? = _
    rw [List.getElem?_toArray, show 2 + j = j + 1 + 1 by omega, List.getElem?_cons_succ, List.getElem?_cons_succ, List.getElem?_replicate, if_pos hj]
  · exact hM.keep (Below.heap_alloc _ _ _ hM.lt)
theorem MapIs.pos {W : World} {m n c a t : Nat} {f : Nat → Option Nat} (h : MapIs W m n c f) (ha : a < 65536) (hf : f a = some t) : ∃ c', c = c' + 1 := by
  obtain ⟨D, h1, h2, h3⟩ := h
  have hs := Maps.size_del (k := ky a) (h1.tidy law29)
  rw [(h2 a ha).1, hf, h3] at hs
  simp at hs
  exact ⟨_, hs.symm⟩
/-- Who is set lies on its spoke, and nobody else. -/
structure Tied (f : Nat → Option Nat) (L : Nat → List Nat) : Prop where
  mem : ∀ j x, x ∈ L j ↔ ∃ t, f x = some t ∧ t % 32 = j
  nodup : ∀ j, (L j).Nodup
  big : ∀ x t, f x = some t → t ≤ 1000000000
theorem less_id {l : List Nat} {a : Nat} (h : ¬ a ∈ l) : less l a = l := by
  unfold less
  rw [List.filter_eq_self]
  intro x hx
  exact decide_eq_true (fun e => h (by subst e; exact hx))
theorem mem_less {l : List Nat} {a x : Nat} : x ∈ less l a ↔ x ∈ l ∧ x ≠ a := by
  unfold less
  rw [List.mem_filter, decide_eq_true_iff]
theorem Tied.less {f : Nat → Option Nat} {L : Nat → List Nat} (h : Tied f L) (a : Nat) : Tied (upd f a none) (fun j => less (L j) a) := by
  refine ⟨fun j x => ?_, fun j => ?_, fun x t ht => ?_⟩
  · rw [mem_less, h.mem]
    unfold upd
    by_cases hx : x = a
    · subst hx
      simp
    · simp [hx]
  · unfold Vit.less
    exact (h.nodup j).filter _
  · unfold upd at ht
    by_cases hx : x = a
    · rw [if_pos hx] at ht; cases ht
    · rw [if_neg hx] at ht; exact h.big x t ht
theorem Tied.put {f : Nat → Option Nat} {L : Nat → List Nat} (h : Tied f L) {a t : Nat} (ht : t ≤ 1000000000) : Tied (upd f a (some t)) (fun j => if j = t % 32 then Vit.less (L j) a ++ [a] else Vit.less (L j) a) := by
  have h1 := h.less a
  refine ⟨fun j x => ?_, fun j => ?_, fun x s hs => ?_⟩
  · have h2 := h1.mem j x
    by_cases hx : x = a
    · subst hx
      unfold upd
      by_cases hj : j = t % 32
      · subst hj
        simp
      · rw [if_neg hj, mem_less]
        simp
        intro e
        exact hj e.symm
    · have e1 : upd f a (some t) x = upd f a none x := by unfold upd; rw [if_neg hx, if_neg hx]
      rw [e1]
      by_cases hj : j = t % 32
      · rw [if_pos hj, List.mem_append, List.mem_singleton]
        rw [← h2]
        simp [hx]
      · rw [if_neg hj]
        exact h2
  · by_cases hj : j = t % 32
    · show (if j = t % 32 then Vit.less (L j) a ++ [a] else Vit.less (L j) a).Nodup
      rw [if_pos hj]
      rw [List.nodup_append]
      refine ⟨h1.nodup j, by simp, fun x hx y hy e => ?_⟩
      rw [List.mem_singleton] at hy
      exact (mem_less.1 hx).2 (e.trans hy)
    · show (if j = t % 32 then Vit.less (L j) a ++ [a] else Vit.less (L j) a).Nodup
      rw [if_neg hj]
      exact h1.nodup j
  · unfold upd at hs
    by_cases hx : x = a
    · rw [if_pos hx] at hs; cases hs; exact ht
    · rw [if_neg hx] at hs; exact h.big x s hs
theorem IsW.congr {s0 : Nat} {W : World} {b m n c now : Nat} {f g : Nat → Option Nat} {L M own : Nat → _} (h : IsW s0 W b m n c now f L own) (hf : f = g) (hL : L = M) : IsW s0 W b m n c now g M own := by
  subst hf; subst hL; exact h
/-- take, of whatever number. -/
theorem takes (s0 : Nat) (W : World) (b m n c now a : Nat) (f : Nat → Option Nat) (L : Nat → List Nat) (own : Nat → Nat) (h : IsW s0 W b m n c now f L own) (ht : Tied f L) (ha : a < 65536) (hlen : ∀ j, (L j).length ≤ 1000000) :
    Calls Try.prog 17 #[.pointer (some ⟨b, 0, none⟩), .int .u16 (a : Int)] W fun e w' => e = .returned (.bool (f a).isSome) ∧
      IsW s0 w' b m n (c - (if (f a).isSome then 1 else 0)) now (upd f a none) (fun j => less (L j) a) own ∧ Chg (WS b m own) W w' := by
  cases hfa : f a with
  | none =>
    refine (take_miss s0 W b m n c now a f L own h ha hfa).mono ?_
    rintro e w' ⟨he, hB⟩
    refine ⟨he, (h.below hB).congr ?_ ?_, Chg.of_below hB _⟩
    · funext x
      unfold upd
      by_cases hx : x = a
      · rw [if_pos hx, hx, hfa]
      · rw [if_neg hx]
    · funext j
      refine (less_id (fun hm => ?_)).symm
      obtain ⟨t, h1, _⟩ := (ht.mem j a).1 hm
      rw [hfa] at h1
      cases h1
  | some t =>
    obtain ⟨c', rfl⟩ := h.map.pos ha hfa
    refine (take_hit s0 W b m n c' now a t f L own h ha hfa (ht.big a t hfa) ((ht.mem _ a).2 ⟨t, hfa, rfl⟩) (hlen _)).mono ?_
    rintro e w' ⟨he, hI, hC⟩
    refine ⟨he, hI.congr rfl ?_, hC⟩
    funext j
    by_cases hj : j = t % 32
    · rw [if_pos hj]
    · rw [if_neg hj]
      refine (less_id (fun hm => ?_)).symm
      obtain ⟨t', h1, h2⟩ := (ht.mem j a).1 hm
      rw [hfa] at h1
      injection h1 with h1
      omega
end Go.Proofs.Ytjiligngjlejmaa.Vit
