/- The document's wheel: DocTick. Each theorem says its own conditions. -/
import Derived.Test.YtjiligngjlejmaaTa
namespace Go.Proofs.Ytjiligngjlejmaa.Vit
open Go.Shelf Go.RowKit Go.Proofs.YtjiligngjlejmaaW.PrintWords Go.Proofs.YtjiligngjlejmaaW.PrintLast Go.Proofs.YtjiligngjlejmaaW.PrintMore Go.Proofs.Ytjiligngjlejmaa.Mem Go.Proofs.Ytjiligngjlejmaa.Srt
attribute [local go_sem] max2_int min2_int max_two min_two max_three min_three max_four min_four   -- for this text's walks alone
set_option linter.unusedVariables false
set_option linter.unusedSimpArgs false

/-- A number put in at a place. -/
def insA (P : List Nat) (k a : Nat) : List Nat := P.take k ++ a :: P.drop k
theorem insA_len (P : List Nat) (k a : Nat) (hk : k ≤ P.length) : (insA P k a).length = P.length + 1 := by simp [insA]; omega
theorem srt_sorted (l : List Nat) : (srt l).Pairwise (· ≤ ·) := by
  have h := List.pairwise_mergeSort (le := fun x y : Nat => decide (x ≤ y)) (fun a b c h1 h2 => by simp at *; omega) (fun a b => by simp; omega) l
  exact h.imp (fun h => by simpa using h)
theorem srt_perm (l : List Nat) : (srt l).Perm l := List.mergeSort_perm _ _
theorem srt_eq {l m : List Nat} (hp : l.Perm m) (hs : l.Pairwise (· ≤ ·)) : l = srt m :=
  List.Perm.eq_of_pairwise (le := fun a b : Nat => a ≤ b) (fun a b _ _ h1 h2 => Nat.le_antisymm h1 h2) hs (srt_sorted m) (hp.trans (srt_perm m).symm)
theorem srt_congr {l m : List Nat} (hp : l.Perm m) : srt l = srt m := srt_eq ((srt_perm l).trans hp) (srt_sorted l)
theorem insA_srt (ds : List Nat) (k a : Nat) (hk : k ≤ (srt ds).length) (hhi : ∀ j (hj : j < (srt ds).length), k ≤ j → a < (srt ds)[j]) (hlo : ∀ (j : Nat) (hj : j < (srt ds).length), j + 1 = k → (srt ds)[j] ≤ a) : insA (srt ds) k a = srt (ds ++ [a]) := by
  refine srt_eq ?_ ?_
  · unfold insA
    refine List.perm_middle.trans ?_
    rw [List.take_append_drop]
    exact ((srt_perm ds).cons a).trans (List.perm_append_singleton a ds).symm
  · have hs := srt_sorted ds
    unfold insA
    rw [List.pairwise_append]
    refine ⟨hs.sublist (List.take_sublist _ _), List.pairwise_cons.2 ⟨fun x hx => ?_, hs.sublist (List.drop_sublist _ _)⟩, fun x hx y hy => ?_⟩
    · obtain ⟨j, hj, rfl⟩ := List.mem_iff_getElem.1 hx
      rw [List.getElem_drop]
      have := hhi (k + j) (by rw [List.length_drop] at hj; omega) (by omega)
      omega
    · obtain ⟨i, hi, rfl⟩ := List.mem_iff_getElem.1 hx
      rw [List.length_take] at hi
      rw [List.getElem_take]
      have h1 : (srt ds)[i]'(by omega) ≤ a := by
        have h2 := hlo (k - 1) (by omega) (by omega)
        by_cases hik : i = k - 1
        · subst hik; exact h2
        · have := List.pairwise_iff_getElem.1 hs i (k - 1) (by omega) (by omega) (by omega)
          omega
      rcases List.mem_cons.1 hy with rfl | hy
      · exact h1
      · obtain ⟨j, hj, rfl⟩ := List.mem_iff_getElem.1 hy
        rw [List.getElem_drop]
        have := hhi (k + j) (by rw [List.length_drop] at hj; omega) (by omega)
        omega
theorem insA_rd (P : List Nat) (k a : Nat) (h0 : 0 < k) (hk : k ≤ P.length) : rd (ints (insA P k a)) ((k - 1 : Nat) : Int) = ((P[k - 1]'(by omega) : Nat) : Int) := by
  unfold rd
  rw [Int.toNat_natCast, List.getD_eq_getElem?_getD]
  have : (ints (insA P k a))[k - 1]? = some ((P[k - 1]'(by omega) : Nat) : Int) := by
    unfold ints insA
    rw [List.getElem?_map, List.getElem?_append_left (by rw [List.length_take]; omega), List.getElem?_take_of_lt (by omega), List.getElem?_eq_getElem (by omega)]
    rfl
  rw [this]
  rfl
theorem insA_swap (P : List Nat) (k a x : Nat) (h0 : 0 < k) (hk : k ≤ P.length) (hx : P[k - 1]'(by omega) = x) : ((ints (insA P k a)).set k (x : Int)).set (k - 1) (a : Int) = ints (insA P (k - 1) a) := by
  obtain ⟨m, rfl⟩ : ∃ m, k = m + 1 := ⟨k - 1, by omega⟩
  have hm : m < P.length := by omega
  have e1 : P.take (m + 1) = P.take m ++ [x] := by
    rw [List.take_succ_eq_append_getElem hm]
    simp at hx
    rw [hx]
  have e2 : P.drop m = x :: P.drop (m + 1) := by
    rw [List.drop_eq_getElem_cons hm]
    simp at hx
    rw [hx]
  have hl : ((P.take m).map fun (x : Nat) => (x : Int)).length = m := by simp; omega
  unfold ints insA
  rw [Nat.add_sub_cancel, e1, e2]
  simp only [List.map_append, List.map_cons, List.map_nil, List.append_assoc, List.singleton_append]
  generalize (P.take m).map (fun (x : Nat) => (x : Int)) = L at hl ⊢
  subst hl
  simp [List.set_append]
/-- What is due at a tick, in order; what is left. -/
def outs (t : Nat) (l : List (Nat × Nat)) : List Nat := (l.filter fun p => p.2 == t).map (·.1)
def lefts (t : Nat) (l : List (Nat × Nat)) : List (Nat × Nat) := l.filter fun p => !(p.2 == t)
theorem outs_take (t : Nat) (l : List (Nat × Nat)) (k : Nat) (hk : k < l.length) : outs t (l.take (k + 1)) = outs t (l.take k) ++ (if l[k].2 = t then [l[k].1] else []) := by
  unfold outs
  rw [List.take_succ_eq_append_getElem hk, List.filter_append, List.map_append]
  congr 1
  by_cases h : l[k].2 = t
  · simp [h]
  · simp [h]
theorem lefts_take (t : Nat) (l : List (Nat × Nat)) (k : Nat) (hk : k < l.length) : lefts t (l.take (k + 1)) = lefts t (l.take k) ++ (if l[k].2 = t then [] else [l[k]]) := by
  unfold lefts
  rw [List.take_succ_eq_append_getElem hk, List.filter_append]
  congr 1
  by_cases h : l[k].2 = t
  · simp [h]
  · simp [h]
theorem outs_len (t : Nat) (l : List (Nat × Nat)) : (outs t l).length ≤ l.length := by
  unfold outs
  rw [List.length_map]
  exact List.length_filter_le _ _
theorem lefts_len (t : Nat) (l : List (Nat × Nat)) : (lefts t l).length ≤ l.length := List.length_filter_le _ _
theorem info3 : (Try.prog.info? 3).map (fun i => (i.zero, i.size, i.bytes)) = some (some (.int .i64 0), 1, 8) := by kernel_rfl
/-- A row of numbers of its own, and one of what is due: each other's blocks are none of theirs. -/
theorem due_keep {W W1 : World} {base base' n : Nat} {u v : Value} {xs : List Value} {l : List (Nat × Nat)} {ok : Nat → Prop} (hv : kDue.R 55 W base ok v (dz l)) (hu : W.ownsRow base' 3 1 u n xs) (hg : W.grownBy W1 u.ownBlock) : kDue.R 55 W1 base ok v (dz l) := by
  refine Kd.R_step (Kd.R_mono (Kd.R_tight rfl hv) (ok' := fun k => some k = v.ownBlock ∧ ok k) (fun k hk => ⟨hk, hv.1 k hk.symm⟩)) (fun k hk hlt => hg.block k hlt (fun e => ?_)) |> fun h => Kd.R_mono h (fun k hk => hk.2)
  obtain ⟨_, inner, ho, _⟩ := hv
  rcases own_type_ne ho hu (by decide) with h | h
  · rw [h] at hk; exact absurd hk.1 (by simp)
  · exact h (hk.1.symm.trans e)
theorem num_keep {W W1 : World} {base base' n : Nat} {u v : Value} {xs : List Value} {l : List (Nat × Nat)} {ok : Nat → Prop} (hv : kDue.R 55 W base ok v (dz l)) (hu : W.ownsRow base' 3 1 u n xs) (hg : W.grownBy W1 v.ownBlock) : W1.ownsRow base' 3 1 u n xs := by
  obtain ⟨_, inner, ho, _⟩ := hv
  exact own_other hu hg (own_type_ne hu ho (by decide))
theorem IsD.ticked {s0 : Nat} {W : World} {b now : Nat} {l : List (Nat × Nat)} {ok : Nat → Prop} (h : IsD s0 W b now l ok) (t : Nat) : IsD s0 (W.setCell ⟨b, 0, none⟩ (.int .i64 (t : Int))) b t l ok := by
  obtain ⟨⟨v, hb, hR⟩, haw⟩ := h
  exact ⟨⟨v, blk_set hb _ _, Kd.R_step hR (fun j hj hlt => Below.heap_setCell _ _ _ j (fun e => haw (by rw [← show j = b from e]; exact hj)))⟩, haw⟩
end Go.Proofs.Ytjiligngjlejmaa.Vit
