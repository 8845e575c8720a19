/- The wheel beside the document's list: the plain law. Each theorem says its own conditions. -/
import Derived.Test.YtjiligngjlejmaaTb
import Derived.Test.YtjiligngjlejmaaTd
import Derived.Test.YtjiligngjlejmaaHi
import Derived.Test.YtjiligngjlejmaaHk
namespace Go.Proofs.Ytjiligngjlejmaa.Vit
open Go.Shelf Go.RowKit Go.Proofs.YtjiligngjlejmaaW.PrintWords Go.Proofs.YtjiligngjlejmaaW.PrintLast Go.Proofs.YtjiligngjlejmaaW.PrintMore Go.Proofs.Ytjiligngjlejmaa.Mem Go.Proofs.Ytjiligngjlejmaa.Srt
set_option linter.unusedVariables false
set_option linter.unusedSimpArgs false

/-- The wheel's words tell what the list tells. -/
structure Rel (s : St) (l : List (Nat × Nat)) : Prop where
  mem : ∀ a t, s.f a = some t ↔ (a, t) ∈ l
  keys : (l.map (·.1)).Nodup
  cnt : s.c = l.length
theorem Rel.nil : Rel St.nil [] := ⟨fun a t => ⟨fun h => (by cases h), fun h => (by cases h)⟩, List.nodup_nil, rfl⟩
theorem Rel.any {s : St} {l : List (Nat × Nat)} (h : Rel s l) (a : Nat) : (s.f a).isSome = l.any fun p => p.1 == a := by
  rw [Bool.eq_iff_iff, List.any_eq_true, Option.isSome_iff_exists]
  constructor
  · rintro ⟨t, ht⟩
    exact ⟨(a, t), (h.mem a t).1 ht, by simp⟩
  · rintro ⟨⟨x, t⟩, hp, hx⟩
    obtain rfl : x = a := by simpa using hx
    exact ⟨t, (h.mem x t).2 hp⟩
theorem dropD_filter (a : Nat) (l : List (Nat × Nat)) (hk : (l.map (·.1)).Nodup) : dropD a l = l.filter fun p => decide (p.1 ≠ a) := by
  induction l with
  | nil => rfl
  | cons p l ih =>
    rw [List.map_cons, List.nodup_cons] at hk
    unfold dropD at ih ⊢
    by_cases hp : p.1 = a
    · rw [List.eraseP_cons_of_pos (by simpa using hp), List.filter_cons, if_neg (by simpa using hp), List.filter_eq_self.2]
      intro q hq
      refine decide_eq_true (fun e => hk.1 ?_)
      rw [hp, ← e]
      exact List.mem_map_of_mem hq
    · rw [List.eraseP_cons_of_neg (by simpa using hp), List.filter_cons, if_pos (by simpa using hp), ih hk.2]
theorem Rel.mem_drop {s : St} {l : List (Nat × Nat)} (h : Rel s l) (a x t : Nat) : (x, t) ∈ dropD a l ↔ (x, t) ∈ l ∧ x ≠ a := by
  rw [dropD_filter a l h.keys, List.mem_filter, decide_eq_true_iff]
theorem Rel.drop_cnt {s : St} {l : List (Nat × Nat)} (h : Rel s l) (a : Nat) : (dropD a l).length = s.c - (if (s.f a).isSome then 1 else 0) := by
  unfold dropD
  rw [List.length_eraseP, h.cnt, h.any a]
  by_cases hx : (l.any fun p => p.1 == a) = true
  · rw [if_pos hx, if_pos hx]
  · rw [if_neg hx, if_neg hx]
    rfl
theorem Rel.take {s : St} {l : List (Nat × Nat)} (h : Rel s l) (a : Nat) : Rel (s.take1 a) (dropD a l) := by
  refine ⟨fun x t => ?_, ?_, (h.drop_cnt a).symm⟩
  · rw [h.mem_drop]
    show upd s.f a none x = some t ↔ _
    unfold upd
    by_cases hx : x = a
    · simp [hx]
    · rw [if_neg hx, h.mem]
      simp [hx]
  · rw [dropD_filter a l h.keys]
    exact h.keys.sublist (List.filter_sublist.map _)
theorem Rel.put {s : St} {l : List (Nat × Nat)} (h : Rel s l) (a t : Nat) : Rel (s.put a t) (dropD a l ++ [(a, t)]) := by
  refine ⟨fun x u => ?_, ?_, ?_⟩
  · rw [List.mem_append, h.mem_drop, List.mem_singleton, Prod.mk.injEq]
    show upd s.f a (some t) x = some u ↔ _
    unfold upd
    by_cases hx : x = a
    · simp [hx, eq_comm]
    · rw [if_neg hx, h.mem]
      simp [hx]
  · rw [List.map_append, List.nodup_append]
    refine ⟨(h.take a).keys, by simp, fun x hx y hy e => ?_⟩
    have hy' : y = a := by simpa using hy
    obtain ⟨p, hp, rfl⟩ := List.mem_map.1 hx
    have := (h.mem_drop a p.1 p.2).1 hp
    exact this.2 (e.trans hy')
  · rw [List.length_append, h.drop_cnt]
    rfl
theorem outs_lefts (t : Nat) (l : List (Nat × Nat)) : (outs t l).length + (lefts t l).length = l.length := by
  induction l with
  | nil => rfl
  | cons p l ih =>
    unfold outs lefts at *
    by_cases hp : p.2 = t
    · simp only [List.filter_cons, hp, beq_self_eq_true, if_true, List.map_cons, List.length_cons, Bool.not_true, Bool.false_eq_true, if_false]
      omega
    · have : (p.2 == t) = false := by simpa using hp
      simp only [List.filter_cons, this, Bool.false_eq_true, if_false, Bool.not_false, if_true, List.length_cons]
      omega
theorem mem_outs {t x : Nat} {l : List (Nat × Nat)} : x ∈ outs t l ↔ (x, t) ∈ l := by
  unfold outs
  rw [List.mem_map]
  constructor
  · rintro ⟨⟨y, u⟩, hp, rfl⟩
    obtain ⟨h1, h2⟩ := List.mem_filter.1 hp
    obtain rfl : u = t := by simpa using h2
    exact h1
  · intro h
    exact ⟨(x, t), List.mem_filter.2 ⟨h, by simp⟩, rfl⟩
theorem mem_due {s : St} (hT : Tied s.f s.L) (t x : Nat) : x ∈ due s.f t (s.L (t % 32)) ↔ s.f x = some t := by
  unfold due
  rw [List.mem_filter, decide_eq_true_iff, hT.mem]
  exact ⟨fun h => h.2, fun h => ⟨⟨t, h, rfl⟩, h⟩⟩
theorem Rel.due_perm {s : St} {l : List (Nat × Nat)} (h : Rel s l) (hT : Tied s.f s.L) (t : Nat) : (due s.f t (s.L (t % 32))).Perm (outs t l) := by
  refine (List.perm_ext_iff_of_nodup ?_ ?_).2 (fun x => ?_)
  · exact (hT.nodup _).filter _
  · exact h.keys.sublist (List.filter_sublist.map _)
  · rw [mem_due hT, mem_outs, h.mem]
theorem Rel.tick {s : St} {l : List (Nat × Nat)} (h : Rel s l) (hT : Tied s.f s.L) (t : Nat) : Rel ((due s.f t (s.L (t % 32))).foldl St.take1 s) (lefts t l) := by
  refine ⟨fun x u => ?_, ?_, ?_⟩
  · rw [takes_f]
    unfold lefts
    rw [List.mem_filter, ← h.mem]
    by_cases hx : x ∈ due s.f t (s.L (t % 32))
    · rw [if_pos hx]
      have := (mem_due hT t x).1 hx
      rw [this]
      simp
      intro e
      exact e.symm
    · rw [if_neg hx]
      have := fun e => hx ((mem_due hT t x).2 e)
      constructor
      · intro hu
        refine ⟨hu, ?_⟩
        simp
        intro e
        rw [e] at hu
        exact this hu
      · exact fun h => h.1
  · exact h.keys.sublist (List.filter_sublist.map _)
  · rw [takes_c _ _ (show (due s.f t (s.L (t % 32))).Nodup from (hT.nodup _).filter _) (fun x hx => by rw [(mem_due hT t x).1 hx]; rfl), (h.due_perm hT t).length_eq, h.cnt]
    have := outs_lefts t l
    omega
end Go.Proofs.Ytjiligngjlejmaa.Vit
