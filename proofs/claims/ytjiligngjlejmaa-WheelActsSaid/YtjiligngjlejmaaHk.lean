/- WheelAll's plain law: of many numbers each is due at its own tick. -/
import Derived.Test.YtjiligngjlejmaaHj
namespace Go.Proofs.Ytjiligngjlejmaa.Vit
open Go.Shelf Go.RowKit Go.Proofs.YtjiligngjlejmaaW.PrintWords Go.Proofs.YtjiligngjlejmaaW.PrintLast Go.Proofs.YtjiligngjlejmaaW.PrintMore Go.Proofs.Ytjiligngjlejmaa.Mem
set_option linter.unusedVariables false
set_option linter.unusedSimpArgs false

theorem takes_f (ds : List Nat) : ∀ (s : St) (x : Nat), (ds.foldl St.take1 s).f x = if x ∈ ds then none else s.f x := by
  induction ds with
  | nil => intro s x; simp
  | cons d ds ih =>
    intro s x
    rw [List.foldl_cons, ih]
    show (if x ∈ ds then none else upd s.f d none x) = _
    unfold upd
    by_cases h1 : x ∈ ds
    · rw [if_pos h1, if_pos (List.mem_cons_of_mem _ h1)]
    · rw [if_neg h1]
      by_cases h2 : x = d
      · rw [if_pos h2, if_pos (by rw [h2]; exact List.mem_cons_self)]
      · rw [if_neg h2, if_neg (by rw [List.mem_cons]; rintro (h | h); exact h2 h; exact h1 h)]
theorem takes_L (ds : List Nat) : ∀ (s : St) (j : Nat), (ds.foldl St.take1 s).L j = (s.L j).filter fun x => decide (x ∉ ds) := by
  induction ds with
  | nil =>
    intro s j
    show s.L j = _
    rw [List.filter_eq_self.2 (fun x _ => by simp)]
  | cons d ds ih =>
    intro s j
    rw [List.foldl_cons, ih]
    show (less (s.L j) d).filter _ = _
    unfold less
    rw [List.filter_filter]
    apply List.filter_congr
    intro x _
    by_cases h1 : x ∈ ds <;> by_cases h2 : x = d <;> simp [h1, h2]
theorem takes_c (ds : List Nat) : ∀ (s : St), ds.Nodup → (∀ x, x ∈ ds → (s.f x).isSome = true) → (ds.foldl St.take1 s).c = s.c - ds.length := by
  induction ds with
  | nil => intro s _ _; simp
  | cons d ds ih =>
    intro s hn hs
    rw [List.nodup_cons] at hn
    rw [List.foldl_cons, ih _ hn.2 (fun x hx => ?_)]
    · show s.c - (if (s.f d).isSome then 1 else 0) - ds.length = _
      rw [if_pos (hs d List.mem_cons_self), List.length_cons]
      omega
    · show (upd s.f d none x).isSome = true
      unfold upd
      rw [if_neg (fun h => hn.1 (by rw [← h]; exact hx))]
      exact hs x (List.mem_cons_of_mem _ hx)
/-- The wheel of n numbers, each to be due at its own tick, at a tick. -/
def St.many (q : Nat → Nat) (n p : Nat) : St :=
  ⟨fun x => if x < n ∧ p < q x then some (q x) else none, fun j => (List.range n).filter fun x => decide (q x % 32 = j ∧ p < q x), ((List.range n).filter fun x => decide (p < q x)).length⟩
def tickOf (q : Nat → Nat) (n p : Nat) : List Nat := (List.range n).filter fun x => decide (q x = p)
theorem mem_tickOf {q : Nat → Nat} {n p x : Nat} : x ∈ tickOf q n p ↔ x < n ∧ q x = p := by simp [tickOf]
theorem tickOf_asc (q : Nat → Nat) (n p : Nat) : (tickOf q n p).Pairwise (· < ·) := List.Pairwise.filter _ List.pairwise_lt_range
theorem tickOf_len (q : Nat → Nat) (n p : Nat) : (tickOf q n p).length ≤ n := by
  have := List.length_filter_le (fun x => decide (q x = p)) (List.range n)
  rw [List.length_range] at this
  exact this
theorem many_zero (q : Nat → Nat) (p : Nat) : St.many q 0 p = St.nil := by
  unfold St.many St.nil
  simp
theorem many_put (q : Nat → Nat) (n : Nat) (hq : 0 < q n) : (St.many q n 0).put n (q n) = St.many q (n + 1) 0 := by
  unfold St.many St.put
  have hc : ∀ m : Nat, (List.range (m + 1)) = List.range m ++ [m] := fun m => List.range_succ
  congr 1
  · funext x
    unfold upd
    by_cases h : x = n
    · subst h
      rw [if_pos rfl, if_pos ⟨by omega, hq⟩]
    · rw [if_neg h]
      show (if x < n ∧ 0 < q x then some (q x) else none) = _
      by_cases h2 : x < n ∧ 0 < q x
      · rw [if_pos h2, if_pos ⟨by omega, h2.2⟩]
      · rw [if_neg h2, if_neg (by omega)]
  · funext j
    show (if j = q n % 32 then less ((List.range n).filter fun x => decide (q x % 32 = j ∧ 0 < q x)) n ++ [n] else less ((List.range n).filter fun x => decide (q x % 32 = j ∧ 0 < q x)) n) = _
    rw [less_id (by simp), hc, List.filter_append]
    by_cases h : j = q n % 32
    · rw [if_pos h]
      congr 1
      simp [h, hq]
    · rw [if_neg h, List.filter_cons, if_neg (by simp; omega)]
      simp
  · unfold setCnt
    rw [if_neg (by simp), hc, List.filter_append, List.length_append]
    simp [hq]
theorem many_due (q : Nat → Nat) (n p : Nat) : due (St.many q n p).f (p + 1) ((St.many q n p).L ((p + 1) % 32)) = tickOf q n (p + 1) := by
  unfold due tickOf St.many
  rw [List.filter_filter]
  apply List.filter_congr
  intro x hx
  rw [List.mem_range] at hx
  by_cases h : q x = p + 1
  · simp [hx, h]
  · by_cases h2 : p < q x <;> simp [hx, h, h2]
theorem cnt_split (q : Nat → Nat) (n p : Nat) : ((List.range n).filter fun x => decide (p < q x)).length = ((List.range n).filter fun x => decide (p + 1 < q x)).length + (tickOf q n (p + 1)).length := by
  unfold tickOf
  induction n with
  | zero => rfl
  | succ n ih =>
    simp only [List.range_succ, List.filter_append, List.length_append, ih]
    have : ((List.filter (fun x => decide (p < q x)) [n]).length = (List.filter (fun x => decide (p + 1 < q x)) [n]).length + (List.filter (fun x => decide (q x = p + 1)) [n]).length) := by
      by_cases h1 : p + 1 < q n
      · rw [List.filter_cons, if_pos (by simp; omega), List.filter_cons, if_pos (by simpa using h1), List.filter_cons, if_neg (by simp; omega)]
        rfl
      · by_cases h2 : q n = p + 1
        · rw [List.filter_cons, if_pos (by simp; omega), List.filter_cons, if_neg (by simp; omega), List.filter_cons, if_pos (by simpa using h2)]
          rfl
        · rw [List.filter_cons, if_neg (by simp; omega), List.filter_cons, if_neg (by simp; omega), List.filter_cons, if_neg (by simpa using h2)]
          rfl
    omega
theorem many_next (q : Nat → Nat) (n p : Nat) : (tickOf q n (p + 1)).foldl St.take1 (St.many q n p) = St.many q n (p + 1) := by
  have e : ∀ s : St, s = ⟨s.f, s.L, s.c⟩ := fun s => rfl
  rw [e ((tickOf q n (p + 1)).foldl St.take1 (St.many q n p))]
  unfold St.many
  congr 1
  · funext x
    rw [takes_f]
    show (if x ∈ tickOf q n (p + 1) then none else if x < n ∧ p < q x then some (q x) else none) = _
    by_cases h : x ∈ tickOf q n (p + 1)
    · rw [if_pos h]
      rw [mem_tickOf] at h
      rw [if_neg (by omega)]
    · rw [if_neg h]
      rw [mem_tickOf] at h
      by_cases h2 : x < n ∧ p < q x
      · rw [if_pos h2, if_pos (by omega)]
      · rw [if_neg h2, if_neg (by omega)]
  · funext j
    rw [takes_L]
    show ((List.range n).filter fun x => decide (q x % 32 = j ∧ p < q x)).filter _ = _
    rw [List.filter_filter]
    apply List.filter_congr
    intro x hx
    rw [List.mem_range] at hx
    have hm : x ∈ tickOf q n (p + 1) ↔ q x = p + 1 := by rw [mem_tickOf]; omega
    by_cases h : q x = p + 1
    · simp [hm, h]
    · by_cases h2 : p < q x
      · have h3 : p + 1 < q x := by omega
        simp [hm, h, h2, h3]
      · have h3 : ¬ p + 1 < q x := by omega
        simp [hm, h, h2, h3]
  · rw [takes_c]
    · show ((List.range n).filter fun x => decide (p < q x)).length - (tickOf q n (p + 1)).length = _
      rw [cnt_split]
      omega
    · exact (tickOf_asc q n (p + 1)).imp (fun h => Nat.ne_of_lt h)
    · intro x hx
      rw [mem_tickOf] at hx
      show (if x < n ∧ p < q x then some (q x) else none : Option Nat).isSome = true
      rw [if_pos (by omega)]
      rfl
theorem many_step (q : Nat → Nat) (n p : Nat) : (St.many q n p).c = (St.many q n (p + 1)).c + (tickOf q n (p + 1)).length := cnt_split q n p
theorem many_all (q : Nat → Nat) (n : Nat) (hq : ∀ x, 0 < q x) : (St.many q n 0).c = n := by
  show ((List.range n).filter fun x => decide (0 < q x)).length = n
  rw [List.filter_eq_self.2 (fun x _ => by simpa using hq x), List.length_range]
theorem many_end (q : Nat → Nat) (n p : Nat) (hq : ∀ x, q x ≤ p) : (St.many q n p).c = 0 := by
  show ((List.range n).filter fun x => decide (p < q x)).length = 0
  rw [List.filter_eq_nil_iff.2 (fun x _ => by have := hq x; simp; omega)]
  rfl
theorem u64_mod90 (x : Int) : ∃ v : Nat, v < 90 ∧ (IntKind.u64.wrap x).tmod 90 = (v : Int) := by
  have h0 : 0 ≤ IntKind.u64.wrap x := by have := IntKind.wrap_u64 x; omega
  refine ⟨((IntKind.u64.wrap x).tmod 90).toNat, ?_, ?_⟩ <;> (rw [Int.tmod_eq_emod_of_nonneg h0]; omega)
/-- At which tick a number of the law is due. -/
def wd (xs : List Int) (i : Nat) : Nat := ((IntKind.u64.wrap (rd xs (i : Int))).tmod 90).toNat
theorem wd_lt (xs : List Int) (i : Nat) : wd xs i < 90 := by
  obtain ⟨v, h1, h2⟩ := u64_mod90 (rd xs (i : Int))
  unfold wd
  rw [h2]
  exact h1
theorem wd_eq (xs : List Int) (i : Nat) : (IntKind.u64.wrap (rd xs (i : Int))).tmod 90 = (wd xs i : Nat) := by
  obtain ⟨v, h1, h2⟩ := u64_mod90 (rd xs (i : Int))
  unfold wd
  rw [h2]
  rfl
def wq (xs : List Int) (i : Nat) : Nat := 1 + wd xs i
theorem wq_pos (xs : List Int) (i : Nat) : 0 < wq xs i := by unfold wq; omega
theorem wq_le (xs : List Int) (i : Nat) : wq xs i ≤ 90 := by have := wd_lt xs i; unfold wq; omega
end Go.Proofs.Ytjiligngjlejmaa.Vit
