/- Plain words for the law CombineMends: how many turned bits the numbers bear. Each theorem says its own conditions. -/
import Derived.Test.YticiilolmkbncaaDoorWm
namespace Go.Proofs.YticiilolmkbncaaDoor.Vit
set_option linter.unusedVariables false
set_option linter.unusedSimpArgs false

def sumN (f : Nat → Int) : Nat → Int
  | 0 => 0
  | n + 1 => sumN f n + f n
theorem sumN_le {f g : Nat → Int} : ∀ n, (∀ j, j < n → f j ≤ g j) → sumN f n ≤ sumN g n
  | 0, _ => Int.le_refl _
  | n + 1, h => by
    have h1 := sumN_le n (fun j hj => h j (by omega))
    have h2 := h n (by omega)
    simp only [sumN]
    omega
theorem sumN_shift (f : Nat → Int) : ∀ n, sumN f (n + 1) = f 0 + sumN (fun j => f (j + 1)) n
  | 0 => by simp [sumN]
  | n + 1 => by
    have := sumN_shift f n
    simp only [sumN] at this ⊢
    omega
theorem sumN_add (f g : Nat → Int) : ∀ n, sumN (fun j => f j + g j) n = sumN f n + sumN g n
  | 0 => rfl
  | n + 1 => by
    have := sumN_add f g n
    simp only [sumN]
    omega
theorem difx_sum : ∀ (xs : List Int) (a b : List Nat), xs.length = a.length → a.length = b.length → difx xs a b = sumN (fun j => if a.getD j 0 = b.getD j 0 then 0 else xs.getD j 0 * sg (a.getD j 0)) a.length
  | [], [], [], _, _ => rfl
  | x :: xs, a :: u, b :: z, h1, h2 => by
    have ih := difx_sum xs u z (by simpa using h1) (by simpa using h2)
    rw [List.length_cons, sumN_shift]
    simp only [difx, ih]
    simp
  | [], _ :: _, _, h, _ => by simp at h
  | _ :: _, [], _, h, _ => by simp at h
  | _, [], _ :: _, _, h => by simp at h
  | _, _ :: _, [], _, h => by simp at h
/-- How many of what came bear a place's bit turned. -/
def badj (c : List Nat) (j : Nat) : List (Nat × List Nat) → Nat
  | [] => 0
  | (v, p) :: rs => badj c j rs + (if ver j = v ∧ p.getD (j / 4) 0 ≠ c.getD j 0 then 1 else 0)
theorem tot_bad (c : List Nat) (hc : Bits c) (j : Nat) : ∀ rs : List (Nat × List Nat), (∀ q ∈ rs, Bits q.2) → tot j rs * sg (c.getD j 0) = (cnt (ver j) rs : Int) - 2 * (badj c j rs : Int)
  | [], _ => by simp [tot, cnt, badj]
  | (v, p) :: rs, h => by
    have ih := tot_bad c hc j rs (fun q hq => h q (List.mem_cons_of_mem _ hq))
    have hp : p.getD (j / 4) 0 ≤ 1 := by
      rw [List.getD_eq_getElem?_getD]
      cases hq : p[j / 4]? with
      | none => simp
      | some x => exact h (v, p) List.mem_cons_self x (List.mem_of_getElem? hq)
    have hcj : c.getD j 0 ≤ 1 := by
      rw [List.getD_eq_getElem?_getD]
      cases hq : c[j]? with
      | none => simp
      | some x => exact hc x (List.mem_of_getElem? hq)
    simp only [tot, cnt, badj]
    by_cases hv : ver j = v
    · subst hv
      rw [if_pos rfl, if_pos rfl, Int.add_mul, ih]
      by_cases he : p.getD (j / 4) 0 = c.getD j 0
      · rw [if_neg (fun e => e.2 he), he]
        have : sg (c.getD j 0) * sg (c.getD j 0) = 1 := by unfold sg; split <;> rfl
        rw [this]
        push_cast
        omega
      · rw [if_pos ⟨rfl, he⟩, sg_ne hcj hp (fun e => he e.symm)]
        have : -sg (c.getD j 0) * sg (c.getD j 0) = -1 := by unfold sg; split <;> rfl
        rw [this]
        push_cast
        omega
    · rw [if_neg hv, if_neg (fun e => hv e.symm), if_neg (fun e => hv e.1), Int.add_zero, ih]
      simp
/-- Of one version the turned bits are its distance. -/
theorem bad_apart (c p : List Nat) (v : Nat) (hv : v < 4) : ∀ L, p.length = L → sumN (fun j => if ver j = v ∧ p.getD (j / 4) 0 ≠ c.getD j 0 then 1 else 0) (4 * L) = (apart p ((List.range L).map fun t => c.getD (place v t) 0) : Nat) := by
  have key : ∀ L, sumN (fun j => if ver j = v ∧ p.getD (j / 4) 0 ≠ c.getD j 0 then (1 : Int) else 0) (4 * L) = sumN (fun t => if p.getD t 0 ≠ c.getD (place v t) 0 then (1 : Int) else 0) L := by
    intro L
    induction L with
    | zero => rfl
    | succ L ih =>
      rw [show 4 * (L + 1) = 4 * L + 4 by omega]
      simp only [sumN, ih]
      have d0 : (4 * L) / 4 = L := by omega
      have d1 : (4 * L + 1) / 4 = L := by omega
      have d2 : (4 * L + 2) / 4 = L := by omega
      have d3 : (4 * L + 3) / 4 = L := by omega
      rw [d0, d1, d2, d3]
      have hpl : place v L = 4 * L + strm v L := rfl
      have hs := strm_lt v L
      have hz : ∀ i, i < 4 → (ver (4 * L + i) = v ↔ i = strm v L) := fun i hi => by unfold ver strm; omega
      have z0 := hz 0 (by omega)
      have z1 := hz 1 (by omega)
      have z2 := hz 2 (by omega)
      have z3 := hz 3 (by omega)
      rw [Nat.add_zero] at z0
      simp only [z0, z1, z2, z3]
      have h4 : strm v L = 0 ∨ strm v L = 1 ∨ strm v L = 2 ∨ strm v L = 3 := by omega
      rw [hpl]
      rcases h4 with h | h | h | h <;> rw [h] <;> simp <;> omega
  intro L hL
  rw [key L]
  have hl : ((List.range L).map fun t => c.getD (place v t) 0).length = L := by simp
  have : ∀ (a b : List Nat), a.length = b.length → (apart a b : Int) = sumN (fun t => if a.getD t 0 ≠ b.getD t 0 then (1 : Int) else 0) a.length := by
    intro a
    induction a with
    | nil => intro b h; cases b with
      | nil => rfl
      | cons _ _ => simp at h
    | cons x a ih => intro b h; cases b with
      | nil => simp at h
      | cons y b =>
        rw [List.length_cons, sumN_shift]
        have := ih b (by simpa using h)
        simp only [apart]
        push_cast
        rw [this]
        simp
        split <;> simp_all
  rw [this p _ (by rw [hl, hL]), hL]
  have hcong : ∀ n, n ≤ L → sumN (fun t => if p.getD t 0 ≠ c.getD (place v t) 0 then (1 : Int) else 0) n = sumN (fun t => if p.getD t 0 ≠ ((List.range L).map fun t => c.getD (place v t) 0).getD t 0 then (1 : Int) else 0) n := by
    intro n
    induction n with
    | zero => intro _; rfl
    | succ n ih =>
      intro h
      simp only [sumN]
      rw [ih (by omega)]
      have e : ((List.range L).map fun t => c.getD (place v t) 0).getD n 0 = c.getD (place v n) 0 := by
        rw [List.getD_eq_getElem?_getD, List.getElem?_map, List.getElem?_range (by omega)]
        rfl
      rw [e]
  exact hcong L (Nat.le_refl _)
/-- How many bits of all that came are turned. -/
def turned (c : List Nat) (L : Nat) : List (Nat × List Nat) → Nat
  | [] => 0
  | (v, p) :: rs => turned c L rs + apart p ((List.range L).map fun t => c.getD (place v t) 0)
theorem bad_turned (c : List Nat) (L : Nat) : ∀ rs : List (Nat × List Nat), (∀ q ∈ rs, q.1 < 4) → (∀ q ∈ rs, q.2.length = L) → sumN (fun j => (badj c j rs : Int)) (4 * L) = (turned c L rs : Int)
  | [], _, _ => by
    have : ∀ n, sumN (fun j => ((badj c j [] : Nat) : Int)) n = 0 := fun n => by
      induction n with
      | zero => rfl
      | succ n ih =>
        show sumN _ n + ((badj c n [] : Nat) : Int) = 0
        rw [ih]
        rfl
    rw [this]
    rfl
  | (v, p) :: rs, h, hl => by
    have ih := bad_turned c L rs (fun q hq => h q (List.mem_cons_of_mem _ hq)) (fun q hq => hl q (List.mem_cons_of_mem _ hq))
    have hb := bad_apart c p v (h (v, p) List.mem_cons_self) L (hl (v, p) List.mem_cons_self)
    have e : (fun j => ((badj c j ((v, p) :: rs) : Nat) : Int)) = fun j => (badj c j rs : Int) + (if ver j = v ∧ p.getD (j / 4) 0 ≠ c.getD j 0 then 1 else 0) := by
      funext j
      simp only [badj]
      push_cast
      split <;> simp
    rw [e, sumN_add, ih, hb]
    simp only [turned]
    push_cast
    rfl
theorem wdw_sum (w : Nat → Nat) : ∀ (l m : List Nat) (t s u : Nat), l.length = m.length →
    (wdw w t s u l m : Int) = sumN (fun j => if (pcode s l).getD j 0 = (pcode u m).getD j 0 then 0 else (w (vat (j % 4) (t + j / 4)) : Int)) (4 * l.length)
  | [], [], _, _, _, _ => rfl
  | [], _ :: _, _, _, _, h => by simp at h
  | _ :: _, [], _, _, _, h => by simp at h
  | b :: l, c :: m, t, s, u, h => by
    have ih := wdw_sum w l m (t + 1) ((s + 64 * b) / 2) ((u + 64 * c) / 2) (by simpa using h)
    rw [List.length_cons, show 4 * (l.length + 1) = 4 * l.length + 1 + 1 + 1 + 1 by omega, sumN_shift, sumN_shift, sumN_shift, sumN_shift]
    simp only [wdw, pcode]
    have e : (fun j => if (pcode ((s + 64 * b) / 2) l).getD j 0 = (pcode ((u + 64 * c) / 2) m).getD j 0 then (0 : Int) else (w (vat (j % 4) (t + 1 + j / 4)) : Int)) = fun j => if (ob (s + 64 * b) 0 :: ob (s + 64 * b) 1 :: ob (s + 64 * b) 2 :: ob (s + 64 * b) 3 :: pcode ((s + 64 * b) / 2) l).getD (j + 1 + 1 + 1 + 1) 0 = (ob (u + 64 * c) 0 :: ob (u + 64 * c) 1 :: ob (u + 64 * c) 2 :: ob (u + 64 * c) 3 :: pcode ((u + 64 * c) / 2) m).getD (j + 1 + 1 + 1 + 1) 0 then (0 : Int) else (w (vat ((j + 1 + 1 + 1 + 1) % 4) (t + (j + 1 + 1 + 1 + 1) / 4)) : Int) := by
      funext j
      rw [show (j + 1 + 1 + 1 + 1) % 4 = j % 4 by omega, show t + (j + 1 + 1 + 1 + 1) / 4 = t + 1 + j / 4 by omega]
      simp
    push_cast
    rw [ih, e]
    have o : ∀ j, ((ob ((s + 64 * b) ^^^ (u + 64 * c)) j : Nat) : Int) = if ob (s + 64 * b) j = ob (u + 64 * c) j then 0 else 1 := fun j => by
      rw [← ob_ne]
      split <;> rfl
    unfold wgt
    push_cast
    rw [o 0, o 1, o 2, o 3]
    have g : ∀ (P : Prop) [Decidable P] (x : Int), (if P then (0 : Int) else 1) * x = if P then 0 else x := fun P _ x => by split <;> simp
    rw [g, g, g, g]
    simp
    omega
/-- If fewer bits are turned than half of the least weight, the list is told. -/
theorem mends_told {m : List Nat} {n best : Nat} {at_ : Nat → Nat → Nat} (hm : m.length = n) (hb : Bits m) (hn : n ≤ 4096) (rs : List (Nat × List Nat)) (hv : ∀ q ∈ rs, q.1 < 4) (hbits : ∀ q ∈ rs, Bits q.2) (hlen : ∀ q ∈ rs, q.2.length = n + 6) (hl : rs.length ≤ 30)
    (hw : ∀ v, cnt v rs ≤ 7) (hP : Pot (fun v => cnt v rs) best at_) (ht : 2 * turned (code m) (n + 6) rs < best) :
    (decOf (softs (n + 6) rs)).1 = ints m ∧ (decOf (softs (n + 6) rs)).2.2 = 0 := by
  have hc : (code m).length = 4 * (n + 6) := by rw [code_len, hm]
  refine best_unique hm hb hn (softs_len _ _) (softs_in _ _ hl hv) (fun l hl2 hlb hne => ?_)
  have hc2 : (code l).length = 4 * (n + 6) := by rw [code_len, hl2]
  have hpot := pot_codes hP hw m l 0 0 (hm.trans hl2.symm) hb hlb (by omega) (fun e => hne e.symm) (by omega)
  have hsum := wdw_sum (fun v => cnt v rs) (m ++ zs 6) (l ++ zs 6) 0 0 0 (by rw [List.length_append, List.length_append, hm, hl2])
  rw [List.length_append, zs_len, hm] at hsum
  rw [difx_sum _ _ _ (by rw [softs_len, hc]) (by rw [hc, hc2]), hc]
  have hbad := bad_turned (code m) (n + 6) rs hv hlen
  have h1 : sumN (fun j => (if (code m).getD j 0 = (code l).getD j 0 then (0 : Int) else ((fun v => cnt v rs) (vat (j % 4) (0 + j / 4)) : Nat)) + -2 * (badj (code m) j rs : Int)) (4 * (n + 6)) ≤ sumN (fun j => if (code m).getD j 0 = (code l).getD j 0 then 0 else (softs (n + 6) rs).getD j 0 * sg ((code m).getD j 0)) (4 * (n + 6)) := by
    refine sumN_le _ (fun j hj => ?_)
    by_cases he : (code m).getD j 0 = (code l).getD j 0
    · rw [if_pos he, if_pos he]
      omega
    · rw [if_neg he, if_neg he, softs_get _ _ hl hv j hj, tot_bad (code m) (code_bits m) j rs hbits]
      have : vat (j % 4) (0 + j / 4) = ver j := by unfold vat ver; simp
      rw [this]
      show (cnt (ver j) rs : Int) + -2 * (badj (code m) j rs : Int) ≤ (cnt (ver j) rs : Int) - 2 * (badj (code m) j rs : Int)
      omega
  have h2 : ∀ k, sumN (fun j => -2 * (badj (code m) j rs : Int)) k = -2 * sumN (fun j => (badj (code m) j rs : Int)) k := fun k => by
    induction k with
    | zero => rfl
    | succ k ih => simp only [sumN, ih]; omega
  rw [sumN_add, h2, hbad] at h1
  have h3 : sumN (fun j => if (code m).getD j 0 = (code l).getD j 0 then (0 : Int) else ((fun v => cnt v rs) (vat (j % 4) (0 + j / 4)) : Nat)) (4 * (n + 6)) = (wdw (fun v => cnt v rs) 0 0 0 (m ++ zs 6) (l ++ zs 6) : Int) := hsum.symm
  rw [h3] at h1
  omega
end Go.Proofs.YticiilolmkbncaaDoor.Vit
