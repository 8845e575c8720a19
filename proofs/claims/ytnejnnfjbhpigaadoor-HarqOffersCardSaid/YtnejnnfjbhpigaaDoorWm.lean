/- Plain words on weighted distances of codes (for the law CombineMends): potentials bound them. Each theorem says its own conditions. -/
import Derived.Test.YtnejnnfjbhpigaaDoorWp
import Derived.Test.YtnejnnfjbhpigaaDoorVza
import Derived.Test.YtnejnnfjbhpigaaDoorVy
namespace Go.Proofs.YtnejnnfjbhpigaaDoor.Vit
set_option linter.unusedVariables false
set_option linter.unusedSimpArgs false

/-- In which version a stream's bit stands at a step. -/
def vat (s t : Nat) : Nat := (s + (4 - t % 4)) % 4
/-- What an edge's bits weigh at a step. -/
def wgt (w : Nat → Nat) (t z : Nat) : Nat := ob z 0 * w (vat 0 t) + ob z 1 * w (vat 1 t) + ob z 2 * w (vat 2 t) + ob z 3 * w (vat 3 t)
theorem wgt_mod (w : Nat → Nat) (t z : Nat) : wgt w (t % 4) z = wgt w t z := by unfold wgt vat; simp
/-- What two ways' unlike bits weigh. -/
def wdw (w : Nat → Nat) : Nat → Nat → Nat → List Nat → List Nat → Nat
  | t, s, u, b :: l, c :: m => wgt w t ((s + 64 * b) ^^^ (u + 64 * c)) + wdw w (t + 1) ((s + 64 * b) / 2) ((u + 64 * c) / 2) l m
  | _, _, _, _, _ => 0
/-- What the detours' search leaves. -/
structure Pot (w : Nat → Nat) (best : Nat) (at_ : Nat → Nat → Nat) : Prop where
  start : ∀ t, t < 4 → at_ 32 ((t + 1) % 4) ≤ wgt w t 64
  step : ∀ s t i, 1 ≤ s → s < 64 → t < 4 → i ≤ 1 → at_ s t < 1073741824 → if (s + 64 * i) / 2 = 0 then best ≤ at_ s t + wgt w t (s + 64 * i) else at_ ((s + 64 * i) / 2) ((t + 1) % 4) ≤ at_ s t + wgt w t (s + 64 * i)
theorem wgt_le (w : Nat → Nat) (hw : ∀ v, w v ≤ 7) (t z : Nat) : wgt w t z ≤ 28 := by
  have h : ∀ j, ob z j * w (vat j t) ≤ 7 := fun j => by
    have h1 := ob_le z j
    have h2 := hw (vat j t)
    rcases Nat.le_one_iff_eq_zero_or_eq_one.1 h1 with h | h <;> rw [h] <;> omega
  have h0 := h 0
  have h1 := h 1
  have h2 := h 2
  have h3 := h 3
  unfold wgt
  omega
theorem xor_step {s u b c : Nat} (hs : s < 64) (hu : u < 64) (hb : b ≤ 1) (hc : c ≤ 1) : ∃ i, i ≤ 1 ∧ (s + 64 * b) ^^^ (u + 64 * c) = (s ^^^ u) + 64 * i ∧ ((s + 64 * b) / 2) ^^^ ((u + 64 * c) / 2) = ((s ^^^ u) + 64 * i) / 2 := by
  have h1 := xor_lt (s + 64 * b) (u + 64 * c) (by omega) (by omega)
  have h2 := xor_mod (s + 64 * b) (u + 64 * c)
  rw [show (s + 64 * b) % 64 = s by omega, show (u + 64 * c) % 64 = u by omega] at h2
  have h3 : s ^^^ u < 64 := Nat.xor_lt_two_pow (n := 6) hs hu
  refine ⟨((s + 64 * b) ^^^ (u + 64 * c)) / 64, by omega, by omega, ?_⟩
  rw [← Nat.xor_div_two]
  omega
/-- From a state that is unlike on: as much as the potential tells. -/
theorem pot_way {w : Nat → Nat} {best : Nat} {at_ : Nat → Nat → Nat} (hP : Pot w best at_) (hw : ∀ v, w v ≤ 7) : ∀ (l m : List Nat) (t s u a : Nat), l.length = m.length → Bits l → Bits m → s < 64 → u < 64 → s ^^^ u ≠ 0 → pend s l = pend u m →
    at_ (s ^^^ u) (t % 4) ≤ a → a + 28 * l.length < 1073741824 → best ≤ a + wdw w t s u l m
  | [], [], t, s, u, a, _, _, _, _, _, hx, hp, _, _ => by
    simp only [pend] at hp
    subst hp
    rw [Nat.xor_self] at hx
    exact absurd rfl hx
  | [], _ :: _, _, _, _, _, h, _, _, _, _, _, _, _, _ => by simp at h
  | _ :: _, [], _, _, _, _, h, _, _, _, _, _, _, _, _ => by simp at h
  | b :: l, c :: m, t, s, u, a, h, hl, hm, hs, hu, hx, hp, ha, hf => by
    have hb := hl b List.mem_cons_self
    have hc := hm c List.mem_cons_self
    obtain ⟨i, hi, e1, e2⟩ := xor_step hs hu hb hc
    have h3 : s ^^^ u < 64 := Nat.xor_lt_two_pow (n := 6) hs hu
    have hst := hP.step (s ^^^ u) (t % 4) i (by omega) h3 (by omega) hi (by omega)
    rw [wgt_mod] at hst
    have hwl := wgt_le w hw t ((s ^^^ u) + 64 * i)
    simp only [wdw, e1]
    rw [List.length_cons] at hf
    by_cases h0 : ((s ^^^ u) + 64 * i) / 2 = 0
    · rw [if_pos h0] at hst
      omega
    · rw [if_neg h0] at hst
      have ih := pot_way hP hw l m (t + 1) ((s + 64 * b) / 2) ((u + 64 * c) / 2) (a + wgt w t ((s ^^^ u) + 64 * i)) (by simpa using h) hl.tail hm.tail (by omega) (by omega) (by rw [e2]; exact h0) hp (by
        rw [e2, show (t + 1) % 4 = (t % 4 + 1) % 4 by omega]
        omega) (by omega)
      omega
/-- Unlike lists' codes are as far apart, at least. -/
theorem pot_codes {w : Nat → Nat} {best : Nat} {at_ : Nat → Nat → Nat} (hP : Pot w best at_) (hw : ∀ v, w v ≤ 7) : ∀ (l m : List Nat) (t s : Nat), l.length = m.length → Bits l → Bits m → s < 64 → l ≠ m → l.length ≤ 4096 → best ≤ wdw w t s s (l ++ zs 6) (m ++ zs 6)
  | [], [], _, _, _, _, _, _, h, _ => absurd rfl h
  | [], _ :: _, _, _, h, _, _, _, _, _ => by simp at h
  | _ :: _, [], _, _, h, _, _, _, _, _ => by simp at h
  | b :: l, c :: m, t, s, h, hl, hm, hs, hne, hle => by
    have hb := hl b List.mem_cons_self
    have hc := hm c List.mem_cons_self
    rw [List.length_cons] at hle
    by_cases hbc : b = c
    · subst hbc
      have ih := pot_codes hP hw l m (t + 1) ((s + 64 * b) / 2) (by simpa using h) hl.tail hm.tail (by omega) (fun e => hne (by rw [e])) (by omega)
      simp only [List.cons_append, wdw]
      omega
    · obtain ⟨i, hi, e1, e2⟩ := xor_step hs hs hb hc
      rw [Nat.xor_self, Nat.zero_add] at e1 e2
      have hi1 : i = 1 := by
        refine Classical.byContradiction fun hn => ?_
        obtain rfl : i = 0 := by omega
        have h0 : (s + 64 * b) ^^^ ((s + 64 * b) ^^^ (s + 64 * c)) = s + 64 * b := by rw [e1]; simp
        rw [← Nat.xor_assoc, Nat.xor_self, Nat.zero_xor] at h0
        omega
      subst hi1
      have hz1 : pend ((s + 64 * b) / 2) (l ++ zs 6) = 0 := by rw [pend_append]; exact pend_zs 6 _ (pend_lt _ _ hl.tail (by omega))
      have hz2 : pend ((s + 64 * c) / 2) (m ++ zs 6) = 0 := by rw [pend_append]; exact pend_zs 6 _ (pend_lt _ _ hm.tail (by omega))
      have h1 := hP.start (t % 4) (by omega)
      rw [wgt_mod] at h1
      have hwl := wgt_le w hw t 64
      have hll : l.length = m.length := by simpa using h
      have := pot_way hP hw (l ++ zs 6) (m ++ zs 6) (t + 1) ((s + 64 * b) / 2) ((s + 64 * c) / 2) (wgt w t 64) (by rw [List.length_append, List.length_append, hll]) (hl.tail.append (zs_bits 6)) (hm.tail.append (zs_bits 6)) (by omega) (by omega) (by rw [e2]; omega) (by rw [hz1, hz2]) (by
        rw [e2, show (t + 1) % 4 = (t % 4 + 1) % 4 by omega]
        exact h1) (by rw [List.length_append, zs_len]; omega)
      simp only [List.cons_append, wdw, e1]
      exact this
end Go.Proofs.YtnejnnfjbhpigaaDoor.Vit

namespace Go.Proofs.YtnejnnfjbhpigaaDoor.Vit
set_option linter.unusedVariables false
set_option linter.unusedSimpArgs false

def sumN (f : Nat → Int) : Nat → Int
  | 0 => 0
  | n + 1 => sumN f n + f n
theorem sumN_le {f g : Nat → Int} : ∀ n, (∀ j, j < n → f j ≤ g j) → sumN f n ≤ sumN g n
  | 0, _ => Int.le_refl _
  | n + 1, h => by
    have h1 := sumN_le n (fun j hj => h j (by omega))
    have h2 := h n (by omega)
    simp only [sumN]
    omega
theorem sumN_shift (f : Nat → Int) : ∀ n, sumN f (n + 1) = f 0 + sumN (fun j => f (j + 1)) n
  | 0 => by simp [sumN]
  | n + 1 => by
    have := sumN_shift f n
    simp only [sumN] at this ⊢
    omega
theorem sumN_add (f g : Nat → Int) : ∀ n, sumN (fun j => f j + g j) n = sumN f n + sumN g n
  | 0 => rfl
  | n + 1 => by
    have := sumN_add f g n
    simp only [sumN]
    omega
theorem difx_sum : ∀ (xs : List Int) (a b : List Nat), xs.length = a.length → a.length = b.length → difx xs a b = sumN (fun j => if a.getD j 0 = b.getD j 0 then 0 else xs.getD j 0 * sg (a.getD j 0)) a.length
  | [], [], [], _, _ => rfl
  | x :: xs, a :: u, b :: z, h1, h2 => by
    have ih := difx_sum xs u z (by simpa using h1) (by simpa using h2)
    rw [List.length_cons, sumN_shift]
    simp only [difx, ih]
    simp
  | [], _ :: _, _, h, _ => by simp at h
  | _ :: _, [], _, h, _ => by simp at h
  | _, [], _ :: _, _, h => by simp at h
  | _, _ :: _, [], _, h => by simp at h
/-- How many of what came bear a place's bit turned. -/
def badj (c : List Nat) (j : Nat) : List (Nat × List Nat) → Nat
  | [] => 0
  | (v, p) :: rs => badj c j rs + (if ver j = v ∧ p.getD (j / 4) 0 ≠ c.getD j 0 then 1 else 0)
theorem tot_bad (c : List Nat) (hc : Bits c) (j : Nat) : ∀ rs : List (Nat × List Nat), (∀ q ∈ rs, Bits q.2) → tot j rs * sg (c.getD j 0) = (cnt (ver j) rs : Int) - 2 * (badj c j rs : Int)
  | [], _ => by simp [tot, cnt, badj]
  | (v, p) :: rs, h => by
    have ih := tot_bad c hc j rs (fun q hq => h q (List.mem_cons_of_mem _ hq))
    have hp : p.getD (j / 4) 0 ≤ 1 := by
      rw [List.getD_eq_getElem?_getD]
      cases hq : p[j / 4]? with
      | none => simp
      | some x => exact h (v, p) List.mem_cons_self x (List.mem_of_getElem? hq)
    have hcj : c.getD j 0 ≤ 1 := by
      rw [List.getD_eq_getElem?_getD]
      cases hq : c[j]? with
      | none => simp
      | some x => exact hc x (List.mem_of_getElem? hq)
    simp only [tot, cnt, badj]
    by_cases hv : ver j = v
    · subst hv
      rw [if_pos rfl, if_pos rfl, Int.add_mul, ih]
      by_cases he : p.getD (j / 4) 0 = c.getD j 0
      · rw [if_neg (fun e => e.2 he), he]
        have : sg (c.getD j 0) * sg (c.getD j 0) = 1 := by unfold sg; split <;> rfl
        rw [this]
        push_cast
        omega
      · rw [if_pos ⟨rfl, he⟩, sg_ne hcj hp (fun e => he e.symm)]
        have : -sg (c.getD j 0) * sg (c.getD j 0) = -1 := by unfold sg; split <;> rfl
        rw [this]
        push_cast
        omega
    · rw [if_neg hv, if_neg (fun e => hv e.symm), if_neg (fun e => hv e.1), Int.add_zero, ih]
      simp
/-- Of one version the turned bits are its distance. -/
theorem bad_apart (c p : List Nat) (v : Nat) (hv : v < 4) : ∀ L, p.length = L → sumN (fun j => if ver j = v ∧ p.getD (j / 4) 0 ≠ c.getD j 0 then 1 else 0) (4 * L) = (apart p ((List.range L).map fun t => c.getD (place v t) 0) : Nat) := by
  have key : ∀ L, sumN (fun j => if ver j = v ∧ p.getD (j / 4) 0 ≠ c.getD j 0 then (1 : Int) else 0) (4 * L) = sumN (fun t => if p.getD t 0 ≠ c.getD (place v t) 0 then (1 : Int) else 0) L := by
    intro L
    induction L with
    | zero => rfl
    | succ L ih =>
      rw [show 4 * (L + 1) = 4 * L + 4 by omega]
      simp only [sumN, ih]
      have d0 : (4 * L) / 4 = L := by omega
      have d1 : (4 * L + 1) / 4 = L := by omega
      have d2 : (4 * L + 2) / 4 = L := by omega
      have d3 : (4 * L + 3) / 4 = L := by omega
      rw [d0, d1, d2, d3]
      have hpl : place v L = 4 * L + strm v L := rfl
      have hs := strm_lt v L
      have hz : ∀ i, i < 4 → (ver (4 * L + i) = v ↔ i = strm v L) := fun i hi => by unfold ver strm; omega
      have z0 := hz 0 (by omega)
      have z1 := hz 1 (by omega)
      have z2 := hz 2 (by omega)
      have z3 := hz 3 (by omega)
      rw [Nat.add_zero] at z0
      simp only [z0, z1, z2, z3]
      have h4 : strm v L = 0 ∨ strm v L = 1 ∨ strm v L = 2 ∨ strm v L = 3 := by omega
      rw [hpl]
      rcases h4 with h | h | h | h <;> rw [h] <;> simp <;> omega
  intro L hL
  rw [key L]
  have hl : ((List.range L).map fun t => c.getD (place v t) 0).length = L := by simp
  have : ∀ (a b : List Nat), a.length = b.length → (apart a b : Int) = sumN (fun t => if a.getD t 0 ≠ b.getD t 0 then (1 : Int) else 0) a.length := by
    intro a
    induction a with
    | nil => intro b h; cases b with
      | nil => rfl
      | cons _ _ => simp at h
    | cons x a ih => intro b h; cases b with
      | nil => simp at h
      | cons y b =>
        rw [List.length_cons, sumN_shift]
        have := ih b (by simpa using h)
        simp only [apart]
        push_cast
        rw [this]
        simp
        split <;> simp_all
  rw [this p _ (by rw [hl, hL]), hL]
  have hcong : ∀ n, n ≤ L → sumN (fun t => if p.getD t 0 ≠ c.getD (place v t) 0 then (1 : Int) else 0) n = sumN (fun t => if p.getD t 0 ≠ ((List.range L).map fun t => c.getD (place v t) 0).getD t 0 then (1 : Int) else 0) n := by
    intro n
    induction n with
    | zero => intro _; rfl
    | succ n ih =>
      intro h
      simp only [sumN]
      rw [ih (by omega)]
      have e : ((List.range L).map fun t => c.getD (place v t) 0).getD n 0 = c.getD (place v n) 0 := by
        rw [List.getD_eq_getElem?_getD, List.getElem?_map, List.getElem?_range (by omega)]
        rfl
      rw [e]
  exact hcong L (Nat.le_refl _)
/-- How many bits of all that came are turned. -/
def turned (c : List Nat) (L : Nat) : List (Nat × List Nat) → Nat
  | [] => 0
  | (v, p) :: rs => turned c L rs + apart p ((List.range L).map fun t => c.getD (place v t) 0)
theorem bad_turned (c : List Nat) (L : Nat) : ∀ rs : List (Nat × List Nat), (∀ q ∈ rs, q.1 < 4) → (∀ q ∈ rs, q.2.length = L) → sumN (fun j => (badj c j rs : Int)) (4 * L) = (turned c L rs : Int)
  | [], _, _ => by
    have : ∀ n, sumN (fun j => ((badj c j [] : Nat) : Int)) n = 0 := fun n => by
      induction n with
      | zero => rfl
      | succ n ih =>
        show sumN _ n + ((badj c n [] : Nat) : Int) = 0
        rw [ih]
        rfl
    rw [this]
    rfl
  | (v, p) :: rs, h, hl => by
    have ih := bad_turned c L rs (fun q hq => h q (List.mem_cons_of_mem _ hq)) (fun q hq => hl q (List.mem_cons_of_mem _ hq))
    have hb := bad_apart c p v (h (v, p) List.mem_cons_self) L (hl (v, p) List.mem_cons_self)
    have e : (fun j => ((badj c j ((v, p) :: rs) : Nat) : Int)) = fun j => (badj c j rs : Int) + (if ver j = v ∧ p.getD (j / 4) 0 ≠ c.getD j 0 then 1 else 0) := by
      funext j
      simp only [badj]
      push_cast
      split <;> simp
    rw [e, sumN_add, ih, hb]
    simp only [turned]
    push_cast
    rfl
theorem wdw_sum (w : Nat → Nat) : ∀ (l m : List Nat) (t s u : Nat), l.length = m.length →
    (wdw w t s u l m : Int) = sumN (fun j => if (pcode s l).getD j 0 = (pcode u m).getD j 0 then 0 else (w (vat (j % 4) (t + j / 4)) : Int)) (4 * l.length)
  | [], [], _, _, _, _ => rfl
  | [], _ :: _, _, _, _, h => by simp at h
  | _ :: _, [], _, _, _, h => by simp at h
  | b :: l, c :: m, t, s, u, h => by
    have ih := wdw_sum w l m (t + 1) ((s + 64 * b) / 2) ((u + 64 * c) / 2) (by simpa using h)
    rw [List.length_cons, show 4 * (l.length + 1) = 4 * l.length + 1 + 1 + 1 + 1 by omega, sumN_shift, sumN_shift, sumN_shift, sumN_shift]
    simp only [wdw, pcode]
    have e : (fun j => if (pcode ((s + 64 * b) / 2) l).getD j 0 = (pcode ((u + 64 * c) / 2) m).getD j 0 then (0 : Int) else (w (vat (j % 4) (t + 1 + j / 4)) : Int)) = fun j => if (ob (s + 64 * b) 0 :: ob (s + 64 * b) 1 :: ob (s + 64 * b) 2 :: ob (s + 64 * b) 3 :: pcode ((s + 64 * b) / 2) l).getD (j + 1 + 1 + 1 + 1) 0 = (ob (u + 64 * c) 0 :: ob (u + 64 * c) 1 :: ob (u + 64 * c) 2 :: ob (u + 64 * c) 3 :: pcode ((u + 64 * c) / 2) m).getD (j + 1 + 1 + 1 + 1) 0 then (0 : Int) else (w (vat ((j + 1 + 1 + 1 + 1) % 4) (t + (j + 1 + 1 + 1 + 1) / 4)) : Int) := by
      funext j
      rw [show (j + 1 + 1 + 1 + 1) % 4 = j % 4 by omega, show t + (j + 1 + 1 + 1 + 1) / 4 = t + 1 + j / 4 by omega]
      simp
    push_cast
    rw [ih, e]
    have o : ∀ j, ((ob ((s + 64 * b) ^^^ (u + 64 * c)) j : Nat) : Int) = if ob (s + 64 * b) j = ob (u + 64 * c) j then 0 else 1 := fun j => by
      rw [← ob_ne]
      split <;> rfl
    unfold wgt
    push_cast
    rw [o 0, o 1, o 2, o 3]
    have g : ∀ (P : Prop) [Decidable P] (x : Int), (if P then (0 : Int) else 1) * x = if P then 0 else x := fun P _ x => by split <;> simp
    rw [g, g, g, g]
    simp
    omega
/-- If fewer bits are turned than half of the least weight, the list is told. -/
theorem mends_told {m : List Nat} {n best : Nat} {at_ : Nat → Nat → Nat} (hm : m.length = n) (hb : Bits m) (hn : n ≤ 4096) (rs : List (Nat × List Nat)) (hv : ∀ q ∈ rs, q.1 < 4) (hbits : ∀ q ∈ rs, Bits q.2) (hlen : ∀ q ∈ rs, q.2.length = n + 6) (hl : rs.length ≤ 30)
    (hw : ∀ v, cnt v rs ≤ 7) (hP : Pot (fun v => cnt v rs) best at_) (ht : 2 * turned (code m) (n + 6) rs < best) :
    (decOf (softs (n + 6) rs)).1 = ints m ∧ (decOf (softs (n + 6) rs)).2.2 = 0 := by
  have hc : (code m).length = 4 * (n + 6) := by rw [code_len, hm]
  refine best_unique hm hb hn (softs_len _ _) (softs_in _ _ hl hv) (fun l hl2 hlb hne => ?_)
  have hc2 : (code l).length = 4 * (n + 6) := by rw [code_len, hl2]
  have hpot := pot_codes hP hw m l 0 0 (hm.trans hl2.symm) hb hlb (by omega) (fun e => hne e.symm) (by omega)
  have hsum := wdw_sum (fun v => cnt v rs) (m ++ zs 6) (l ++ zs 6) 0 0 0 (by rw [List.length_append, List.length_append, hm, hl2])
  rw [List.length_append, zs_len, hm] at hsum
  rw [difx_sum _ _ _ (by rw [softs_len, hc]) (by rw [hc, hc2]), hc]
  have hbad := bad_turned (code m) (n + 6) rs hv hlen
  have h1 : sumN (fun j => (if (code m).getD j 0 = (code l).getD j 0 then (0 : Int) else ((fun v => cnt v rs) (vat (j % 4) (0 + j / 4)) : Nat)) + -2 * (badj (code m) j rs : Int)) (4 * (n + 6)) ≤ sumN (fun j => if (code m).getD j 0 = (code l).getD j 0 then 0 else (softs (n + 6) rs).getD j 0 * sg ((code m).getD j 0)) (4 * (n + 6)) := by
    refine sumN_le _ (fun j hj => ?_)
    by_cases he : (code m).getD j 0 = (code l).getD j 0
    · rw [if_pos he, if_pos he]
      omega
    · rw [if_neg he, if_neg he, softs_get _ _ hl hv j hj, tot_bad (code m) (code_bits m) j rs hbits]
      have : vat (j % 4) (0 + j / 4) = ver j := by unfold vat ver; simp
      rw [this]
      show (cnt (ver j) rs : Int) + -2 * (badj (code m) j rs : Int) ≤ (cnt (ver j) rs : Int) - 2 * (badj (code m) j rs : Int)
      omega
  have h2 : ∀ k, sumN (fun j => -2 * (badj (code m) j rs : Int)) k = -2 * sumN (fun j => (badj (code m) j rs : Int)) k := fun k => by
    induction k with
    | zero => rfl
    | succ k ih => simp only [sumN, ih]; omega
  rw [sumN_add, h2, hbad] at h1
  have h3 : sumN (fun j => if (code m).getD j 0 = (code l).getD j 0 then (0 : Int) else ((fun v => cnt v rs) (vat (j % 4) (0 + j / 4)) : Nat)) (4 * (n + 6)) = (wdw (fun v => cnt v rs) 0 0 0 (m ++ zs 6) (l ++ zs 6) : Int) := hsum.symm
  rw [h3] at h1
  omega
end Go.Proofs.YtnejnnfjbhpigaaDoor.Vit

namespace Go.Proofs.YtnejnnfjbhpigaaDoor.Vit
open Go.RowKit Go.Proofs.YtnejnnfjbhpigaaDoorW.PrintWords Go.Proofs.YtnejnnfjbhpigaaDoorW.PrintLast Go.Proofs.YtnejnnfjbhpigaaDoorW.PrintMore Go.Proofs.YtnejnnfjbhpigaaDoor.Mem
attribute [local go_sem] max2_int min2_int max_two min_two max_three min_three max_four min_four   -- for this text's walks alone
set_option linter.unusedVariables false
set_option linter.unusedSimpArgs false

theorem vat_lt (s t : Nat) : vat s t < 4 := by unfold vat; omega
theorem Version_any (s t : Nat) (hs : s < 4) (w : World) : Calls Tryd.prog 65 #[.int .i64 (s : Int), .int .i64 (t : Int)] w fun e w' => e = .returned (.int .i64 (vat s t : Nat)) ∧ w = w' := by
  go_enter Tryd.func65, Tryd.ntmps65
  go_wp2_with fail
  go_loopw [5] (fun i wr => ∃ v : Nat, i = .int .i64 v ∧ v ≤ vat s t ∧ wr = w) (fun i _ => 4 - (intOf i).toNat)
  case atStart => exact ⟨0, rfl, Nat.zero_le _, rfl⟩
  case round =>
    obtain ⟨v, rfl, hv, rfl⟩ := hrel
    have h4 := vat_lt s t
    have hv4 : v < 4 := by omega
    have hlt : (v : Int) < 4 := by omega
    have hst := fun W => Stream10_any v t hv4 W
    obtain ⟨x, hx⟩ : ∃ x, strm v t = x := ⟨_, rfl⟩
    rw [hx] at hst
    have HS := Aside0.mk hst
    by_cases he : v = vat s t
    · have hxs : x = s := by rw [← hx, he]; unfold strm vat; omega
      subst hxs
      have hb : ((x : Int) == (x : Int)) = true := by simp
      have HE := Aside0.mk he
      clear hst hx he hv
      go_wp2_with (go_at_call 61; refine (HS.out _).mono ?_; rintro e w1 ⟨rfl, rfl⟩)
      go_ret
      exact ⟨by have h9 := HE.out; rw [← h9]; rfl, rfl⟩
    · have hxs : x ≠ s := fun h => he (by rw [← h, ← hx]; unfold strm vat; omega)
      have hb : ((x : Int) == (s : Int)) = false := by simp; omega
      have hv1 : v + 1 ≤ vat s t := by omega
      clear hst hx he hv hxs
      go_wp2_with (go_at_call 61; refine (HS.out _).mono ?_; rintro e w1 ⟨rfl, rfl⟩)
      exact ⟨⟨v + 1, by go_num, hv1, trivial⟩, by simp only [intOf]; omega⟩
/-- The weights of the first bits of an edge. -/
def wsm (o w : Nat → Nat) (t : Nat) : Nat → Nat
  | 0 => 0
  | i + 1 => wsm o w t i + o i * w (vat i t)
theorem wsm_le (o w : Nat → Nat) (t : Nat) (ho : ∀ j, o j ≤ 1) (hw : ∀ v, w v ≤ 7) : ∀ i, wsm o w t i ≤ 7 * i
  | 0 => by simp [wsm]
  | i + 1 => by
    have h1 := wsm_le o w t ho hw i
    have h2 : o i * w (vat i t) ≤ 1 * 7 := Nat.mul_le_mul (ho i) (hw _)
    simp only [wsm]
    omega
theorem wsm_wgt (w : Nat → Nat) (t z : Nat) : wsm (ob z) w t 4 = wgt w t z := by simp [wsm, wgt]
/-- An edge's value, by its four bits. -/
abbrev edgeO (a b c : Int) (o : Nat → Nat) : Array Value := #[.int .i64 a, .int .i64 b, .int .u8 c, .int .u8 (o 0 : Nat), .int .u8 (o 1 : Nat), .int .u8 (o 2 : Nat), .int .u8 (o 3 : Nat)]
/-- Four weights. -/
abbrev fourW (w : Nat → Nat) : Array Value := #[.int .i64 (w 0 : Nat), .int .i64 (w 1 : Nat), .int .i64 (w 2 : Nat), .int .i64 (w 3 : Nat)]
theorem edgeO_get (a b c : Int) (o : Nat → Nat) (i : Nat) (h : i < 4) : (edgeO a b c o)[3 + i]? = some (.int .u8 (o i : Nat)) := by
  match i, h with
  | 0, _ => rfl
  | 1, _ => rfl
  | 2, _ => rfl
  | 3, _ => rfl
theorem fourW_get (w : Nat → Nat) (i : Nat) (h : i < 4) : (fourW w)[i]? = some (.int .i64 (w i : Nat)) := by
  match i, h with
  | 0, _ => rfl
  | 1, _ => rfl
  | 2, _ => rfl
  | 3, _ => rfl
set_option maxHeartbeats 1600000 in
set_option maxRecDepth 100000 in
theorem weigh_any (a b c : Int) (o w : Nat → Nat) (ho : ∀ j, o j ≤ 1) (hw : ∀ v, w v ≤ 7) (t : Nat) (W : World) :
    Calls Tryd.prog 35 #[.agg (edgeO a b c o), .int .i64 (t : Int), .agg (fourW w)] W fun e w' => e = .returned (.int .i64 (wsm o w t 4 : Nat)) ∧ Below W.heap.size W w' := by
  go_enter Tryd.func35, Tryd.ntmps35
  go_upto_region 1 with fail
  obtain ⟨W1, hW1⟩ : ∃ W1, ((W.alloc (.cells (edgeO a b c o) 69)).alloc (.cells (fourW w) 37)) = W1 := ⟨_, rfl⟩
  have h0 : W1.heap[W.heap.size]? = some (.cells (edgeO a b c o) 69 (0, 0)) := by
    rw [← hW1]
    exact blk_alloc (heap_alloc_new W _) _
  have h1 : W1.heap[W.heap.size + 1]? = some (.cells (fourW w) 37 (0, 0)) := by
    rw [← hW1]
    have := heap_alloc_new (W.alloc (.cells (edgeO a b c o) 69)) (.cells (fourW w) 37)
    rw [World.size_alloc] at this
    exact this
  have hB1 : Below W.heap.size W W1 := by rw [← hW1]; exact below_alloc (below_alloc (Below.refl _ _) _) _
  rw [hW1]
  have H1 := Aside0.mk (And.intro h0 (And.intro h1 hB1))
  clear hW1 h0 h1 hB1
  go_wp2_with fail
  go_loopw [7, 8] (fun m k wr => ∃ i : Nat, k = .int .i64 i ∧ i ≤ 4 ∧ m = .int .i64 (wsm o w t i : Nat) ∧ ∃ q, wr = W1.drewN q) (fun _ k _ => 4 - (intOf k).toNat)
  case atStart => exact ⟨0, rfl, by omega, rfl, 0, rfl⟩
  case round =>
    obtain ⟨i, rfl, hi, rfl, q0, hwq⟩ := hrel
    have HWQ := Aside0.mk hwq
    by_cases h4 : i < 4
    · have h4' : (i : Int) < 4 := by omega
      have hv := vat_lt i t
      have k1 : wr.cell? ⟨W.heap.size, 3 + i, none⟩ = some (.int .u8 (o i : Nat)) := by rw [hwq]; exact (blk_cell H1.out.1 _).trans (edgeO_get a b c o i h4)
      have k2 : wr.cell? ⟨W.heap.size + 1, vat i t, none⟩ = some (.int .i64 (w (vat i t) : Nat)) := by rw [hwq]; exact (blk_cell H1.out.2.1 _).trans (fourW_get w _ hv)
      have hm := wsm_le o w t ho hw i
      have hm2 : wsm o w t (i + 1) ≤ 35 := by have := wsm_le o w t ho hw (i + 1); omega
      have hVer := fun W9 => Version_any i t h4 W9
      obtain ⟨p, hp⟩ : ∃ p, o i = p := ⟨_, rfl⟩
      obtain ⟨v, hvv⟩ : ∃ v, vat i t = v := ⟨_, rfl⟩
      obtain ⟨q, hq⟩ : ∃ q, w v = q := ⟨_, rfl⟩
      obtain ⟨m, hmm⟩ : ∃ m, wsm o w t i = m := ⟨_, rfl⟩
      have hn : wsm o w t (i + 1) = m + p * q := by simp only [wsm]; rw [hvv, hp, hq, hmm]
      rw [hvv, hq] at k2
      rw [hp] at k1
      rw [hvv] at hVer hv
      rw [hn] at hm2
      rw [hmm] at hm
      have hpq : ((p : Int) * (q : Int)) = ((p * q : Nat) : Int) := by simp
      have hp1 : p ≤ 1 := by rw [← hp]; exact ho i
      have w1 : wrap64 (p : Int) = (p : Int) := wrap64_in _ (by omega) (by omega)
      have w2 : wrap64 ((p : Int) * (q : Int)) = (p : Int) * (q : Int) := by rw [hpq]; exact wrap64_in _ (by omega) (by omega)
      have w3 : wrap64 ((m : Int) + (p : Int) * (q : Int)) = (m : Int) + (p : Int) * (q : Int) := by rw [hpq]; exact wrap64_in _ (by omega) (by omega)
      have w4 : (m : Int) + (p : Int) * (q : Int) = ((m + p * q : Nat) : Int) := by simp
      rw [hmm]
      have HN := Aside0.mk hn
      have HVR := Aside0.mk hVer
      have HW4 := Aside0.mk w4
      have HV : v < 4 := hv
      clear hn hVer hp hvv hq hmm hm2 hm hp1 hwq hpq w4
      go_wp2_with fail
      go_quiet ((go_at_call 65; exact Calls.quiet_of ((HVR.out _).mono (fun e w' h => ⟨h.1, 0, h.2.symm⟩))))
      go_wp2_with fail
      refine ⟨⟨i + 1, by go_num, by omega, by rw [HN.out, ← HW4.out]; exact congrArg (Value.int IntKind.i64) w3, ⟨_, by rw [HWQ.out]; exact World.drewN_drewN _ _ _⟩⟩, by simp only [intOf]; omega⟩
    · have h4' : ¬ (i : Int) < 4 := by omega
      obtain rfl : i = 4 := by omega
      clear hwq
      go_wp2_with fail
      go_ret
      refine ⟨rfl, ?_⟩
      rw [HWQ.out]
      exact (H1.out.2.2).trans ⟨rfl, rfl, rfl, Nat.le_refl _, fun _ _ => rfl⟩
theorem edgeA_edgeO (s b : Nat) : edgeA s b 4 = edgeO (s : Int) (((s + 64 * b) / 2 : Nat) : Int) (b : Int) (ob (s + 64 * b)) := by
  have e : (s : Int) / 2 + 32 * (b : Int) = (((s + 64 * b) / 2 : Nat) : Int) := by omega
  unfold edgeA edgeO
  rw [e]
  simp
theorem Step_edge (s b : Nat) (hs : s < 64) (hb : b ≤ 1) (w : World) :
    Calls Tryd.prog 34 #[.int .i64 (s : Int), .int .u8 (b : Int)] w fun e w' => e = .returned (.agg (edgeO (s : Int) (((s + 64 * b) / 2 : Nat) : Int) (b : Int) (ob (s + 64 * b)))) ∧ Below w.heap.size w w' := by
  have h := Step_any s b hs hb w
  rw [edgeA_edgeO] at h
  exact h
theorem sum_set_lt : ∀ (l : List Nat) (i x : Nat), i < l.length → x < l.getD i 0 → (l.set i x).sum < l.sum
  | [], _, _, h, _ => by simp at h
  | a :: l, 0, x, _, hx => by
    simp only [List.getD_cons_zero] at hx
    simp only [List.set_cons_zero, List.sum_cons]
    omega
  | a :: l, i + 1, x, h, hx => by
    simp only [List.getD_cons_succ] at hx
    have := sum_set_lt l i x (by simpa using h) hx
    simp only [List.set_cons_succ, List.sum_cons]
    omega
end Go.Proofs.YtnejnnfjbhpigaaDoor.Vit
