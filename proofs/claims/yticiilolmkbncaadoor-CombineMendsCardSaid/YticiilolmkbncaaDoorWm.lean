/- Plain words on weighted distances of codes (for the law CombineMends): potentials bound them. Each theorem says its own conditions. -/
import Derived.Test.YticiilolmkbncaaDoorWp
namespace Go.Proofs.YticiilolmkbncaaDoor.Vit
set_option linter.unusedVariables false
set_option linter.unusedSimpArgs false

/-- In which version a stream's bit stands at a step. -/
def vat (s t : Nat) : Nat := (s + (4 - t % 4)) % 4
/-- What an edge's bits weigh at a step. -/
def wgt (w : Nat → Nat) (t z : Nat) : Nat := ob z 0 * w (vat 0 t) + ob z 1 * w (vat 1 t) + ob z 2 * w (vat 2 t) + ob z 3 * w (vat 3 t)
theorem wgt_mod (w : Nat → Nat) (t z : Nat) : wgt w (t % 4) z = wgt w t z := by unfold wgt vat; simp
/-- What two ways' unlike bits weigh. -/
def wdw (w : Nat → Nat) : Nat → Nat → Nat → List Nat → List Nat → Nat
  | t, s, u, b :: l, c :: m => wgt w t ((s + 64 * b) ^^^ (u + 64 * c)) + wdw w (t + 1) ((s + 64 * b) / 2) ((u + 64 * c) / 2) l m
  | _, _, _, _, _ => 0
/-- What the detours' search leaves. -/
structure Pot (w : Nat → Nat) (best : Nat) (at_ : Nat → Nat → Nat) : Prop where
  start : ∀ t, t < 4 → at_ 32 ((t + 1) % 4) ≤ wgt w t 64
  step : ∀ s t i, 1 ≤ s → s < 64 → t < 4 → i ≤ 1 → at_ s t < 1073741824 → if (s + 64 * i) / 2 = 0 then best ≤ at_ s t + wgt w t (s + 64 * i) else at_ ((s + 64 * i) / 2) ((t + 1) % 4) ≤ at_ s t + wgt w t (s + 64 * i)
theorem wgt_le (w : Nat → Nat) (hw : ∀ v, w v ≤ 7) (t z : Nat) : wgt w t z ≤ 28 := by
  have h : ∀ j, ob z j * w (vat j t) ≤ 7 := fun j => by
    have h1 := ob_le z j
    have h2 := hw (vat j t)
    rcases Nat.le_one_iff_eq_zero_or_eq_one.1 h1 with h | h <;> rw [h] <;> omega
  have h0 := h 0
  have h1 := h 1
  have h2 := h 2
  have h3 := h 3
  unfold wgt
  omega
theorem xor_step {s u b c : Nat} (hs : s < 64) (hu : u < 64) (hb : b ≤ 1) (hc : c ≤ 1) : ∃ i, i ≤ 1 ∧ (s + 64 * b) ^^^ (u + 64 * c) = (s ^^^ u) + 64 * i ∧ ((s + 64 * b) / 2) ^^^ ((u + 64 * c) / 2) = ((s ^^^ u) + 64 * i) / 2 := by
  have h1 := xor_lt (s + 64 * b) (u + 64 * c) (by omega) (by omega)
  have h2 := xor_mod (s + 64 * b) (u + 64 * c)
  rw [show (s + 64 * b) % 64 = s by omega, show (u + 64 * c) % 64 = u by omega] at h2
  have h3 : s ^^^ u < 64 := Nat.xor_lt_two_pow (n := 6) hs hu
  refine ⟨((s + 64 * b) ^^^ (u + 64 * c)) / 64, by omega, by omega, ?_⟩
  rw [← Nat.xor_div_two]
  omega
/-- From a state that is unlike on: as much as the potential tells. -/
theorem pot_way {w : Nat → Nat} {best : Nat} {at_ : Nat → Nat → Nat} (hP : Pot w best at_) (hw : ∀ v, w v ≤ 7) : ∀ (l m : List Nat) (t s u a : Nat), l.length = m.length → Bits l → Bits m → s < 64 → u < 64 → s ^^^ u ≠ 0 → pend s l = pend u m →
    at_ (s ^^^ u) (t % 4) ≤ a → a + 28 * l.length < 1073741824 → best ≤ a + wdw w t s u l m
  | [], [], t, s, u, a, _, _, _, _, _, hx, hp, _, _ => by
    simp only [pend] at hp
    subst hp
    rw [Nat.xor_self] at hx
    exact absurd rfl hx
  | [], _ :: _, _, _, _, _, h, _, _, _, _, _, _, _, _ => by simp at h
  | _ :: _, [], _, _, _, _, h, _, _, _, _, _, _, _, _ => by simp at h
  | b :: l, c :: m, t, s, u, a, h, hl, hm, hs, hu, hx, hp, ha, hf => by
    have hb := hl b List.mem_cons_self
    have hc := hm c List.mem_cons_self
    obtain ⟨i, hi, e1, e2⟩ := xor_step hs hu hb hc
    have h3 : s ^^^ u < 64 := Nat.xor_lt_two_pow (n := 6) hs hu
    have hst := hP.step (s ^^^ u) (t % 4) i (by omega) h3 (by omega) hi (by omega)
    rw [wgt_mod] at hst
    have hwl := wgt_le w hw t ((s ^^^ u) + 64 * i)
    simp only [wdw, e1]
    rw [List.length_cons] at hf
    by_cases h0 : ((s ^^^ u) + 64 * i) / 2 = 0
    · rw [if_pos h0] at hst
      omega
    · rw [if_neg h0] at hst
      have ih := pot_way hP hw l m (t + 1) ((s + 64 * b) / 2) ((u + 64 * c) / 2) (a + wgt w t ((s ^^^ u) + 64 * i)) (by simpa using h) hl.tail hm.tail (by omega) (by omega) (by rw [e2]; exact h0) hp (by
        rw [e2, show (t + 1) % 4 = (t % 4 + 1) % 4 by omega]
        omega) (by omega)
      omega
/-- Unlike lists' codes are as far apart, at least. -/
theorem pot_codes {w : Nat → Nat} {best : Nat} {at_ : Nat → Nat → Nat} (hP : Pot w best at_) (hw : ∀ v, w v ≤ 7) : ∀ (l m : List Nat) (t s : Nat), l.length = m.length → Bits l → Bits m → s < 64 → l ≠ m → l.length ≤ 4096 → best ≤ wdw w t s s (l ++ zs 6) (m ++ zs 6)
  | [], [], _, _, _, _, _, _, h, _ => absurd rfl h
  | [], _ :: _, _, _, h, _, _, _, _, _ => by simp at h
  | _ :: _, [], _, _, h, _, _, _, _, _ => by simp at h
  | b :: l, c :: m, t, s, h, hl, hm, hs, hne, hle => by
    have hb := hl b List.mem_cons_self
    have hc := hm c List.mem_cons_self
    rw [List.length_cons] at hle
    by_cases hbc : b = c
    · subst hbc
      have ih := pot_codes hP hw l m (t + 1) ((s + 64 * b) / 2) (by simpa using h) hl.tail hm.tail (by omega) (fun e => hne (by rw [e])) (by omega)
      simp only [List.cons_append, wdw]
      omega
    · obtain ⟨i, hi, e1, e2⟩ := xor_step hs hs hb hc
      rw [Nat.xor_self, Nat.zero_add] at e1 e2
      have hi1 : i = 1 := by
        refine Classical.byContradiction fun hn => ?_
        obtain rfl : i = 0 := by omega
        have h0 : (s + 64 * b) ^^^ ((s + 64 * b) ^^^ (s + 64 * c)) = s + 64 * b := by rw [e1]; simp
        rw [← Nat.xor_assoc, Nat.xor_self, Nat.zero_xor] at h0
        omega
      subst hi1
      have hz1 : pend ((s + 64 * b) / 2) (l ++ zs 6) = 0 := by rw [pend_append]; exact pend_zs 6 _ (pend_lt _ _ hl.tail (by omega))
      have hz2 : pend ((s + 64 * c) / 2) (m ++ zs 6) = 0 := by rw [pend_append]; exact pend_zs 6 _ (pend_lt _ _ hm.tail (by omega))
      have h1 := hP.start (t % 4) (by omega)
      rw [wgt_mod] at h1
      have hwl := wgt_le w hw t 64
      have hll : l.length = m.length := by simpa using h
      have := pot_way hP hw (l ++ zs 6) (m ++ zs 6) (t + 1) ((s + 64 * b) / 2) ((s + 64 * c) / 2) (wgt w t 64) (by rw [List.length_append, List.length_append, hll]) (hl.tail.append (zs_bits 6)) (hm.tail.append (zs_bits 6)) (by omega) (by omega) (by rw [e2]; omega) (by rw [hz1, hz2]) (by
        rw [e2, show (t + 1) % 4 = (t % 4 + 1) % 4 by omega]
        exact h1) (by rw [List.length_append, zs_len]; omega)
      simp only [List.cons_append, wdw, e1]
      exact this
end Go.Proofs.YticiilolmkbncaaDoor.Vit
