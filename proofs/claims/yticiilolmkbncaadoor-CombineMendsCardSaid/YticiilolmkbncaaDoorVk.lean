/- Plain words on the decoder's answer: it scores most, and of several it is the least. Each theorem says its own conditions. -/
import Derived.Test.YticiilolmkbncaaDoorVj
namespace Go.Proofs.YticiilolmkbncaaDoor.Vit
set_option linter.unusedVariables false
set_option linter.unusedSimpArgs false

/-- What a list of bits scores from a state on, at a step. -/
def ps (f : Nat → Int) : Nat → Nat → List Nat → Int
  | _, _, [] => 0
  | t, s, b :: l => ge f t s b + ps f (t + 1) ((s + 64 * b) / 2) l
/-- So many noughts. -/
def zs (r : Nat) : List Nat := List.replicate r 0
/-- Bits alone. -/
def Bits (l : List Nat) : Prop := ∀ b ∈ l, b ≤ 1
/-- The number that bits tell, the first one most. -/
def num : List Nat → Nat
  | [] => 0
  | b :: l => b * 2 ^ l.length + num l
theorem num_lt : ∀ {l : List Nat}, Bits l → num l < 2 ^ l.length
  | [], _ => by simp [num]
  | b :: l, h => by
    have h1 := num_lt (l := l) (fun x hx => h x (List.mem_cons_of_mem _ hx))
    have h2 := h b List.mem_cons_self
    show b * 2 ^ l.length + num l < 2 ^ (l.length + 1)
    rw [Nat.pow_succ]
    rcases Nat.le_one_iff_eq_zero_or_eq_one.1 h2 with rfl | rfl <;> omega

theorem ge_in {f : Nat → Int} (hf : ∀ j, -1000 ≤ f j ∧ f j ≤ 1000) (t s i : Nat) : -4000 ≤ ge f t s i ∧ ge f t s i ≤ 4000 := gn_in _ _ _ _ _ _ _ _ (hf _) (hf _) (hf _) (hf _)
theorem ps_in {f : Nat → Int} (hf : ∀ j, -1000 ≤ f j ∧ f j ≤ 1000) : ∀ (l : List Nat) (t s : Nat), -(4000 * (l.length : Int)) ≤ ps f t s l ∧ ps f t s l ≤ 4000 * (l.length : Int)
  | [], t, s => by simp [ps]
  | b :: l, t, s => by
    have h1 := ge_in hf t s b
    have h2 := ps_in hf l (t + 1) ((s + 64 * b) / 2)
    show -(4000 * (((b :: l).length : Nat) : Int)) ≤ ge f t s b + ps f (t + 1) ((s + 64 * b) / 2) l ∧ ge f t s b + ps f (t + 1) ((s + 64 * b) / 2) l ≤ 4000 * (((b :: l).length : Nat) : Int)
    rw [List.length_cons]
    push_cast
    omega
theorem n40 : none40 = -1099511627776 := rfl

/-- Behind the bits: noughts alone. -/
theorem cv_tail {f : Nat → Int} (hf : ∀ j, -1000 ≤ f j ∧ f j ≤ 1000) {n steps : Nat} (hs : steps ≤ 4102) : ∀ (r t s : Nat), t + r = steps → n ≤ t →
    cv f n steps t s = if s < 2 ^ r then ps f t s (zs r) else none40
  | 0, t, s, h, hn => by
    obtain rfl : t = steps := by omega
    unfold cv
    rw [Nat.sub_self]
    unfold colv
    by_cases h0 : s = 0
    · subst h0; simp [zs, ps]
    · rw [if_neg h0, if_neg (by simp; omega)]
  | r + 1, t, s, h, hn => by
    rw [cv_one (by omega) hn, cv_tail hf hs r (t + 1) (s / 2) (by omega) (by omega)]
    have hb := ps_in hf (zs r) (t + 1) (s / 2)
    have hg := ge_in hf t s 0
    have hl : (zs r).length = r := by simp [zs]
    rw [hl] at hb
    have h40 := n40
    by_cases hlt : s < 2 ^ (r + 1)
    · rw [if_pos hlt, if_pos (by rw [Nat.pow_succ] at hlt; omega), stp_some (by omega)]
      have e : ps f t s (zs (r + 1)) = ge f t s 0 + ps f (t + 1) (s / 2) (zs r) := by
        show ge f t s 0 + ps f (t + 1) ((s + 64 * 0) / 2) (zs r) = _
        rw [show (s + 64 * 0) / 2 = s / 2 by omega]
      rw [e]
      omega
    · rw [if_neg hlt, if_neg (by rw [Nat.pow_succ] at hlt; omega), stp_none rfl]

/-- The best way's bits from a state on. -/
def bw (f : Nat → Int) (n steps : Nat) : Nat → Nat → Nat → List Nat
  | 0, _, _ => []
  | r + 1, t, s => pick f n steps t s :: bw f n steps r (t + 1) ((s + 64 * pick f n steps t s) / 2)
theorem bw_len (f : Nat → Int) (n steps : Nat) : ∀ r t s, (bw f n steps r t s).length = r
  | 0, _, _ => rfl
  | r + 1, t, s => by unfold bw; rw [List.length_cons, bw_len f n steps r]
theorem bw_bits (f : Nat → Int) (n steps : Nat) : ∀ r t s, Bits (bw f n steps r t s)
  | 0, _, _ => fun b hb => by simp [bw] at hb
  | r + 1, t, s => by
    intro b hb
    unfold bw at hb
    rcases List.mem_cons.1 hb with rfl | h
    · exact pick_le _ _ _ _ _
    · exact bw_bits f n steps r _ _ b h
theorem way_bw (f : Nat → Int) (n steps : Nat) : ∀ k, k ≤ n → way f n steps k ++ (bw f n steps (n - k) k (sta f n steps k)).map (fun b : Nat => (b : Int)) = (bw f n steps n 0 0).map (fun b : Nat => (b : Int))
  | 0, _ => by
    show [] ++ _ = _
    rw [List.nil_append]
    rfl
  | k + 1, hk => by
    rw [← way_bw f n steps k (by omega), way_next, List.append_assoc]
    congr 1
    rw [show n - k = (n - (k + 1)) + 1 by omega]
    rfl
theorem way_is (f : Nat → Int) (n steps : Nat) : way f n steps n = (bw f n steps n 0 0).map (fun b : Nat => (b : Int)) := by
  have h := way_bw f n steps n (Nat.le_refl _)
  rw [Nat.sub_self] at h
  show way f n steps n = _
  rw [← h]
  simp [bw]

theorem half_lt {s b : Nat} (hs : s < 64) (hb : b ≤ 1) : (s + 64 * b) / 2 < 64 := by omega

/-- The best of all: no list of bits scores more; the best way scores so much; of several it is the least. -/
theorem cv_best {f : Nat → Int} (hf : ∀ j, -1000 ≤ f j ∧ f j ≤ 1000) {n : Nat} (hn : n ≤ 4096) : ∀ (r t s : Nat), t + r = n → s < 64 →
    (∀ l : List Nat, l.length = r → Bits l → ps f t s (l ++ zs 6) ≤ cv f n (n + 6) t s) ∧
    ps f t s (bw f n (n + 6) r t s ++ zs 6) = cv f n (n + 6) t s ∧ cv f n (n + 6) t s ≠ none40 ∧
    ∀ l : List Nat, l.length = r → Bits l → ps f t s (l ++ zs 6) = cv f n (n + 6) t s → num (bw f n (n + 6) r t s) ≤ num l
  | 0, t, s, h, hs => by
    obtain rfl : t = n := by omega
    have e := cv_tail hf (n := t) (steps := t + 6) (by omega) 6 t s rfl (Nat.le_refl _)
    rw [if_pos (by omega)] at e
    have hb := ps_in hf (zs 6) t s
    have hl : (zs 6).length = 6 := by simp [zs]
    have h40 := n40
    rw [hl] at hb
    refine ⟨fun l hl _ => ?_, ?_, ?_, fun l hl _ _ => ?_⟩
    · obtain rfl := List.length_eq_zero_iff.1 hl
      rw [e]; exact Int.le_refl _
    · rw [e]; rfl
    · rw [e]; omega
    · simp [bw, num]
  | r + 1, t, s, h, hs => by
    have h2 := cv_two (f := f) (n := n) (steps := n + 6) (t := t) (k := s) (by omega) (by omega)
    obtain ⟨a0, b0, c0, d0⟩ := cv_best hf hn r (t + 1) ((s + 64 * 0) / 2) (by omega) (half_lt hs (by omega))
    obtain ⟨a1, b1, c1, d1⟩ := cv_best hf hn r (t + 1) ((s + 64 * 1) / 2) (by omega) (half_lt hs (by omega))
    have e0 : (s + 64 * 0) / 2 = s / 2 := by omega
    have e1 : (s + 64 * 1) / 2 = (s + 64) / 2 := by omega
    have g0 := ge_in hf t s 0
    have g1 := ge_in hf t s 1
    have i0 := cv_in (n := n) (u := t + 1) (s := s / 2) hf (show n + 6 ≤ 4102 by omega)
    have i1 := cv_in (n := n) (u := t + 1) (s := (s + 64) / 2) hf (show n + 6 ≤ 4102 by omega)
    have h40 := n40
    rw [e0] at c0
    rw [e1] at c1
    replace i0 := i0.resolve_left c0
    replace i1 := i1.resolve_left c1
    have hp : stp none40 (ge f t s 0) (cv f n (n + 6) (t + 1) (s / 2)) = ge f t s 0 + cv f n (n + 6) (t + 1) (s / 2) := by
      rw [stp_some c0]; omega
    rw [hp, stp_some c1] at h2
    have hpk : pick f n (n + 6) t s = if ge f t s 0 + cv f n (n + 6) (t + 1) (s / 2) = cv f n (n + 6) t s then 0 else 1 := by
      unfold pick; rw [hp]
    refine ⟨fun l hl hb => ?_, ?_, by omega, fun l hl hb he => ?_⟩
    · cases l with
      | nil => simp at hl
      | cons b l =>
        have hl' : l.length = r := by simpa using hl
        have hb' : Bits l := fun x hx => hb x (List.mem_cons_of_mem _ hx)
        show ge f t s b + ps f (t + 1) ((s + 64 * b) / 2) (l ++ zs 6) ≤ _
        rcases Nat.le_one_iff_eq_zero_or_eq_one.1 (hb b List.mem_cons_self) with rfl | rfl
        · have := a0 l hl' hb'
          rw [e0] at this ⊢
          omega
        · have := a1 l hl' hb'
          rw [e1] at this ⊢
          omega
    · show ge f t s (pick f n (n + 6) t s) + ps f (t + 1) ((s + 64 * pick f n (n + 6) t s) / 2) (bw f n (n + 6) r (t + 1) ((s + 64 * pick f n (n + 6) t s) / 2) ++ zs 6) = _
      rw [hpk]
      split
      · rename_i hq
        rw [b0, e0, hq]
      · rename_i hq
        rw [b1, e1]
        omega
    · cases l with
      | nil => simp at hl
      | cons b l =>
        have hl' : l.length = r := by simpa using hl
        have hb' : Bits l := fun x hx => hb x (List.mem_cons_of_mem _ hx)
        have he' : ge f t s b + ps f (t + 1) ((s + 64 * b) / 2) (l ++ zs 6) = cv f n (n + 6) t s := he
        have hbb := num_lt (bw_bits f n (n + 6) r (t + 1) ((s + 64 * 0) / 2))
        rw [bw_len] at hbb
        show pick f n (n + 6) t s * 2 ^ (bw f n (n + 6) r (t + 1) ((s + 64 * pick f n (n + 6) t s) / 2)).length + num (bw f n (n + 6) r (t + 1) ((s + 64 * pick f n (n + 6) t s) / 2)) ≤ b * 2 ^ l.length + num l
        rw [bw_len, hl', hpk]
        rcases Nat.le_one_iff_eq_zero_or_eq_one.1 (hb b List.mem_cons_self) with rfl | rfl
        · have h3 := a0 l hl' hb'
          rw [e0] at h3 he'
          rw [if_pos (by omega)]
          have := d0 l hl' hb' (by rw [e0]; omega)
          omega
        · rw [e1] at he'
          split
          · omega
          · have := d1 l hl' hb' (by rw [e1]; omega)
            omega
end Go.Proofs.YticiilolmkbncaaDoor.Vit
