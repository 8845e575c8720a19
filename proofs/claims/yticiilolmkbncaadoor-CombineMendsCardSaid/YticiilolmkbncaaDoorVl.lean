/- Plain words on codes: what a list scores with numbers; how far codes are apart; what doubled numbers do. Each theorem says its own conditions. -/
import Derived.Test.YticiilolmkbncaaDoorVk
namespace Go.Proofs.YticiilolmkbncaaDoor.Vit
set_option linter.unusedVariables false
set_option linter.unusedSimpArgs false

/-- The code of a list from a state on. -/
def pcode : Nat → List Nat → List Nat
  | _, [] => []
  | s, b :: l => ob (s + 64 * b) 0 :: ob (s + 64 * b) 1 :: ob (s + 64 * b) 2 :: ob (s + 64 * b) 3 :: pcode ((s + 64 * b) / 2) l
theorem pcode_len : ∀ (l : List Nat) (s : Nat), (pcode s l).length = 4 * l.length
  | [], _ => rfl
  | b :: l, s => by
    unfold pcode
    simp only [List.length_cons, pcode_len l]
    omega
theorem ob_le (x j : Nat) : ob x j ≤ 1 := by unfold ob; omega
theorem pcode_bits : ∀ (l : List Nat) (s : Nat), Bits (pcode s l)
  | [], _ => fun b hb => by simp [pcode] at hb
  | b :: l, s => by
    intro x hx
    unfold pcode at hx
    simp only [List.mem_cons] at hx
    rcases hx with rfl | rfl | rfl | rfl | h
    · exact ob_le _ _
    · exact ob_le _ _
    · exact ob_le _ _
    · exact ob_le _ _
    · exact pcode_bits l _ x h
/-- How bits go with numbers. -/
def sc : List Int → List Nat → Int
  | x :: xs, c :: cs => x * sg c + sc xs cs
  | _, _ => 0
theorem ps_sc (f : Nat → Int) : ∀ (l : List Nat) (t s : Nat) (xs : List Int), xs.length = 4 * l.length → (∀ j, xs.getD j 0 = f (4 * t + j) ∨ xs.length ≤ j) → ps f t s l = sc xs (pcode s l)
  | [], t, s, xs, h, _ => by
    obtain rfl : xs = [] := List.length_eq_zero_iff.1 (by simpa using h)
    rfl
  | b :: l, t, s, xs, h, hf => by
    rw [List.length_cons] at h
    match xs, h, hf with
    | x0 :: x1 :: x2 :: x3 :: xs, h, hf =>
      have h' : xs.length = 4 * l.length := by simp only [List.length_cons] at h; omega
      have g := fun j (hj : j < xs.length + 4) => (hf j).resolve_right (by simp only [List.length_cons]; omega)
      have g0 : x0 = f (4 * t) := g 0 (by omega)
      have g1 : x1 = f (4 * t + 1) := g 1 (by omega)
      have g2 : x2 = f (4 * t + 2) := g 2 (by omega)
      have g3 : x3 = f (4 * t + 3) := g 3 (by omega)
      have ih := ps_sc f l (t + 1) ((s + 64 * b) / 2) xs h' (fun j => by
        by_cases hj : j < xs.length
        · left
          have := g (j + 4) (by omega)
          rw [show 4 * (t + 1) + j = 4 * t + (j + 4) by omega, ← this]
          rfl
        · right; omega)
      show ge f t s b + ps f (t + 1) ((s + 64 * b) / 2) l = sc (x0 :: x1 :: x2 :: x3 :: xs) (ob (s + 64 * b) 0 :: ob (s + 64 * b) 1 :: ob (s + 64 * b) 2 :: ob (s + 64 * b) 3 :: pcode ((s + 64 * b) / 2) l)
      rw [ih]
      simp only [sc]
      unfold ge gn
      rw [g0, g1, g2, g3]
      omega
    | [], h, _ => exact absurd h (by first | (simp; done) | (simp; omega))
    | [_], h, _ => exact absurd h (by first | (simp; done) | (simp; omega))
    | [_, _], h, _ => exact absurd h (by first | (simp; done) | (simp; omega))
    | [_, _, _], h, _ => exact absurd h (by first | (simp; done) | (simp; omega))

/-- At how many places bits are unlike. -/
def apart : List Nat → List Nat → Nat
  | x :: xs, c :: cs => (if x = c then 0 else 1) + apart xs cs
  | _, _ => 0
theorem apart_self : ∀ l, apart l l = 0
  | [] => rfl
  | x :: l => by simp [apart, apart_self l]
theorem apart_comm : ∀ a b, apart a b = apart b a
  | [], [] => rfl
  | [], _ :: _ => rfl
  | _ :: _, [] => rfl
  | x :: a, y :: b => by
    simp only [apart, apart_comm a b]
    by_cases h : x = y
    · subst h; rfl
    · rw [if_neg h, if_neg (fun e => h e.symm)]
theorem apart_tri : ∀ a b c : List Nat, a.length = b.length → b.length = c.length → apart a c ≤ apart a b + apart b c
  | [], b, c, _, _ => by simp [apart]
  | x :: a, [], c, h, _ => by simp at h
  | x :: a, y :: b, [], _, h => by simp at h
  | x :: a, y :: b, z :: c, h1, h2 => by
    have := apart_tri a b c (by simpa using h1) (by simpa using h2)
    simp only [apart]
    by_cases h : x = y
    · subst h; rw [if_pos rfl]; omega
    · rw [if_neg h]
      split <;> split <;> omega
/-- What the bits of one list, as numbers, score with another. -/
theorem sc_sg : ∀ t c : List Nat, t.length = c.length → Bits t → Bits c → sc (t.map sg) c = (t.length : Int) - 2 * (apart t c : Int)
  | [], [], _, _, _ => by simp [sc, apart]
  | [], _ :: _, h, _, _ => by simp at h
  | _ :: _, [], h, _, _ => by simp at h
  | x :: t, y :: c, h, ht, hc => by
    have ih := sc_sg t c (by simpa using h) (fun b hb => ht b (List.mem_cons_of_mem _ hb)) (fun b hb => hc b (List.mem_cons_of_mem _ hb))
    have hx := ht x List.mem_cons_self
    have hy := hc y List.mem_cons_self
    simp only [List.map_cons, sc, apart, List.length_cons, ih]
    have e : sg x * sg y = if x = y then 1 else -1 := by
      rcases Nat.le_one_iff_eq_zero_or_eq_one.1 hx with rfl | rfl <;> rcases Nat.le_one_iff_eq_zero_or_eq_one.1 hy with rfl | rfl <;> rfl
    rw [e]
    split <;> push_cast <;> omega

/-- The least weight of a way home from a state. -/
def home (s : Nat) : Nat := [0, 4, 6, 6, 9, 7, 7, 9, 12, 10, 10, 8, 9, 9, 11, 11, 14, 14, 12, 12, 13, 11, 11, 9, 12, 10, 10, 12, 11, 11, 13, 13, 16, 16, 14, 14, 13, 13, 13, 13, 14, 12, 12, 14, 13, 13, 11, 11, 14, 14, 12, 12, 11, 13, 13, 15, 14, 12, 12, 14, 15, 15, 13, 13].getD s 0
theorem home_tab : (List.range 128).all (fun z => decide (home (z % 64) ≤ ob z 0 + ob z 1 + ob z 2 + ob z 3 + home (z / 2))) = true := by kernel_rfl
theorem home_step (z : Nat) (hz : z < 128) : home (z % 64) ≤ ob z 0 + ob z 1 + ob z 2 + ob z 3 + home (z / 2) := of_decide_eq_true (List.all_eq_true.1 home_tab z (List.mem_range.2 hz))
theorem home_64 : 12 ≤ ob 64 0 + ob 64 1 + ob 64 2 + ob 64 3 + home 32 := by decide +kernel

theorem pc_xor (u v : Nat) : pc (u ^^^ v) % 2 = (pc u + pc v) % 2 := by
  have d : ∀ a b : Nat, (a ^^^ b) / 2 = (a / 2) ^^^ (b / 2) := fun a b => Nat.xor_div_two
  have m : ∀ a b : Nat, (a ^^^ b) % 2 = (a + b) % 2 := fun a b => by
    have := @Nat.xor_mod_two_eq_one a b
    have h1 := Nat.mod_two_eq_zero_or_one (a ^^^ b)
    omega
  unfold pc
  have q : ∀ y : Nat, y / 4 = y / 2 / 2 ∧ y / 8 = y / 2 / 2 / 2 ∧ y / 16 = y / 2 / 2 / 2 / 2 ∧ y / 32 = y / 2 / 2 / 2 / 2 / 2 ∧ y / 64 = y / 2 / 2 / 2 / 2 / 2 / 2 := fun y => by omega
  obtain ⟨a1, a2, a3, a4, a5⟩ := q u
  obtain ⟨b1, b2, b3, b4, b5⟩ := q v
  obtain ⟨c1, c2, c3, c4, c5⟩ := q (u ^^^ v)
  rw [a1, a2, a3, a4, a5, b1, b2, b3, b4, b5, c1, c2, c3, c4, c5]
  simp only [d, m]
  omega
theorem ob_xor (x y j : Nat) : ob (x ^^^ y) j = (ob x j + ob y j) % 2 := by
  unfold ob
  rw [Nat.and_xor_distrib_right, pc_xor]
  omega
theorem ob_ne (x y j : Nat) : (if ob x j = ob y j then 0 else 1) = ob (x ^^^ y) j := by
  have h1 := ob_le x j
  have h2 := ob_le y j
  rw [ob_xor]
  split <;> omega

/-- The state behind a list. -/
def pend : Nat → List Nat → Nat
  | s, [] => s
  | s, b :: l => pend ((s + 64 * b) / 2) l
theorem xor_lt (x y : Nat) (hx : x < 128) (hy : y < 128) : x ^^^ y < 128 := Nat.xor_lt_two_pow (n := 7) hx hy
theorem xor_mod (x y : Nat) : (x ^^^ y) % 64 = (x % 64) ^^^ (y % 64) := Nat.xor_mod_two_pow (n := 6)
theorem apart_home : ∀ (l m : List Nat) (s u : Nat), l.length = m.length → Bits l → Bits m → s < 64 → u < 64 → home (s ^^^ u) ≤ apart (pcode s l) (pcode u m) + home (pend s l ^^^ pend u m)
  | [], [], s, u, _, _, _, _, _ => by simp [pcode, apart, pend]
  | [], _ :: _, _, _, h, _, _, _, _ => by simp at h
  | _ :: _, [], _, _, h, _, _, _, _ => by simp at h
  | b :: l, c :: m, s, u, h, hl, hm, hs, hu => by
    have hb := hl b List.mem_cons_self
    have hc := hm c List.mem_cons_self
    have ih := apart_home l m ((s + 64 * b) / 2) ((u + 64 * c) / 2) (by simpa using h) (fun x hx => hl x (List.mem_cons_of_mem _ hx)) (fun x hx => hm x (List.mem_cons_of_mem _ hx)) (by omega) (by omega)
    have st := home_step ((s + 64 * b) ^^^ (u + 64 * c)) (xor_lt _ _ (by omega) (by omega))
    rw [xor_mod, Nat.xor_div_two, show (s + 64 * b) % 64 = s by omega, show (u + 64 * c) % 64 = u by omega] at st
    simp only [pcode, apart, ob_ne, pend]
    omega
theorem pend_zs : ∀ (r s : Nat), s < 2 ^ r → pend s (zs r) = 0
  | 0, s, h => by simp at h; subst h; rfl
  | r + 1, s, h => by
    show pend ((s + 64 * 0) / 2) (zs r) = 0
    exact pend_zs r _ (by rw [Nat.pow_succ] at h; omega)
theorem pend_append : ∀ (l m : List Nat) (s : Nat), pend s (l ++ m) = pend (pend s l) m
  | [], _, _ => rfl
  | b :: l, m, s => pend_append l m _
theorem pend_lt : ∀ (l : List Nat) (s : Nat), Bits l → s < 64 → pend s l < 64
  | [], _, _, h => h
  | b :: l, s, hl, h => pend_lt l _ (fun x hx => hl x (List.mem_cons_of_mem _ hx)) (by have := hl b List.mem_cons_self; omega)
theorem zs_bits (r : Nat) : Bits (zs r) := fun b hb => by have := List.eq_of_mem_replicate hb; omega
theorem Bits.append {l m : List Nat} (h : Bits l) (k : Bits m) : Bits (l ++ m) := fun b hb => (List.mem_append.1 hb).elim (h b) (k b)
theorem Bits.tail {b : Nat} {l : List Nat} (h : Bits (b :: l)) : Bits l := fun x hx => h x (List.mem_cons_of_mem _ hx)
/-- Codes of two lists are twelve apart, at least. -/
theorem codes_apart : ∀ (l m : List Nat) (s : Nat), l.length = m.length → Bits l → Bits m → s < 64 → l ≠ m → 12 ≤ apart (pcode s (l ++ zs 6)) (pcode s (m ++ zs 6))
  | [], [], _, _, _, _, _, h => absurd rfl h
  | [], _ :: _, _, h, _, _, _, _ => by simp at h
  | _ :: _, [], _, h, _, _, _, _ => by simp at h
  | b :: l, c :: m, s, h, hl, hm, hs, hne => by
    have hb := hl b List.mem_cons_self
    have hc := hm c List.mem_cons_self
    by_cases hbc : b = c
    · subst hbc
      have ih := codes_apart l m ((s + 64 * b) / 2) (by simpa using h) hl.tail hm.tail (by omega) (fun e => hne (by rw [e]))
      simp only [List.cons_append, pcode, apart]
      omega
    · have e := apart_home (l ++ zs 6) (m ++ zs 6) ((s + 64 * b) / 2) ((s + 64 * c) / 2) (by simpa using h) (hl.tail.append (zs_bits 6)) (hm.tail.append (zs_bits 6)) (by omega) (by omega)
      have z1 : pend ((s + 64 * b) / 2) (l ++ zs 6) = 0 := by rw [pend_append]; exact pend_zs 6 _ (pend_lt _ _ hl.tail (by omega))
      have z2 : pend ((s + 64 * c) / 2) (m ++ zs 6) = 0 := by rw [pend_append]; exact pend_zs 6 _ (pend_lt _ _ hm.tail (by omega))
      have hx : (s + 64 * b) ^^^ (s + 64 * c) = 64 := by
        have k := xor_lt (s + 64 * b) (s + 64 * c) (by omega) (by omega)
        have k1 := xor_mod (s + 64 * b) (s + 64 * c)
        rw [show (s + 64 * b) % 64 = s by omega, show (s + 64 * c) % 64 = s by omega, Nat.xor_self] at k1
        have k2 : (s + 64 * b) ^^^ (s + 64 * c) ≠ 0 := fun e0 => by
          have e1 : (s + 64 * b) ^^^ ((s + 64 * b) ^^^ (s + 64 * c)) = s + 64 * b := by rw [e0, Nat.xor_zero]
          rw [← Nat.xor_assoc, Nat.xor_self, Nat.zero_xor] at e1
          omega
        omega
      have h64 := home_64
      rw [← Nat.xor_div_two, hx, z1, z2] at e
      simp only [List.cons_append, pcode, apart, ob_ne, hx]
      have hz : home (0 ^^^ 0) = 0 := rfl
      rw [hz] at e
      change home 32 ≤ _ at e
      omega

theorem num_inj : ∀ {l m : List Nat}, l.length = m.length → Bits l → Bits m → num l = num m → l = m
  | [], [], _, _, _, _ => rfl
  | [], _ :: _, h, _, _, _ => by simp at h
  | _ :: _, [], h, _, _, _ => by simp at h
  | b :: l, c :: m, h, hl, hm, hn => by
    have h' : l.length = m.length := by simpa using h
    have h1 := num_lt hl.tail
    have h2 := num_lt hm.tail
    have hb := hl b List.mem_cons_self
    have hc := hm c List.mem_cons_self
    simp only [num] at hn
    rw [h'] at hn h1
    rcases Nat.le_one_iff_eq_zero_or_eq_one.1 hb with rfl | rfl <;> rcases Nat.le_one_iff_eq_zero_or_eq_one.1 hc with rfl | rfl
    · rw [num_inj h' hl.tail hm.tail (by omega)]
    · omega
    · omega
    · rw [num_inj h' hl.tail hm.tail (by omega)]
theorem num_zs : ∀ r, num (zs r) = 0
  | 0 => rfl
  | r + 1 => by
    show 0 * _ + num (zs r) = 0
    rw [num_zs r]; omega
theorem zs_len (r : Nat) : (zs r).length = r := by simp [zs]

/-- Of numbers that score the same with all lists, but for a factor, the best way is the same. -/
theorem best_twice {f g : Nat → Int} (hf : ∀ j, -1000 ≤ f j ∧ f j ≤ 1000) (hg : ∀ j, -1000 ≤ g j ∧ g j ≤ 1000) {n : Nat} (hn : n ≤ 4096) (h : ∀ j, g j = 2 * f j) :
    cv g n (n + 6) 0 0 = 2 * cv f n (n + 6) 0 0 ∧ bw g n (n + 6) n 0 0 = bw f n (n + 6) n 0 0 := by
  have hp : ∀ (l : List Nat) (t s : Nat), ps g t s l = 2 * ps f t s l := by
    intro l
    induction l with
    | nil => intro t s; rfl
    | cons b l ih =>
      intro t s
      show ge g t s b + ps g (t + 1) ((s + 64 * b) / 2) l = 2 * (ge f t s b + ps f (t + 1) ((s + 64 * b) / 2) l)
      rw [ih]
      have : ge g t s b = 2 * ge f t s b := by
        unfold ge gn
        rw [h, h, h, h, Int.mul_assoc, Int.mul_assoc, Int.mul_assoc, Int.mul_assoc]
        omega
      omega
  obtain ⟨a1, b1, _, d1⟩ := cv_best hf hn n 0 0 (by omega) (by omega)
  obtain ⟨a2, b2, _, d2⟩ := cv_best hg hn n 0 0 (by omega) (by omega)
  have l1 := bw_len f n (n + 6) n 0 0
  have l2 := bw_len g n (n + 6) n 0 0
  have c1 := bw_bits f n (n + 6) n 0 0
  have c2 := bw_bits g n (n + 6) n 0 0
  have u1 := a2 _ l1 c1
  have u2 := a1 _ l2 c2
  rw [hp] at u1 b2
  have e : cv g n (n + 6) 0 0 = 2 * cv f n (n + 6) 0 0 := by omega
  refine ⟨e, num_inj (by rw [l1, l2]) c2 c1 ?_⟩
  have v1 := d1 _ l2 c2 (by omega)
  have v2 := d2 _ l1 c1 (by rw [hp]; omega)
  omega
/-- Of noughts the best way is the list of noughts. -/
theorem best_zero {f : Nat → Int} {n : Nat} (hn : n ≤ 4096) (h : ∀ j, f j = 0) : cv f n (n + 6) 0 0 = 0 ∧ bw f n (n + 6) n 0 0 = zs n := by
  have hf : ∀ j, -1000 ≤ f j ∧ f j ≤ 1000 := fun j => by rw [h]; omega
  have hp : ∀ (l : List Nat) (t s : Nat), ps f t s l = 0 := by
    intro l
    induction l with
    | nil => intro t s; rfl
    | cons b l ih =>
      intro t s
      show ge f t s b + ps f (t + 1) ((s + 64 * b) / 2) l = 0
      rw [ih]
      unfold ge gn
      rw [h, h, h, h]
      omega
  obtain ⟨a1, b1, _, d1⟩ := cv_best hf hn n 0 0 (by omega) (by omega)
  rw [hp] at b1
  refine ⟨b1.symm, num_inj (by rw [bw_len, zs_len]) (bw_bits _ _ _ _ _ _) (zs_bits _) ?_⟩
  have := d1 (zs n) (zs_len n) (zs_bits n) (by rw [hp, b1])
  rw [num_zs] at this ⊢
  omega
/-- Of a code of which fewer than six bits are turned the list is told. -/
theorem best_mends {f : Nat → Int} {n : Nat} (hn : n ≤ 4096) (l t : List Nat) (hl : l.length = n) (hb : Bits l) (ht : Bits t) (htl : t.length = 4 * (n + 6)) (hd : apart t (pcode 0 (l ++ zs 6)) < 6)
    (hf : ∀ j, (t.map sg).getD j 0 = f j) : cv f n (n + 6) 0 0 = (4 * (n + 6) : Nat) - 2 * (apart t (pcode 0 (l ++ zs 6)) : Int) ∧ bw f n (n + 6) n 0 0 = l := by
  have hin : ∀ j, -1000 ≤ f j ∧ f j ≤ 1000 := fun j => by
    rw [← hf]
    by_cases hj : j < (t.map sg).length
    · have hm : (t.map sg).getD j 0 ∈ t.map sg := by rw [List.getD_eq_getElem?_getD, List.getElem?_eq_getElem hj]; exact List.getElem_mem hj
      obtain ⟨c, _, hc⟩ := List.mem_map.1 hm
      rw [← hc]
      unfold sg
      split <;> decide
    · rw [List.getD_eq_getElem?_getD, List.getElem?_eq_none (by omega)]
      exact ⟨by decide, by decide⟩
  have hp : ∀ m : List Nat, m.length = n → Bits m → ps f 0 0 (m ++ zs 6) = (4 * (n + 6) : Nat) - 2 * (apart t (pcode 0 (m ++ zs 6)) : Int) := by
    intro m hm hmb
    rw [ps_sc f (m ++ zs 6) 0 0 (t.map sg) (by rw [List.length_map, htl, List.length_append, zs_len, hm]) (fun j => Or.inl (by rw [hf, Nat.mul_zero, Nat.zero_add]))]
    rw [sc_sg t _ (by rw [pcode_len, htl, List.length_append, zs_len, hm]) ht (pcode_bits _ _), htl]
  obtain ⟨a1, b1, _, d1⟩ := cv_best hin hn n 0 0 (by omega) (by omega)
  have u1 := a1 l hl hb
  rw [hp l hl hb] at u1
  have l1 := bw_len f n (n + 6) n 0 0
  have c1 := bw_bits f n (n + 6) n 0 0
  rw [hp _ l1 c1] at b1
  have e : bw f n (n + 6) n 0 0 = l := by
    refine Classical.byContradiction fun hne => ?_
    have h12 := codes_apart _ _ 0 (l1.trans hl.symm) c1 hb (by omega) hne
    have tri := apart_tri (pcode 0 (bw f n (n + 6) n 0 0 ++ zs 6)) t (pcode 0 (l ++ zs 6)) (by rw [pcode_len, htl, List.length_append, zs_len, l1]) (by rw [pcode_len, htl, List.length_append, zs_len, hl])
    rw [apart_comm _ t] at tri
    omega
  exact ⟨by rw [e] at b1; exact b1.symm, e⟩
end Go.Proofs.YticiilolmkbncaaDoor.Vit
