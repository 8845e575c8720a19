/- Plain words on combined versions: what the numbers are, and when the list is told. Each theorem says its own conditions. -/
import Derived.Test.YticiilolmkbncaaDoorWb
namespace Go.Proofs.YticiilolmkbncaaDoor.Vit
set_option linter.unusedVariables false
set_option linter.unusedSimpArgs false

/-- By how much one code goes better than another one, half of it. -/
def difx : List Int → List Nat → List Nat → Int
  | x :: xs, a :: u, b :: z => (if a = b then 0 else x * sg a) + difx xs u z
  | _, _, _ => 0
theorem sg_ne {a b : Nat} (ha : a ≤ 1) (hb : b ≤ 1) (h : a ≠ b) : sg b = - sg a := by
  rcases Nat.le_one_iff_eq_zero_or_eq_one.1 ha with rfl | rfl <;> rcases Nat.le_one_iff_eq_zero_or_eq_one.1 hb with rfl | rfl
  · exact absurd rfl h
  · rfl
  · rfl
  · exact absurd rfl h
theorem sc_dif : ∀ (xs : List Int) (a b : List Nat), xs.length = a.length → a.length = b.length → Bits a → Bits b → sc xs a - sc xs b = 2 * difx xs a b
  | [], [], [], _, _, _, _ => rfl
  | x :: xs, a :: u, b :: z, h1, h2, ha, hb => by
    have ih := sc_dif xs u z (by simpa using h1) (by simpa using h2) ha.tail hb.tail
    simp only [sc, difx]
    by_cases h : a = b
    · subst h
      rw [if_pos rfl]
      omega
    · rw [if_neg h, sg_ne (ha a List.mem_cons_self) (hb b List.mem_cons_self) h, Int.mul_neg]
      omega
  | [], _ :: _, _, h, _, _, _ => by simp at h
  | _ :: _, [], _, h, _, _, _ => by simp at h
  | _, [], _ :: _, _, h, _, _ => by simp at h
  | _, _ :: _, [], _, h, _, _ => by simp at h
/-- A list that goes better than each other one is told. -/
theorem best_unique {xs : List Int} {m : List Nat} {n : Nat} (hm : m.length = n) (hb : Bits m) (hn : n ≤ 4096) (hx : xs.length = 4 * (n + 6)) (hin : ∀ x ∈ xs, -31 ≤ x ∧ x ≤ 31)
    (hd : ∀ l : List Nat, l.length = n → Bits l → l ≠ m → 0 < difx xs (code m) (code l)) : (decOf xs).1 = ints m ∧ (decOf xs).2.2 = 0 := by
  have hf : ∀ j, -1000 ≤ (fun j => xs.getD j 0) j ∧ (fun j => xs.getD j 0) j ≤ 1000 := fun j => in1000 hin j
  have hD := decOf_is hx hn hin
  obtain ⟨a1, b1, _, _⟩ := cv_best hf hn n 0 0 (by omega) (by omega)
  have hsc : ∀ l : List Nat, l.length = n → ps (fun j => xs.getD j 0) 0 0 (l ++ zs 6) = sc xs (code l) := fun l hl =>
    ps_sc (fun j => xs.getD j 0) (l ++ zs 6) 0 0 xs (by rw [hx, List.length_append, zs_len, hl]) (fun j => Or.inl (by rw [Nat.mul_zero, Nat.zero_add]))
  have l1 := bw_len (fun j => xs.getD j 0) n (n + 6) n 0 0
  have c1 := bw_bits (fun j => xs.getD j 0) n (n + 6) n 0 0
  have e : bw (fun j => xs.getD j 0) n (n + 6) n 0 0 = m := by
    refine Classical.byContradiction fun hne => ?_
    have h1 := hd _ l1 c1 hne
    have h2 := a1 m hm hb
    rw [hsc _ l1] at b1
    rw [hsc m hm] at h2
    have h3 := sc_dif xs (code m) (code (bw (fun j => xs.getD j 0) n (n + 6) n 0 0)) (by rw [hx, code_len, hm]) (by rw [code_len, code_len, hm, l1]) (code_bits _) (code_bits _)
    omega
  rw [hD, e]
  exact ⟨rfl, rfl⟩
theorem difx_pos : ∀ (xs : List Int) (a b : List Nat), xs.length = a.length → a.length = b.length → (∀ j, j < a.length → 0 ≤ xs.getD j 0 * sg (a.getD j 0)) →
    (0 ≤ difx xs a b) ∧ ((∃ j, j < a.length ∧ a.getD j 0 ≠ b.getD j 0 ∧ 0 < xs.getD j 0 * sg (a.getD j 0)) → 0 < difx xs a b)
  | [], [], [], _, _, _ => ⟨by simp [difx], fun ⟨j, hj, _⟩ => by simp at hj⟩
  | x :: xs, a :: u, b :: z, h1, h2, h3 => by
    have ih := difx_pos xs u z (by simpa using h1) (by simpa using h2) (fun j hj => by
      have := h3 (j + 1) (by simpa using hj)
      simpa using this)
    have h0 : 0 ≤ x * sg a := by
      have := h3 0 (by simp)
      simpa using this
    simp only [difx]
    refine ⟨?_, fun ⟨j, hj, hne, hp⟩ => ?_⟩
    · split
      · omega
      · omega
    · match j, hj, hne, hp with
      | 0, hj, hne, hp =>
        have hne' : a ≠ b := by simpa using hne
        have hp' : 0 < x * sg a := by simpa using hp
        rw [if_neg hne']
        omega
      | j + 1, hj, hne, hp =>
        have := ih.2 ⟨j, by simpa using hj, by simpa using hne, by simpa using hp⟩
        split
        · omega
        · omega
  | [], _ :: _, _, h, _, _ => by simp at h
  | _ :: _, [], _, h, _, _ => by simp at h
  | _, [], _ :: _, _, h, _ => by simp at h
  | _, _ :: _, [], _, h, _ => by simp at h
/-- Each stream looks at the newest bit. -/
theorem flip_tab : (List.range 64).all (fun s => (List.range 4).all fun j => ob s j != ob (s + 64) j) = true := by kernel_rfl
theorem ob_flip {s j b c : Nat} (hs : s < 64) (hj : j < 4) (hb : b ≤ 1) (hc : c ≤ 1) (hne : b ≠ c) : ob (s + 64 * b) j ≠ ob (s + 64 * c) j := by
  have h := List.all_eq_true.1 (List.all_eq_true.1 flip_tab s (List.mem_range.2 hs)) j (List.mem_range.2 hj)
  have h' : ob s j ≠ ob (s + 64) j := by simpa using h
  rcases Nat.le_one_iff_eq_zero_or_eq_one.1 hb with rfl | rfl <;> rcases Nat.le_one_iff_eq_zero_or_eq_one.1 hc with rfl | rfl
  · exact absurd rfl hne
  · simpa using h'
  · simpa using fun e => h' e.symm
  · exact absurd rfl hne
/-- Lists that are unlike have codes that are unlike in all four streams, at some step. -/
theorem pcode_flip : ∀ (l m r q : List Nat) (s : Nat), l.length = m.length → Bits l → Bits m → s < 64 → l ≠ m →
    ∃ t, t < l.length ∧ ∀ j, j < 4 → (pcode s (l ++ r)).getD (4 * t + j) 0 ≠ (pcode s (m ++ q)).getD (4 * t + j) 0
  | [], [], _, _, _, _, _, _, _, h => absurd rfl h
  | [], _ :: _, _, _, _, h, _, _, _, _ => by simp at h
  | _ :: _, [], _, _, _, h, _, _, _, _ => by simp at h
  | b :: l, c :: m, r, q, s, h, hl, hm, hs, hne => by
    have hb := hl b List.mem_cons_self
    have hc := hm c List.mem_cons_self
    by_cases hbc : b = c
    · subst hbc
      obtain ⟨t, ht, hj⟩ := pcode_flip l m r q ((s + 64 * b) / 2) (by simpa using h) hl.tail hm.tail (by omega) (fun e => hne (by rw [e]))
      refine ⟨t + 1, by simpa using ht, fun j h4 => ?_⟩
      have := hj j h4
      simp only [List.cons_append, pcode]
      rw [show 4 * (t + 1) + j = (4 * t + j) + 4 by omega]
      simpa using this
    · refine ⟨0, by simp, fun j h4 => ?_⟩
      have := ob_flip hs h4 hb hc hbc
      simp only [List.cons_append, pcode]
      match j, h4, this with
      | 0, _, h => simpa using h
      | 1, _, h => simpa using h
      | 2, _, h => simpa using h
      | 3, _, h => simpa using h
/-- In which version a place stands. -/
def ver (j : Nat) : Nat := (j % 4 + (4 - j / 4 % 4)) % 4
theorem ver_lt (j : Nat) : ver j < 4 := by unfold ver; omega
theorem place_ver {v t : Nat} (hv : v < 4) : ver (place v t) = v := by unfold ver place strm; omega
theorem place_step {v t : Nat} : place v t / 4 = t := by unfold place strm; omega
theorem ver_place (j : Nat) : place (ver j) (j / 4) = j := by unfold ver place strm; omega
theorem addv_get (xs : List Int) (v : Nat) (hv : v < 4) (p : List Nat) (L : Nat) (hx : xs.length = 4 * L) : ∀ t, t ≤ L → ∀ j, j < 4 * L →
    (addv xs v p t).getD j 0 = if j / 4 < t ∧ ver j = v then sadd (xs.getD j 0) (sg (p.getD (j / 4) 0)) else xs.getD j 0
  | 0, _, j, _ => by
    rw [if_neg (by omega)]
    rfl
  | t + 1, ht, j, hj => by
    have ih := addv_get xs v hv p L hx t (by omega)
    have hpl := place_lt (v := v) (show t < L by omega)
    unfold addv
    by_cases he : place v t = j
    · have h1 : j / 4 = t := by rw [← he]; exact place_step
      have h2 : ver j = v := by rw [← he]; exact place_ver hv
      rw [if_pos ⟨by omega, h2⟩, he, h1]
      have ihj := ih j hj
      rw [if_neg (by omega)] at ihj
      rw [ihj, List.getD_eq_getElem?_getD, List.getElem?_set_self (by rw [addv_len, hx]; exact hj)]
      rfl
    · have e : ((addv xs v p t).set (place v t) (sadd ((addv xs v p t).getD (place v t) 0) (sg (p.getD t 0)))).getD j 0 = (addv xs v p t).getD j 0 := by
        rw [List.getD_eq_getElem?_getD, List.getElem?_set_ne he, ← List.getD_eq_getElem?_getD]
      rw [e, ih j hj]
      by_cases h1 : j / 4 < t ∧ ver j = v
      · rw [if_pos h1, if_pos ⟨by omega, h1.2⟩]
      · rw [if_neg h1, if_neg (fun h => ?_)]
        by_cases h2 : j / 4 = t
        · exact he (by rw [← h.2, ← h2]; exact ver_place j)
        · exact h1 ⟨by omega, h.2⟩
/-- The numbers behind versions that came, the last one first. -/
def softs (L : Nat) : List (Nat × List Nat) → List Int
  | [] => List.replicate (4 * L) 0
  | (v, p) :: rs => addv (softs L rs) v p L
theorem softs_len (L : Nat) : ∀ rs, (softs L rs).length = 4 * L
  | [] => by simp [softs]
  | (v, p) :: rs => by unfold softs; rw [addv_len]; exact softs_len L rs
def tot (j : Nat) : List (Nat × List Nat) → Int
  | [] => 0
  | (v, p) :: rs => tot j rs + (if ver j = v then sg (p.getD (j / 4) 0) else 0)
theorem tot_in (j : Nat) : ∀ rs : List (Nat × List Nat), -(rs.length : Int) ≤ tot j rs ∧ tot j rs ≤ rs.length
  | [] => by simp [tot]
  | (v, p) :: rs => by
    have ih := tot_in j rs
    have h1 : sg (p.getD (j / 4) 0) = 1 ∨ sg (p.getD (j / 4) 0) = -1 := by unfold sg; split <;> simp
    simp only [tot, List.length_cons]
    push_cast
    split
    · omega
    · omega
theorem softs_get (L : Nat) : ∀ (rs : List (Nat × List Nat)), rs.length ≤ 30 → (∀ q ∈ rs, q.1 < 4) → ∀ j, j < 4 * L → (softs L rs).getD j 0 = tot j rs
  | [], _, _, j, hj => by
    unfold softs tot
    rw [List.getD_eq_getElem?_getD, List.getElem?_replicate]
    split <;> rfl
  | (v, p) :: rs, hl, hv, j, hj => by
    have ih := softs_get L rs (by simp at hl; omega) (fun q hq => hv q (List.mem_cons_of_mem _ hq)) j hj
    have hb := tot_in j rs
    have h1 : sg (p.getD (j / 4) 0) = 1 ∨ sg (p.getD (j / 4) 0) = -1 := by unfold sg; split <;> simp
    unfold softs tot
    rw [addv_get _ v (hv (v, p) List.mem_cons_self) p L (softs_len L rs) L (Nat.le_refl _) j hj, ih]
    by_cases h : ver j = v
    · rw [if_pos ⟨by omega, h⟩, if_pos h]
      simp at hl
      unfold sadd clip
      omega
    · rw [if_neg (fun e => h e.2), if_neg h]
      omega
theorem softs_in (L : Nat) (rs : List (Nat × List Nat)) (hl : rs.length ≤ 30) (hv : ∀ q ∈ rs, q.1 < 4) : ∀ x ∈ softs L rs, -31 ≤ x ∧ x ≤ 31 := fun x hx => by
  obtain ⟨j, hj, rfl⟩ := List.mem_iff_getElem.1 hx
  have h := softs_get L rs hl hv j (by rw [softs_len] at hj; exact hj)
  rw [List.getD_eq_getElem?_getD, List.getElem?_eq_getElem hj] at h
  have hb := tot_in j rs
  simp only [Option.getD_some] at h
  omega
/-- How often a version came. -/
def cnt (v : Nat) : List (Nat × List Nat) → Nat
  | [] => 0
  | (u, p) :: rs => cnt v rs + (if u = v then 1 else 0)
/-- Whole versions of a code. -/
def whole (c : List Nat) (L : Nat) (vs : List Nat) : List (Nat × List Nat) := vs.map fun v => (v, (List.range L).map fun t => c.getD (place v t) 0)
theorem whole_tot (c : List Nat) (L : Nat) {j : Nat} (hj : j < 4 * L) : ∀ vs : List Nat, (tot j (whole c L vs)) * sg (c.getD j 0) = cnt (ver j) (whole c L vs)
  | [] => by simp [whole, tot, cnt]
  | v :: vs => by
    have ih := whole_tot c L hj vs
    have h1 : sg (c.getD j 0) = 1 ∨ sg (c.getD j 0) = -1 := by unfold sg; split <;> simp
    unfold whole at ih ⊢
    simp only [List.map_cons, tot, cnt]
    by_cases h : ver j = v
    · subst h
      rw [if_pos rfl, if_pos rfl]
      have e : (List.map (fun t => c.getD (place (ver j) t) 0) (List.range L)).getD (j / 4) 0 = c.getD j 0 := by
        rw [List.getD_eq_getElem?_getD, List.getElem?_map, List.getElem?_range (by omega)]
        simp [ver_place]
      rw [e, Int.add_mul, ih]
      push_cast
      rcases h1 with h1 | h1 <;> rw [h1] <;> omega
    · rw [if_neg h, if_neg (fun e => h e.symm), Int.add_zero, ih]
      simp
theorem whole_cnt (c : List Nat) (L : Nat) {v : Nat} : ∀ vs : List Nat, v ∈ vs → 0 < cnt v (whole c L vs)
  | u :: vs, h => by
    unfold whole
    simp only [List.map_cons, cnt]
    rcases List.mem_cons.1 h with rfl | h
    · rw [if_pos rfl]; omega
    · have := whole_cnt c L vs h
      unfold whole at this
      omega
/-- Whole versions, one or more: the list is told. -/
theorem whole_told {m : List Nat} {n : Nat} (hm : m.length = n) (hb : Bits m) (hn : n ≤ 4096) (vs : List Nat) (hv : ∀ v ∈ vs, v < 4) (h1 : vs ≠ []) (hl : vs.length ≤ 30) :
    (decOf (softs (n + 6) (whole (code m) (n + 6) vs))).1 = ints m ∧ (decOf (softs (n + 6) (whole (code m) (n + 6) vs))).2.2 = 0 := by
  have hlen : (whole (code m) (n + 6) vs).length ≤ 30 := by unfold whole; rw [List.length_map]; exact hl
  have hv4 : ∀ q ∈ whole (code m) (n + 6) vs, q.1 < 4 := fun q hq => by
    obtain ⟨v, h, rfl⟩ := List.mem_map.1 hq
    exact hv v h
  have hc : (code m).length = 4 * (n + 6) := by rw [code_len, hm]
  refine best_unique hm hb hn (softs_len _ _) (softs_in _ _ hlen hv4) (fun l hl2 hlb hne => ?_)
  have hdif := difx_pos (softs (n + 6) (whole (code m) (n + 6) vs)) (code m) (code l) (by rw [softs_len, hc]) (by rw [hc, code_len, hl2]) (fun j hj => by
    rw [softs_get _ _ hlen hv4 j (by omega), whole_tot _ _ (by omega)]
    omega)
  refine hdif.2 ?_
  obtain ⟨t, ht, hj⟩ := pcode_flip m l (zs 6) (zs 6) 0 (hm.trans hl2.symm) hb hlb (by omega) (fun e => hne e.symm)
  obtain ⟨v, hvm⟩ := List.exists_mem_of_ne_nil vs h1
  have hv0 := hv v hvm
  have hplt := place_lt (v := v) (show t < n + 6 by omega)
  refine ⟨place v t, by omega, ?_, ?_⟩
  · have := hj (strm v t) (strm_lt v t)
    exact this
  · rw [softs_get _ _ hlen hv4 _ hplt, whole_tot _ _ hplt, place_ver hv0]
    have := whole_cnt (code m) (n + 6) vs hvm
    omega
end Go.Proofs.YticiilolmkbncaaDoor.Vit
