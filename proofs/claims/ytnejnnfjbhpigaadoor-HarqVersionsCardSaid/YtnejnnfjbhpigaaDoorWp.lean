/- Plain words on combined versions: what the numbers are, and when the list is told. Each theorem says its own conditions. -/
import Derived.Test.YtnejnnfjbhpigaaDoorVza
import Derived.ChangeKeysEq
import Derived.Deep.CutRange
import Derived.BigRegion
namespace Go.Proofs.YtnejnnfjbhpigaaDoor.Vit
set_option linter.unusedVariables false
set_option linter.unusedSimpArgs false

/-- By how much one code goes better than another one, half of it. -/
def difx : List Int → List Nat → List Nat → Int
  | x :: xs, a :: u, b :: z => (if a = b then 0 else x * sg a) + difx xs u z
  | _, _, _ => 0
theorem sg_ne {a b : Nat} (ha : a ≤ 1) (hb : b ≤ 1) (h : a ≠ b) : sg b = - sg a := by
  rcases Nat.le_one_iff_eq_zero_or_eq_one.1 ha with rfl | rfl <;> rcases Nat.le_one_iff_eq_zero_or_eq_one.1 hb with rfl | rfl
  · exact absurd rfl h
  · rfl
  · rfl
  · exact absurd rfl h
theorem sc_dif : ∀ (xs : List Int) (a b : List Nat), xs.length = a.length → a.length = b.length → Bits a → Bits b → sc xs a - sc xs b = 2 * difx xs a b
  | [], [], [], _, _, _, _ => rfl
  | x :: xs, a :: u, b :: z, h1, h2, ha, hb => by
    have ih := sc_dif xs u z (by simpa using h1) (by simpa using h2) ha.tail hb.tail
    simp only [sc, difx]
    by_cases h : a = b
    · subst h
      rw [if_pos rfl]
      omega
    · rw [if_neg h, sg_ne (ha a List.mem_cons_self) (hb b List.mem_cons_self) h, Int.mul_neg]
      omega
  | [], _ :: _, _, h, _, _, _ => by simp at h
  | _ :: _, [], _, h, _, _, _ => by simp at h
  | _, [], _ :: _, _, h, _, _ => by simp at h
  | _, _ :: _, [], _, h, _, _ => by simp at h
/-- A list that goes better than each other one is told. -/
theorem best_unique {xs : List Int} {m : List Nat} {n : Nat} (hm : m.length = n) (hb : Bits m) (hn : n ≤ 4096) (hx : xs.length = 4 * (n + 6)) (hin : ∀ x ∈ xs, -31 ≤ x ∧ x ≤ 31)
    (hd : ∀ l : List Nat, l.length = n → Bits l → l ≠ m → 0 < difx xs (code m) (code l)) : (decOf xs).1 = ints m ∧ (decOf xs).2.2 = 0 := by
  have hf : ∀ j, -1000 ≤ (fun j => xs.getD j 0) j ∧ (fun j => xs.getD j 0) j ≤ 1000 := fun j => in1000 hin j
  have hD := decOf_is hx hn hin
  obtain ⟨a1, b1, _, _⟩ := cv_best hf hn n 0 0 (by omega) (by omega)
  have hsc : ∀ l : List Nat, l.length = n → ps (fun j => xs.getD j 0) 0 0 (l ++ zs 6) = sc xs (code l) := fun l hl =>
    ps_sc (fun j => xs.getD j 0) (l ++ zs 6) 0 0 xs (by rw [hx, List.length_append, zs_len, hl]) (fun j => Or.inl (by rw [Nat.mul_zero, Nat.zero_add]))
  have l1 := bw_len (fun j => xs.getD j 0) n (n + 6) n 0 0
  have c1 := bw_bits (fun j => xs.getD j 0) n (n + 6) n 0 0
  have e : bw (fun j => xs.getD j 0) n (n + 6) n 0 0 = m := by
    refine Classical.byContradiction fun hne => ?_
    have h1 := hd _ l1 c1 hne
    have h2 := a1 m hm hb
    rw [hsc _ l1] at b1
    rw [hsc m hm] at h2
    have h3 := sc_dif xs (code m) (code (bw (fun j => xs.getD j 0) n (n + 6) n 0 0)) (by rw [hx, code_len, hm]) (by rw [code_len, code_len, hm, l1]) (code_bits _) (code_bits _)
    omega
  rw [hD, e]
  exact ⟨rfl, rfl⟩
theorem difx_pos : ∀ (xs : List Int) (a b : List Nat), xs.length = a.length → a.length = b.length → (∀ j, j < a.length → 0 ≤ xs.getD j 0 * sg (a.getD j 0)) →
    (0 ≤ difx xs a b) ∧ ((∃ j, j < a.length ∧ a.getD j 0 ≠ b.getD j 0 ∧ 0 < xs.getD j 0 * sg (a.getD j 0)) → 0 < difx xs a b)
  | [], [], [], _, _, _ => ⟨by simp [difx], fun ⟨j, hj, _⟩ => by simp at hj⟩
  | x :: xs, a :: u, b :: z, h1, h2, h3 => by
    have ih := difx_pos xs u z (by simpa using h1) (by simpa using h2) (fun j hj => by
      have := h3 (j + 1) (by simpa using hj)
      simpa using this)
    have h0 : 0 ≤ x * sg a := by
      have := h3 0 (by simp)
      simpa using this
    simp only [difx]
    refine ⟨?_, fun ⟨j, hj, hne, hp⟩ => ?_⟩
    · split
      · omega
      · omega
    · match j, hj, hne, hp with
      | 0, hj, hne, hp =>
        have hne' : a ≠ b := by simpa using hne
        have hp' : 0 < x * sg a := by simpa using hp
        rw [if_neg hne']
        omega
      | j + 1, hj, hne, hp =>
        have := ih.2 ⟨j, by simpa using hj, by simpa using hne, by simpa using hp⟩
        split
        · omega
        · omega
  | [], _ :: _, _, h, _, _ => by simp at h
  | _ :: _, [], _, h, _, _ => by simp at h
  | _, [], _ :: _, _, h, _ => by simp at h
  | _, _ :: _, [], _, h, _ => by simp at h
/-- Each stream looks at the newest bit. -/
theorem flip_tab : (List.range 64).all (fun s => (List.range 4).all fun j => ob s j != ob (s + 64) j) = true := by kernel_rfl
theorem ob_flip {s j b c : Nat} (hs : s < 64) (hj : j < 4) (hb : b ≤ 1) (hc : c ≤ 1) (hne : b ≠ c) : ob (s + 64 * b) j ≠ ob (s + 64 * c) j := by
  have h := List.all_eq_true.1 (List.all_eq_true.1 flip_tab s (List.mem_range.2 hs)) j (List.mem_range.2 hj)
  have h' : ob s j ≠ ob (s + 64) j := by simpa using h
  rcases Nat.le_one_iff_eq_zero_or_eq_one.1 hb with rfl | rfl <;> rcases Nat.le_one_iff_eq_zero_or_eq_one.1 hc with rfl | rfl
  · exact absurd rfl hne
  · simpa using h'
  · simpa using fun e => h' e.symm
  · exact absurd rfl hne
/-- Lists that are unlike have codes that are unlike in all four streams, at some step. -/
theorem pcode_flip : ∀ (l m r q : List Nat) (s : Nat), l.length = m.length → Bits l → Bits m → s < 64 → l ≠ m →
    ∃ t, t < l.length ∧ ∀ j, j < 4 → (pcode s (l ++ r)).getD (4 * t + j) 0 ≠ (pcode s (m ++ q)).getD (4 * t + j) 0
  | [], [], _, _, _, _, _, _, _, h => absurd rfl h
  | [], _ :: _, _, _, _, h, _, _, _, _ => by simp at h
  | _ :: _, [], _, _, _, h, _, _, _, _ => by simp at h
  | b :: l, c :: m, r, q, s, h, hl, hm, hs, hne => by
    have hb := hl b List.mem_cons_self
    have hc := hm c List.mem_cons_self
    by_cases hbc : b = c
    · subst hbc
      obtain ⟨t, ht, hj⟩ := pcode_flip l m r q ((s + 64 * b) / 2) (by simpa using h) hl.tail hm.tail (by omega) (fun e => hne (by rw [e]))
      refine ⟨t + 1, by simpa using ht, fun j h4 => ?_⟩
      have := hj j h4
      simp only [List.cons_append, pcode]
      rw [show 4 * (t + 1) + j = (4 * t + j) + 4 by omega]
      simpa using this
    · refine ⟨0, by simp, fun j h4 => ?_⟩
      have := ob_flip hs h4 hb hc hbc
      simp only [List.cons_append, pcode]
      match j, h4, this with
      | 0, _, h => simpa using h
      | 1, _, h => simpa using h
      | 2, _, h => simpa using h
      | 3, _, h => simpa using h
/-- In which version a place stands. -/
def ver (j : Nat) : Nat := (j % 4 + (4 - j / 4 % 4)) % 4
theorem ver_lt (j : Nat) : ver j < 4 := by unfold ver; omega
theorem place_ver {v t : Nat} (hv : v < 4) : ver (place v t) = v := by unfold ver place strm; omega
theorem place_step {v t : Nat} : place v t / 4 = t := by unfold place strm; omega
theorem ver_place (j : Nat) : place (ver j) (j / 4) = j := by unfold ver place strm; omega
theorem addv_get (xs : List Int) (v : Nat) (hv : v < 4) (p : List Nat) (L : Nat) (hx : xs.length = 4 * L) : ∀ t, t ≤ L → ∀ j, j < 4 * L →
    (addv xs v p t).getD j 0 = if j / 4 < t ∧ ver j = v then sadd (xs.getD j 0) (sg (p.getD (j / 4) 0)) else xs.getD j 0
  | 0, _, j, _ => by
    rw [if_neg (by omega)]
    rfl
  | t + 1, ht, j, hj => by
    have ih := addv_get xs v hv p L hx t (by omega)
    have hpl := place_lt (v := v) (show t < L by omega)
    unfold addv
    by_cases he : place v t = j
    · have h1 : j / 4 = t := by rw [← he]; exact place_step
      have h2 : ver j = v := by rw [← he]; exact place_ver hv
      rw [if_pos ⟨by omega, h2⟩, he, h1]
      have ihj := ih j hj
      rw [if_neg (by omega)] at ihj
      rw [ihj, List.getD_eq_getElem?_getD, List.getElem?_set_self (by rw [addv_len, hx]; exact hj)]
      rfl
    · have e : ((addv xs v p t).set (place v t) (sadd ((addv xs v p t).getD (place v t) 0) (sg (p.getD t 0)))).getD j 0 = (addv xs v p t).getD j 0 := by
        rw [List.getD_eq_getElem?_getD, List.getElem?_set_ne he, ← List.getD_eq_getElem?_getD]
      rw [e, ih j hj]
      by_cases h1 : j / 4 < t ∧ ver j = v
      · rw [if_pos h1, if_pos ⟨by omega, h1.2⟩]
      · rw [if_neg h1, if_neg (fun h => ?_)]
        by_cases h2 : j / 4 = t
        · exact he (by rw [← h.2, ← h2]; exact ver_place j)
        · exact h1 ⟨by omega, h.2⟩
/-- The numbers behind versions that came, the last one first. -/
def softs (L : Nat) : List (Nat × List Nat) → List Int
  | [] => List.replicate (4 * L) 0
  | (v, p) :: rs => addv (softs L rs) v p L
theorem softs_len (L : Nat) : ∀ rs, (softs L rs).length = 4 * L
  | [] => by simp [softs]
  | (v, p) :: rs => by unfold softs; rw [addv_len]; exact softs_len L rs
def tot (j : Nat) : List (Nat × List Nat) → Int
  | [] => 0
  | (v, p) :: rs => tot j rs + (if ver j = v then sg (p.getD (j / 4) 0) else 0)
theorem tot_in (j : Nat) : ∀ rs : List (Nat × List Nat), -(rs.length : Int) ≤ tot j rs ∧ tot j rs ≤ rs.length
  | [] => by simp [tot]
  | (v, p) :: rs => by
    have ih := tot_in j rs
    have h1 : sg (p.getD (j / 4) 0) = 1 ∨ sg (p.getD (j / 4) 0) = -1 := by unfold sg; split <;> simp
    simp only [tot, List.length_cons]
    push_cast
    split
    · omega
    · omega
theorem softs_get (L : Nat) : ∀ (rs : List (Nat × List Nat)), rs.length ≤ 30 → (∀ q ∈ rs, q.1 < 4) → ∀ j, j < 4 * L → (softs L rs).getD j 0 = tot j rs
  | [], _, _, j, hj => by
    unfold softs tot
    rw [List.getD_eq_getElem?_getD, List.getElem?_replicate]
    split <;> rfl
  | (v, p) :: rs, hl, hv, j, hj => by
    have ih := softs_get L rs (by simp at hl; omega) (fun q hq => hv q (List.mem_cons_of_mem _ hq)) j hj
    have hb := tot_in j rs
    have h1 : sg (p.getD (j / 4) 0) = 1 ∨ sg (p.getD (j / 4) 0) = -1 := by unfold sg; split <;> simp
    unfold softs tot
    rw [addv_get _ v (hv (v, p) List.mem_cons_self) p L (softs_len L rs) L (Nat.le_refl _) j hj, ih]
    by_cases h : ver j = v
    · rw [if_pos ⟨by omega, h⟩, if_pos h]
      simp at hl
      unfold sadd clip
      omega
    · rw [if_neg (fun e => h e.2), if_neg h]
      omega
theorem softs_in (L : Nat) (rs : List (Nat × List Nat)) (hl : rs.length ≤ 30) (hv : ∀ q ∈ rs, q.1 < 4) : ∀ x ∈ softs L rs, -31 ≤ x ∧ x ≤ 31 := fun x hx => by
  obtain ⟨j, hj, rfl⟩ := List.mem_iff_getElem.1 hx
  have h := softs_get L rs hl hv j (by rw [softs_len] at hj; exact hj)
  rw [List.getD_eq_getElem?_getD, List.getElem?_eq_getElem hj] at h
  have hb := tot_in j rs
  simp only [Option.getD_some] at h
  omega
/-- How often a version came. -/
def cnt (v : Nat) : List (Nat × List Nat) → Nat
  | [] => 0
  | (u, p) :: rs => cnt v rs + (if u = v then 1 else 0)
/-- Whole versions of a code. -/
def whole (c : List Nat) (L : Nat) (vs : List Nat) : List (Nat × List Nat) := vs.map fun v => (v, (List.range L).map fun t => c.getD (place v t) 0)
theorem whole_tot (c : List Nat) (L : Nat) {j : Nat} (hj : j < 4 * L) : ∀ vs : List Nat, (tot j (whole c L vs)) * sg (c.getD j 0) = cnt (ver j) (whole c L vs)
  | [] => by simp [whole, tot, cnt]
  | v :: vs => by
    have ih := whole_tot c L hj vs
    have h1 : sg (c.getD j 0) = 1 ∨ sg (c.getD j 0) = -1 := by unfold sg; split <;> simp
    unfold whole at ih ⊢
    simp only [List.map_cons, tot, cnt]
    by_cases h : ver j = v
    · subst h
      rw [if_pos rfl, if_pos rfl]
      have e : (List.map (fun t => c.getD (place (ver j) t) 0) (List.range L)).getD (j / 4) 0 = c.getD j 0 := by
        rw [List.getD_eq_getElem?_getD, List.getElem?_map, List.getElem?_range (by omega)]
        simp [ver_place]
      rw [e, Int.add_mul, ih]
      push_cast
      rcases h1 with h1 | h1 <;> rw [h1] <;> omega
    · rw [if_neg h, if_neg (fun e => h e.symm), Int.add_zero, ih]
      simp
theorem whole_cnt (c : List Nat) (L : Nat) {v : Nat} : ∀ vs : List Nat, v ∈ vs → 0 < cnt v (whole c L vs)
  | u :: vs, h => by
    unfold whole
    simp only [List.map_cons, cnt]
    rcases List.mem_cons.1 h with rfl | h
    · rw [if_pos rfl]; omega
    · have := whole_cnt c L vs h
      unfold whole at this
      omega
/-- Whole versions, one or more: the list is told. -/
theorem whole_told {m : List Nat} {n : Nat} (hm : m.length = n) (hb : Bits m) (hn : n ≤ 4096) (vs : List Nat) (hv : ∀ v ∈ vs, v < 4) (h1 : vs ≠ []) (hl : vs.length ≤ 30) :
    (decOf (softs (n + 6) (whole (code m) (n + 6) vs))).1 = ints m ∧ (decOf (softs (n + 6) (whole (code m) (n + 6) vs))).2.2 = 0 := by
  have hlen : (whole (code m) (n + 6) vs).length ≤ 30 := by unfold whole; rw [List.length_map]; exact hl
  have hv4 : ∀ q ∈ whole (code m) (n + 6) vs, q.1 < 4 := fun q hq => by
    obtain ⟨v, h, rfl⟩ := List.mem_map.1 hq
    exact hv v h
  have hc : (code m).length = 4 * (n + 6) := by rw [code_len, hm]
  refine best_unique hm hb hn (softs_len _ _) (softs_in _ _ hlen hv4) (fun l hl2 hlb hne => ?_)
  have hdif := difx_pos (softs (n + 6) (whole (code m) (n + 6) vs)) (code m) (code l) (by rw [softs_len, hc]) (by rw [hc, code_len, hl2]) (fun j hj => by
    rw [softs_get _ _ hlen hv4 j (by omega), whole_tot _ _ (by omega)]
    omega)
  refine hdif.2 ?_
  obtain ⟨t, ht, hj⟩ := pcode_flip m l (zs 6) (zs 6) 0 (hm.trans hl2.symm) hb hlb (by omega) (fun e => hne e.symm)
  obtain ⟨v, hvm⟩ := List.exists_mem_of_ne_nil vs h1
  have hv0 := hv v hvm
  have hplt := place_lt (v := v) (show t < n + 6 by omega)
  refine ⟨place v t, by omega, ?_, ?_⟩
  · have := hj (strm v t) (strm_lt v t)
    exact this
  · rw [softs_get _ _ hlen hv4 _ hplt, whole_tot _ _ hplt, place_ver hv0]
    have := whole_cnt (code m) (n + 6) vs hvm
    omega
end Go.Proofs.YtnejnnfjbhpigaaDoor.Vit

namespace Go.Proofs.YtnejnnfjbhpigaaDoor.Vit
open Go.RowKit Go.Proofs.YtnejnnfjbhpigaaDoorW.PrintWords Go.Proofs.YtnejnnfjbhpigaaDoorW.PrintLast Go.Proofs.YtnejnnfjbhpigaaDoorW.PrintMore Go.Proofs.YtnejnnfjbhpigaaDoor.Mem
attribute [local go_sem] max2_int min2_int max_two min_two max_three min_three max_four min_four   -- for this text's walks alone
set_option linter.unusedVariables false
set_option linter.unusedSimpArgs false

/-- A version's bits of a code. -/
def pickl (c : List Nat) (v L : Nat) : List Nat := (List.range L).map fun t => c.getD (place v t) 0
theorem pickl_len (c : List Nat) (v L : Nat) : (pickl c v L).length = L := by simp [pickl]
theorem pickl_bits {c : List Nat} (hc : Bits c) (v L : Nat) : Bits (pickl c v L) := fun b hb => by
  obtain ⟨t, _, rfl⟩ := List.mem_map.1 hb
  rw [List.getD_eq_getElem?_getD]
  cases h : c[place v t]? with
  | none => simp
  | some x => exact hc x (List.mem_of_getElem? h)
theorem pickl_next (c : List Nat) (v L : Nat) : pickl c v (L + 1) = pickl c v L ++ [c.getD (place v L) 0] := by
  unfold pickl
  rw [List.range_succ, List.map_append]
  rfl
set_option maxHeartbeats 3200000 in
set_option maxRecDepth 100000 in
theorem Pick_any (c : List Nat) (v L K : Nat) (hv : v < 4) (hc : c.length = K) (hK : K = 4 * L) (hL : L ≤ 4102) (A : Option Addr) (d : Nat) (w : World) (hC : (Kd.int .u8).C w A K (ints c)) (hd : K ≤ d) :
    Calls Tryd.prog 30 #[.slice A K d, .int .i64 (v : Int)] w fun e w' => ∃ u, e = .returned u ∧ (Kd.int .u8).R 5 w' w.heap.size (fun k => w.heap.size ≤ k) u (ints (pickl c v L)) ∧ Below w.heap.size w w' := by
  have HC := Aside0.mk (And.intro hC (And.intro hc hK))
  have hKi : (K : Int) = 4 * (L : Int) := by omega
  have hK2 := Aside0.mk hKi
  clear hC hc hK hKi
  go_enter Tryd.func30, Tryd.ntmps30
  go_wp2_with fail
  go_loopw [5, 6] (fun o i wr => ∃ t : Nat, i = .int .i64 t ∧ t ≤ L ∧ (Kd.int .u8).R 5 wr w.heap.size (fun k => w.heap.size ≤ k) o (ints (pickl c v t)) ∧ Below w.heap.size w wr) (fun _ i _ => L - (intOf i).toNat)
  case atStart => exact ⟨0, rfl, Nat.zero_le _, Kd.R_nil _ _ _ _ _, Below.refl _ _⟩
  case round =>
    obtain ⟨t, rfl, ht, hR, hB⟩ := hrel
    have HR := Aside0.mk (And.intro hR hB)
    clear hR
    by_cases htL : t < L
    · have hlt : 4 * (t : Int) < (K : Int) := by have := hK2.out; omega
      obtain ⟨s, hs⟩ : ∃ s, strm v t = s := ⟨_, rfl⟩
      have hs4 : s < 4 := by rw [← hs]; exact strm_lt v t
      obtain ⟨pl, hpl⟩ : ∃ pl, place v t = pl := ⟨_, rfl⟩
      have hplK : pl < K := by have := place_lt (v := v) htL; have := HC.out.2.2; omega
      have hplK2 : (pl : Int) < (K : Int) := by omega
      have hm3 : 4 * (t : Int) + (s : Int) = (pl : Int) := by rw [← hpl]; unfold place; omega
      have hb1 : -9223372036854775808 ≤ (pl : Int) ∧ (pl : Int) ≤ 9223372036854775807 := by omega
      have hb2 : -9223372036854775808 ≤ 4 * (t : Int) ∧ 4 * (t : Int) ≤ 9223372036854775807 := by omega
      obtain ⟨ad, hA, hcell⟩ := Kd.at_int (Kd.C_below HC.out.1 hB) (pl : Int) (by omega) hplK2
      cases hA
      have hrd : rd (ints c) (pl : Int) = ((c.getD pl 0 : Nat) : Int) := by
        unfold rd
        rw [Int.toNat_natCast]
        exact ints_getD c pl
      rw [hrd, Int.toNat_natCast] at hcell
      obtain ⟨x, hx⟩ : ∃ x, c.getD pl 0 = x := ⟨_, rfl⟩
      rw [hx] at hcell
      have hst := fun W => Stream10_any v t hv W
      rw [hs] at hst
      have hnx := pickl_next c v t
      rw [hpl, hx] at hnx
      have HN := Aside0.mk (And.intro hnx hst)
      clear hs hs4 hpl hplK hB hrd hx hst hnx
      have hm1 : wrap64 (4 * (t : Int)) = 4 * (t : Int) := wrap64_in _ hb2.1 hb2.2
      have hm4 : wrap64 (pl : Int) = (pl : Int) := wrap64_in _ hb1.1 hb1.2
      clear hb1 hb2
      go_wp2_with (first | (go_at_call 61; refine (HN.out.2 _).mono ?_; rintro e w1 ⟨rfl, rfl⟩) | ((with_reducible refine gate_builtin (b := .append) (xs := #[.tmp 14, .tmp 24]) rfl ?_); at_builtin; refine Kd.R_append (Kd.int .u8) (w0 := w) w.heap.size rfl (.tmp 14) (.tmp 24) 22 5 (.int .u8 0) 1 rfl Tryd.underlying22 info5 rfl (by decide) (by omega) u5 (ints (pickl c v t)) (x : Int) [.int .u8 x] (fun k => w.heap.size ≤ k) (fun _ => False) rfl rfl ?aP (fun _ hk => hk.elim) ?aF ?aO ?aB ?aS ?aL ?_; (case aP => exact rfl); (case aB => exact HR.out.2); (case aF => exact (fun k hk => Nat.le_trans (below_size HR.out.2) hk)); (case aO => exact HR.out.1); (case aS => exact below_size HR.out.2); (case aL => rw [ints_len, pickl_len]; omega); intro v1 w7 ho hb hg hat; have HK := Aside0.mk (And.intro ho hb); clear ho hb hg hat))
      refine ⟨⟨t + 1, by go_num, by omega, ?_, HK.out.2⟩, by simp only [intOf]; omega⟩
      rw [HN.out.1, ints_append]
      exact HK.out.1
    · have hlt : ¬ 4 * (t : Int) < (K : Int) := by have := hK2.out; omega
      obtain rfl : t = L := by omega
      have hm1 : wrap64 (4 * (t : Int)) = 4 * (t : Int) := wrap64_in _ (by omega) (by omega)
      clear hB
      go_wp2_with fail
      go_ret
      exact ⟨_, rfl, HR.out.1, HR.out.2⟩
set_option maxRecDepth 100000 in
theorem BDecode_any (w : World) (b sb n : Nat) (xs : List Int) (cs : Nat → Nat) (hI : IsBuf w b sb n xs cs) (ht : Taps w) :
    Calls Tryd.prog 27 #[.pointer (some ⟨b, 0, none⟩)] w fun e w' => ∃ u, e = .returned (.tuple #[u, .int .i64 (decOf xs).2.2]) ∧ (Kd.int .u8).R 5 w' w.heap.size (fun _ => True) u (decOf xs).1 ∧ Below w.heap.size w w' := by
  have hd := Decode_any xs (some ⟨sb, 0, none⟩) (4 * (n + 6)) w (by rw [hI.len]; exact hI.C) (by rw [hI.len]; exact Nat.le_refl _) (by have := hI.len; have := hI.le; omega) ht
  rw [hI.len] at hd
  have M1 : w.cell? ⟨b, 1, none⟩ = some (.slice (some ⟨sb, 0, none⟩) (4 * (n + 6)) (4 * (n + 6))) := blk_cell hI.blk 1
  obtain ⟨K, hK⟩ : ∃ K, 4 * (n + 6) = K := ⟨_, rfl⟩
  rw [hK] at M1 hd
  obtain ⟨D, hD⟩ : ∃ D, decOf xs = D := ⟨_, rfl⟩
  rw [hD] at hd ⊢
  have HD := Aside0.mk hd
  clear hI hd hK hD
  go_enter Tryd.func27, Tryd.ntmps27
  go_wp2_with (go_at_call 56; refine HD.out.mono ?_; rintro e w1 ⟨u, rfl, hR, hB⟩; have H1 := Aside0.mk (And.intro hR hB); clear hR hB)
  go_ret2
  exact ⟨u, rfl, H1.out.1, H1.out.2⟩
/-- What came: a Reset, a version, turned places, raw bits. -/
abbrev DC : Kd (Bool × Int × List Int × List Int) := Kd.pair Kd.bool (Kd.pair (Kd.int .i64) (Kd.pair (Kd.slice 3 (Kd.int .i64)) (Kd.slice 5 (Kd.int .u8))))
/-- Element i of what came. -/
theorem came_at {w : World} {A : Option Addr} {n : Nat} {row : List (Bool × Int × List Int × List Int)} (h : DC.C w A n row) (i : Nat) (hi : i < n) :
    ∃ (ad : Addr) (r : Bool) (vv : Int) (at_ raw : List Int) (Aa : Option Addr) (ca : Nat) (Ar : Option Addr) (cr : Nat), A = some ad ∧ row.getD i (false, 0, [], []) = (r, vv, at_, raw) ∧ at_.length ≤ ca ∧ (Kd.int .i64).C w Aa at_.length at_ ∧ raw.length ≤ cr ∧ (Kd.int .u8).C w Ar raw.length raw ∧
      w.cell? (ad.add (i * 4)) = some (.bool r) ∧ w.cell? ⟨(ad.add (i * 4)).block, (ad.add (i * 4)).off + 1, none⟩ = some (.int .i64 vv) ∧
      w.cell? ⟨(ad.add (i * 4)).block, (ad.add (i * 4)).off + 2, none⟩ = some (.slice Aa at_.length ca) ∧ w.cell? ⟨(ad.add (i * 4)).block, (ad.add (i * 4)).off + 3, none⟩ = some (.slice Ar raw.length cr) := by
  obtain ⟨ad, c, hA, hcl, hK, hcell⟩ := Kd.C_get h (false, 0, [], []) (i : Int) (by omega) (by omega)
  rw [Int.toNat_natCast] at hK hcell
  obtain ⟨⟨r, vv, at_, raw⟩, hrow⟩ : ∃ q, row.getD i (false, 0, [], []) = q := ⟨_, rfl⟩
  rw [hrow] at hK
  obtain ⟨c0, c1, rfl, h0, c2, c3, rfl, h2, c4, c5, rfl, h4, h5⟩ := hK
  obtain ⟨Aa, ca, rfl, hle, hC⟩ := h4
  obtain ⟨Ar, cr, rfl, hle2, hC2⟩ := h5
  have h0' : c0 = [.bool r] := h0
  have h2' : c2 = [.int .i64 vv] := h2
  subst h0' h2'
  have hsz : DC.sz = 4 := rfl
  rw [hsz] at hcell
  have e0 := hcell 0 _ rfl
  have e1 := hcell 1 _ rfl
  have e2 := hcell 2 _ rfl
  have e3 := hcell 3 _ rfl
  rw [add_field _ _ 1 (by omega)] at e1
  rw [add_field _ _ 2 (by omega)] at e2
  rw [add_field _ _ 3 (by omega)] at e3
  exact ⟨ad, r, vv, at_, raw, Aa, ca, Ar, cr, hA, hrow, hle, hC, hle2, hC2, by simpa using e0, by simpa using e1, by simpa using e2, by simpa using e3⟩
end Go.Proofs.YtnejnnfjbhpigaaDoor.Vit

namespace Go.Proofs.YtnejnnfjbhpigaaDoor.Vit
open Go.RowKit Go.Proofs.YtnejnnfjbhpigaaDoorW.PrintWords Go.Proofs.YtnejnnfjbhpigaaDoorW.PrintLast Go.Proofs.YtnejnnfjbhpigaaDoorW.PrintMore Go.Proofs.YtnejnnfjbhpigaaDoor.Mem
attribute [local go_sem] max2_int min2_int max_two min_two max_three min_three max_four min_four   -- for this text's walks alone
set_option linter.unusedVariables false
set_option linter.unusedSimpArgs false

/-- The places that are turned. -/
def atl (at_ : List Int) (L k : Nat) : List Int := (at_.take k).map fun x => wrap64 ((IntKind.u64.wrap x).tmod (L : Int))
/-- A version of a list, some bits turned. -/
def partl (m : List Nat) (at_ : List Int) (v : Nat) : List Nat := turnN (pickl (code m) v (m.length + 6)) (atl at_ (m.length + 6) (min 30 at_.length)) (m.length + 6)
theorem partl_len (m : List Nat) (at_ : List Int) (v : Nat) : (partl m at_ v).length = m.length + 6 := by unfold partl; rw [turnN_len]
theorem partl_bits {m : List Nat} (hm : Bits m) (at_ : List Int) (v : Nat) : Bits (partl m at_ v) := fun b hb => by
  unfold partl turnN at hb
  obtain ⟨i, _, rfl⟩ := List.mem_map.1 hb
  refine turnAt_le ?_ _ _ _
  rw [List.getD_eq_getElem?_getD]
  cases h : (pickl (code m) v (m.length + 6))[i]? with
  | none => simp
  | some x => exact pickl_bits (code_bits m) v _ x (List.mem_of_getElem? h)
theorem atl_next (at_ : List Int) (L k : Nat) (h : k < at_.length) : atl at_ L (k + 1) = atl at_ L k ++ [wrap64 ((IntKind.u64.wrap at_[k]).tmod (L : Int))] := by
  unfold atl
  rw [List.take_add_one, List.getElem?_eq_getElem h, List.map_append]
  rfl
theorem atl_len (at_ : List Int) (L k : Nat) (h : k ≤ at_.length) : (atl at_ L k).length = k := by unfold atl; rw [List.length_map, List.length_take]; omega
theorem eq4_same (a b c d : Int) (W : World) : (binOp .eql 37 (.agg #[.int .i64 a, .int .i64 b, .int .i64 c, .int .i64 d]) (.agg #[.int .i64 a, .int .i64 b, .int .i64 c, .int .i64 d])).run Tryd.prog W = .ok (.bool true) W := by
  obtain ⟨i0, hi, _⟩ := Option.map_eq_some_iff.1 info3
  have hc : Tryd.prog.cellsOf 3 = 1 := by kernel_rfl
  rw [run_eql_struct, run_equalIn_array W 9999 _ _ (Tryd.underlying37) hi, hc]
  have hr : List.range 4 = [0, 1, 2, 3] := rfl
  rw [hr]
  simp [Op.eqItems, go_sem, Tryd.underlying3]
theorem whole_at {m : List Nat} {n L : Nat} (hL : n + 6 = L) (hm : m.length = n) (hb : Bits m) (hn : n ≤ 4096) (vs : List Nat) (hv : ∀ v ∈ vs, v < 4) (h1 : vs ≠ []) (hl : vs.length ≤ 30) :
    (decOf (softs L (whole (code m) L vs))).1 = ints m ∧ (decOf (softs L (whole (code m) L vs))).2.2 = 0 := by
  subst hL
  exact whole_told hm hb hn vs hv h1 hl
/-- Versions from nought on. -/
def vsr : Nat → List Nat
  | 0 => []
  | k + 1 => k :: vsr k
def cks : Nat → Nat → Nat
  | 0 => fun _ => 0
  | k + 1 => bump (cks k) k
theorem cks_le : ∀ k i, cks k i ≤ k
  | 0, i => Nat.le_refl _
  | k + 1, i => by
    have h1 := cks_le k k
    have h2 := cks_le k i
    show bump (cks k) k i ≤ k + 1
    unfold bump
    split <;> omega
end Go.Proofs.YtnejnnfjbhpigaaDoor.Vit

namespace Go.Proofs.YtnejnnfjbhpigaaDoor.Vit
open Go.RowKit Go.Proofs.YtnejnnfjbhpigaaDoorW.PrintWords Go.Proofs.YtnejnnfjbhpigaaDoorW.PrintLast Go.Proofs.YtnejnnfjbhpigaaDoorW.PrintMore Go.Proofs.YtnejnnfjbhpigaaDoor.Mem
attribute [local go_sem] max2_int min2_int max_two min_two max_three min_three max_four min_four   -- for this text's walks alone
set_option linter.unusedVariables false
set_option linter.unusedSimpArgs false

theorem addr_add_block (a : Addr) (j : Nat) : (a.add j).block = a.block := by
  unfold Addr.add
  split <;> rfl
/-- A row of other blocks reads as it did. -/
theorem C_chg {k : IntKind} {S : Nat → Prop} {w w' : World} {A : Option Addr} {n : Nat} {xs : List Int} (hC : (Kd.int k).C w A n xs) (hc : Chg S w w') (hS : ∀ ad, A = some ad → ¬ S ad.block) : (Kd.int k).C w' A n xs := by
  obtain ⟨hl, hb, hr⟩ := hC
  refine ⟨hl, hb, fun hp => ?_⟩
  obtain ⟨ad, hA, h⟩ := hr hp
  refine ⟨ad, hA, fun j p hj => ?_⟩
  obtain ⟨cs, h1, h2, h3⟩ := h j p hj
  refine ⟨cs, h1, h2, fun i u hu => ?_⟩
  have h4 := h3 i u hu
  have hbk : ((ad.add (j * (Kd.int k).sz + i)).block) = ad.block := addr_add_block _ _
  rw [hc.cell (lies_lt h4) (by rw [hbk]; exact hS ad hA)]
  exact h4
/-- The versions that came, the last one first. -/
def vsc (os : List Int) : Nat → List Nat
  | 0 => []
  | k + 1 => ((os.getD k 0).toNat % 4) :: vsc os k
theorem vsc_len (os : List Int) : ∀ k, (vsc os k).length = k
  | 0 => rfl
  | k + 1 => by unfold vsc; rw [List.length_cons, vsc_len os k]
theorem vsc_lt (os : List Int) : ∀ k, ∀ v ∈ vsc os k, v < 4
  | 0, v, h => by simp [vsc] at h
  | k + 1, v, h => by
    unfold vsc at h
    rcases List.mem_cons.1 h with rfl | h
    · omega
    · exact vsc_lt os k v h
theorem bump_le {cs : Nat → Nat} {k : Nat} (h : ∀ i, cs i ≤ k) (v : Nat) : ∀ i, bump cs v i ≤ k + 1 := fun i => by
  have h1 := h v
  have h2 := h i
  unfold bump
  split <;> omega
theorem u64_mod4 (x : Int) : ∃ v : Nat, v < 4 ∧ (IntKind.u64.wrap x).tmod 4 = (v : Int) := by
  have h0 : 0 ≤ IntKind.u64.wrap x := by have := IntKind.wrap_u64 x; omega
  refine ⟨((IntKind.u64.wrap x).tmod 4).toNat, ?_, ?_⟩ <;> (rw [Int.tmod_eq_emod_of_nonneg h0]; omega)
end Go.Proofs.YtnejnnfjbhpigaaDoor.Vit

namespace Go.Proofs.YtnejnnfjbhpigaaDoor.Vit
open Go.RowKit Go.Proofs.YtnejnnfjbhpigaaDoorW.PrintWords Go.Proofs.YtnejnnfjbhpigaaDoorW.PrintLast Go.Proofs.YtnejnnfjbhpigaaDoorW.PrintMore Go.Proofs.YtnejnnfjbhpigaaDoor.Mem
attribute [local go_sem] max2_int min2_int max_two min_two max_three min_three max_four min_four   -- for this text's walks alone
set_option linter.unusedVariables false
set_option linter.unusedSimpArgs false

/-- What came under a number, as versions of a list. -/
def cv13 (x : Int) : Nat := ((IntKind.u64.wrap x).tmod 4).toNat
theorem cv13_lt (x : Int) : cv13 x < 4 := by
  have h0 : 0 ≤ IntKind.u64.wrap x := by have := IntKind.wrap_u64 x; omega
  unfold cv13
  rw [Int.tmod_eq_emod_of_nonneg h0]
  omega
theorem cv13_is (x : Int) : (IntKind.u64.wrap x).tmod 4 = (cv13 x : Int) := by
  have h0 : 0 ≤ IntKind.u64.wrap x := by have := IntKind.wrap_u64 x; omega
  unfold cv13
  rw [Int.tmod_eq_emod_of_nonneg h0]
  omega
def rcv (m : List Nat) (row : List (Bool × Int × List Int × List Int)) (i : Nat) : Nat × List Nat :=
  (cv13 (row.getD i (false, 0, [], [])).2.1, partl m (row.getD i (false, 0, [], [])).2.2.1 (cv13 (row.getD i (false, 0, [], [])).2.1))
theorem bump_cnt (rs : List (Nat × List Nat)) (v : Nat) (p : List Nat) : bump (fun i => cnt i rs) v = fun i => cnt i ((v, p) :: rs) := by
  funext i
  unfold bump
  simp only [cnt]
  by_cases h : i = v
  · subst h
    rw [if_pos rfl, if_pos rfl]
  · rw [if_neg h, if_neg (fun e => h e.symm), Nat.add_zero]
theorem cnt_le (v : Nat) : ∀ rs : List (Nat × List Nat), cnt v rs ≤ rs.length
  | [] => Nat.le_refl _
  | (u, p) :: rs => by
    have := cnt_le v rs
    simp only [cnt, List.length_cons]
    split <;> omega
theorem tot_perm (j : Nat) {a b : List (Nat × List Nat)} (h : a.Perm b) : tot j a = tot j b := by
  induction h with
  | nil => rfl
  | cons x _ ih => obtain ⟨v, p⟩ := x; simp only [tot, ih]
  | swap x y l => obtain ⟨v, p⟩ := x; obtain ⟨u, q⟩ := y; simp only [tot]; omega
  | trans _ _ h1 h2 => exact h1.trans h2
theorem cnt_perm (v : Nat) {a b : List (Nat × List Nat)} (h : a.Perm b) : cnt v a = cnt v b := by
  induction h with
  | nil => rfl
  | cons x _ ih => obtain ⟨u, p⟩ := x; simp only [cnt, ih]
  | swap x y l => obtain ⟨u, p⟩ := x; obtain ⟨u', q⟩ := y; simp only [cnt]; omega
  | trans _ _ h1 h2 => exact h1.trans h2
theorem softs_perm (L : Nat) {a b : List (Nat × List Nat)} (h : a.Perm b) (hl : a.length ≤ 30) (hv : ∀ q ∈ a, q.1 < 4) : softs L a = softs L b := by
  have hv2 : ∀ q ∈ b, q.1 < 4 := fun q hq => hv q (h.mem_iff.2 hq)
  apply List.ext_getElem (by rw [softs_len, softs_len])
  intro j h1 h2
  rw [softs_len] at h1
  have e1 := softs_get L a hl hv j h1
  have e2 := softs_get L b (by rw [← h.length_eq]; exact hl) hv2 j h1
  rw [List.getD_eq_getElem?_getD, List.getElem?_eq_getElem (by rw [softs_len]; exact h1), Option.getD_some] at e1 e2
  rw [e1, e2, tot_perm j h]
theorem Chg.of_part {B : Nat} {w w' : World} (h : Below B w w') : Chg (fun k => B ≤ k) w w' := ⟨h.os, h.tape, h.output, h.size, fun k _ hn => h.block k (by omega)⟩
/-- The versions so far, the last one first. -/
def rsq (m : List Nat) (row : List (Bool × Int × List Int × List Int)) : Nat → List (Nat × List Nat)
  | 0 => []
  | k + 1 => rcv m row k :: rsq m row k
theorem rsq_len (m : List Nat) (row : List (Bool × Int × List Int × List Int)) : ∀ k, (rsq m row k).length = k
  | 0 => rfl
  | k + 1 => by unfold rsq; rw [List.length_cons, rsq_len m row k]
theorem rsq_lt (m : List Nat) (row : List (Bool × Int × List Int × List Int)) : ∀ k, ∀ q ∈ rsq m row k, q.1 < 4
  | 0, q, h => by simp [rsq] at h
  | k + 1, q, h => by
    unfold rsq at h
    rcases List.mem_cons.1 h with rfl | h
    · exact cv13_lt _
    · exact rsq_lt m row k q h
theorem rsq_perm (m : List Nat) (row : List (Bool × Int × List Int × List Int)) : ∀ k, (rsq m row k).Perm ((List.range k).map (rcv m row))
  | 0 => .nil
  | k + 1 => by
    rw [List.range_succ, List.map_append]
    unfold rsq
    exact ((rsq_perm m row k).cons _).trans (List.perm_append_singleton _ _).symm
end Go.Proofs.YtnejnnfjbhpigaaDoor.Vit

namespace Go.Proofs.YtnejnnfjbhpigaaDoor.Vit
open Go.RowKit Go.Proofs.YtnejnnfjbhpigaaDoorW.PrintWords Go.Proofs.YtnejnnfjbhpigaaDoorW.PrintLast Go.Proofs.YtnejnnfjbhpigaaDoorW.PrintMore Go.Proofs.YtnejnnfjbhpigaaDoor.Mem
attribute [local go_sem] max2_int min2_int max_two min_two max_three min_three max_four min_four   -- for this text's walks alone
set_option linter.unusedVariables false
set_option linter.unusedSimpArgs false

theorem R_chg {k : IntKind} {e : Nat} {S ok : Nat → Prop} {w w' : World} {base : Nat} {v : Value} {xs : List Int} (h : (Kd.int k).R e w base ok v xs) (hc : Chg S w w') (hS : ∀ b, ok b → ¬ S b) : (Kd.int k).R e w' base ok v xs :=
  Kd.R_step h (fun b hb hl => hc.block b hl (hS b hb))
/-- Both buffers, behind what came. -/
structure Two (m : List Nat) (n b b2 : Nat) (A1 : Option Addr) (w wr : World) (ra rb : List (Nat × List Nat)) : Prop where
  one : IsBuf wr b (b + 1) n (softs (n + 6) ra) (fun i => cnt i ra)
  two : IsBuf wr b2 (b2 + 1) n (softs (n + 6) rb) (fun i => cnt i rb)
  list : (Kd.int .u8).C wr A1 n (ints m)
  below : Below w.heap.size w wr
theorem Two.chg {m : List Nat} {n b b2 : Nat} {A1 : Option Addr} {w wr w' : World} {ra rb : List (Nat × List Nat)} (h : Two m n b b2 A1 w wr ra rb) (hA : ∀ ad, A1 = some ad → ad.block < b) (hw : w.heap.size ≤ b) (hb : b + 2 ≤ b2) {S : Nat → Prop} (hc : Chg S wr w') (hS : ∀ i, S i → b2 + 2 ≤ i) : Two m n b b2 A1 w w' ra rb :=
  ⟨h.one.chg hc (fun e => by have := hS _ e; omega) (fun e => by have := hS _ e; omega), h.two.chg hc (fun e => by have := hS _ e; omega) (fun e => by have := hS _ e; omega),
    C_chg h.list hc (fun ad had e => by have := hS _ e; have := hA ad had; omega), h.below.trans (hc.below h.below.size (fun i hi => by have := hS i hi; omega))⟩
theorem Two.full {m : List Nat} {n b b2 : Nat} {A1 : Option Addr} {w wr w' : World} {ra rb : List (Nat × List Nat)} (h : Two m n b b2 A1 w wr ra rb) (hB : Below wr.heap.size wr w') : Two m n b b2 A1 w w' ra rb :=
  ⟨h.one.below hB, h.two.below hB, Kd.C_below h.list hB, h.below.trans (hB.mono h.below.size)⟩
/-- A version comes to the first buffer, or to the second one. -/
theorem Two.addA {m : List Nat} {n b b2 v : Nat} {p : List Nat} {A1 : Option Addr} {w wr w' : World} {ra rb : List (Nat × List Nat)} (h : Two m n b b2 A1 w wr ra rb) (hA : ∀ ad, A1 = some ad → ad.block < b) (hw : w.heap.size ≤ b) (hb : b + 2 ≤ b2)
    (hI : IsBuf w' b (b + 1) n (addv (softs (n + 6) ra) v p (n + 6)) (bump (fun i => cnt i ra) v)) (hc : Chg (fun k => k = b ∨ k = b + 1) wr w') : Two m n b b2 A1 w w' ((v, p) :: ra) rb :=
  ⟨by rw [bump_cnt] at hI; exact hI, h.two.chg hc (by omega) (by omega), C_chg h.list hc (fun ad had e => by have := hA ad had; omega), h.below.trans (hc.below h.below.size (fun i hi => by omega))⟩
theorem Two.addB {m : List Nat} {n b b2 v : Nat} {p : List Nat} {A1 : Option Addr} {w wr w' : World} {ra rb : List (Nat × List Nat)} (h : Two m n b b2 A1 w wr ra rb) (hA : ∀ ad, A1 = some ad → ad.block < b) (hw : w.heap.size ≤ b) (hb : b + 2 ≤ b2)
    (hI : IsBuf w' b2 (b2 + 1) n (addv (softs (n + 6) rb) v p (n + 6)) (bump (fun i => cnt i rb) v)) (hc : Chg (fun k => k = b2 ∨ k = b2 + 1) wr w') : Two m n b b2 A1 w w' ra ((v, p) :: rb) :=
  ⟨h.one.chg hc (by omega) (by omega), by rw [bump_cnt] at hI; exact hI, C_chg h.list hc (fun ad had e => by have := hA ad had; omega), h.below.trans (hc.below h.below.size (fun i hi => by omega))⟩
def lenV : Value → Nat
  | .slice _ l _ => l
  | _ => 0
theorem C_tail {k : IntKind} {w : World} {b o n c : Nat} {xs : List Int} (h : (Kd.int k).C w (some ⟨b, o, none⟩) n xs) (hc : n ≤ c) (j : Nat) (hj : j ≤ n) : (Kd.int k).C w (if c = j then some ⟨b, o, none⟩ else some ⟨b, o + j, none⟩) (n - j) (xs.drop j) := by
  have hl := Kd.C_len h
  by_cases h0 : n - j = 0
  · exact ⟨by rw [List.length_drop]; omega, by omega, fun hp => by omega⟩
  · rw [if_neg (by omega)]
    have hx : (xs.drop j).length = n - j := by rw [List.length_drop, hl]
    rw [← hx]
    obtain ⟨b', o', hA, hcell⟩ := row_formK h (by omega)
    injection hA with hA
    injection hA with h1 h2 h3
    subst h1 h2
    refine C_cells (xs.drop j) (by have := h.2.1; rw [hx]; omega) (fun i p hp => ?_)
    rw [List.getElem?_drop] at hp
    have hi : j + i < n := by
      have := (List.getElem?_eq_some_iff.1 hp).1
      omega
    have h4 := hcell (j + i) hi
    rw [List.getD_eq_getElem?_getD, hp, Option.getD_some] at h4
    rw [Nat.add_assoc]
    exact h4
/-- Numbers as a row. -/
def idx (l : List Nat) : List Int := l.map fun n : Nat => (n : Int)
theorem idx_len (l : List Nat) : (idx l).length = l.length := by simp [idx]
theorem idx_cut (lf : List Nat) (K : Nat) : idx (lf.take K ++ lf.drop (K + 1)) = ([] ++ (idx lf).take K) ++ (idx lf).drop (K + 1) := by
  unfold idx
  rw [List.map_append, List.map_take, List.map_drop, List.nil_append]
theorem cut_perm {tk lf : List Nat} {k K x : Nat} (h : (tk ++ lf).Perm (List.range k)) (hK : K < lf.length) (hx : lf.getD K 0 = x) : ((x :: tk) ++ (lf.take K ++ lf.drop (K + 1))).Perm (List.range k) := by
  refine .trans ?_ h
  have e : lf = lf.take K ++ x :: lf.drop (K + 1) := by
    rw [← hx, List.getD_eq_getElem?_getD, List.getElem?_eq_getElem hK, Option.getD_some, ← List.drop_eq_getElem_cons hK, List.take_append_drop]
  conv => rhs; rw [e]
  rw [← List.append_assoc tk]
  refine .trans ?_ (List.perm_middle.symm)
  rw [List.cons_append, ← List.append_assoc]
end Go.Proofs.YtnejnnfjbhpigaaDoor.Vit
