/- Contracts of the decoder (Decode): each theorem says its own conditions. -/
import Derived.Test.YtnejnnfjbhpigaaDoorVf
namespace Go.Proofs.YtnejnnfjbhpigaaDoor.Vit
open Go.RowKit Go.Proofs.YtnejnnfjbhpigaaDoorW.PrintWords Go.Proofs.YtnejnnfjbhpigaaDoorW.PrintLast Go.Proofs.YtnejnnfjbhpigaaDoorW.PrintMore Go.Proofs.YtnejnnfjbhpigaaDoor.Mem
attribute [local go_sem] max2_int min2_int max_two min_two max_three min_three max_four min_four   -- for this text's walks alone
set_option linter.unusedVariables false
set_option linter.unusedSimpArgs false

theorem Steps_zero (w : World) : Calls Tryd.prog 77 #[.int .i64 0] w fun e w' => e = .returned (.int .i64 6) ∧ ∃ q, w' = w.drewN q := by
  go_enter Tryd.func77, Tryd.ntmps77
  go_wp2_with fail
  go_ret
  exact ⟨rfl, 0, rfl⟩
/-- A row of numbers that is not empty: where it lies. -/
theorem row_form {xs : List Int} {A : Option Addr} {n : Nat} {w : World} (hC : (Kd.int .i64).C w A n xs) (hn : 0 < n) :
    ∃ b o, A = some ⟨b, o, none⟩ ∧ ∀ j, j < n → w.cell? ⟨b, o + j, none⟩ = some (.int .i64 (xs.getD j 0)) := by
  obtain ⟨ad, hA, h0⟩ := Kd.at_int hC 0 (by omega) (by omega)
  obtain ⟨b, o, sp⟩ := ad
  have hsp : sp = none := by
    cases sp with
    | none => rfl
    | some q =>
      have h0' : w.cell? ⟨b, o, some q⟩ = some (.int .i64 (rd xs 0)) := h0
      unfold World.cell? at h0'
      split at h0' <;> simp_all
  subst hsp
  refine ⟨b, o, hA, fun j hj => ?_⟩
  obtain ⟨ad2, hA2, h2⟩ := Kd.at_int hC (j : Int) (by omega) (by omega)
  rw [hA] at hA2
  cases hA2
  rw [Int.toNat_natCast] at h2
  have e : (⟨b, o, none⟩ : Addr).add j = ⟨b, o + j, none⟩ := by
    unfold Addr.add
    split <;> simp_all
  rw [e] at h2
  exact h2
/-- The decoder's answer: the list, its score, the error's number. -/
def decOf (xs : List Int) : List Int × Int × Int :=
  if xs.length % 4 ≠ 0 ∨ xs.length < 24 ∨ 16408 < xs.length then ([], 0, 1)
  else if ∃ x ∈ xs, x ≠ clip x then ([], 0, 5)
  else (way (fun j => xs.getD j 0) (xs.length / 4 - 6) (xs.length / 4) (xs.length / 4 - 6), cv (fun j => xs.getD j 0) (xs.length / 4 - 6) (xs.length / 4) 0 0, 0)

set_option maxHeartbeats 3200000 in
set_option maxRecDepth 100000 in
theorem Decode_any (xs : List Int) (A : Option Addr) (c : Nat) (w : World) (hC : (Kd.int .i64).C w A xs.length xs) (hc : xs.length ≤ c) (hn : xs.length ≤ 140737488355328) (ht : Taps w) :
    Calls Tryd.prog 56 #[.slice A xs.length c] w fun e w' =>
      ∃ v, e = .returned (.tuple #[v, .int .i64 (decOf xs).2.1, .int .i64 (decOf xs).2.2]) ∧ (Kd.int .u8).R 5 w' w.heap.size (fun _ => True) v (decOf xs).1 ∧ Below w.heap.size w w' := by
  have HI := Aside0.mk (fun W (hW : (Kd.int .i64).C W A xs.length xs) => ContainsFunc_any xs A c W hW hc hn)
  have HC := Aside0.mk (And.intro hC ht)
  obtain ⟨D, hD⟩ : ∃ D, decOf xs = D := ⟨_, rfl⟩
  have HD := Aside0.mk hD
  rw [hD]
  clear hC hD
  have q1 : (xs.length : Int).tdiv 4 = ((xs.length / 4 : Nat) : Int) := by rw [Int.tdiv_eq_ediv_of_nonneg (by omega)]; omega
  have q2 : (xs.length : Int).tmod 4 = ((xs.length % 4 : Nat) : Int) := by rw [Int.tmod_eq_emod_of_nonneg (by omega)]; omega
  obtain ⟨L, hL⟩ : ∃ L, xs.length = L := ⟨_, rfl⟩
  have HL := Aside0.mk hL
  rw [hL] at q1 q2 hc hn HI HC
  rw [hL]
  clear hL
  obtain ⟨s, hs⟩ : ∃ s, L / 4 = s := ⟨_, rfl⟩
  obtain ⟨m, hm⟩ : ∃ m, L % 4 = m := ⟨_, rfl⟩
  have q3 : wrap64 (s : Int) = (s : Int) := by unfold wrap64; omega
  have q4 : wrap64 ((s : Int) - 6) = (s : Int) - 6 := by unfold wrap64; omega
  rw [hs] at q1
  rw [hm] at q2
  have HS := Aside0.mk (And.intro hs hm)
  clear hs hm
  by_cases c1 : m = 0
  · subst c1
    by_cases c2 : s < 6
    · obtain rfl : D = ([], 0, 1) := by rw [← HD.out]; unfold decOf; rw [if_pos]; have := HS.out; have := HL.out; omega
      have c2' : (s : Int) - 6 < 0 := by omega
      go_enter Tryd.func56, Tryd.ntmps56
      go_wp2_with (first | (go_at_call 77; refine (Steps_zero _).mono ?_; rintro e w1 ⟨rfl, q0, rfl⟩))
      go_ret3
      exact ⟨_, rfl, Kd.R_nil _ _ _ _ _, pw_below_drewN (Below.refl _ _) _⟩
    · have c2' : ¬ (s : Int) - 6 < 0 := by omega
      by_cases c3 : 4102 < s
      · obtain rfl : D = ([], 0, 1) := by rw [← HD.out]; unfold decOf; rw [if_pos]; have := HS.out; have := HL.out; omega
        have c3' : 4096 < (s : Int) - 6 := by omega
        go_enter Tryd.func56, Tryd.ntmps56
        go_wp2_with (first | (go_at_call 77; refine (Steps_zero _).mono ?_; rintro e w1 ⟨rfl, q0, rfl⟩))
        go_ret3
        exact ⟨_, rfl, Kd.R_nil _ _ _ _ _, pw_below_drewN (Below.refl _ _) _⟩
      · have c3' : ¬ 4096 < (s : Int) - 6 := by omega
        by_cases c4 : ∃ x ∈ xs, x ≠ clip x
        · obtain rfl : D = ([], 0, 5) := by rw [← HD.out]; unfold decOf; rw [if_neg (by have := HS.out; have := HL.out; omega), if_pos c4]
          have hd : decide (∃ x ∈ xs, x ≠ clip x) = true := decide_eq_true c4
          have HI2 := HI.out
          rw [hd] at HI2
          have HI3 := Aside0.mk HI2
          clear HI HI2 hd c4
          go_enter Tryd.func56, Tryd.ntmps56
          go_wp2_with (first | (go_at_call 77; refine (Steps_zero _).mono ?_; rintro e w1 ⟨rfl, q0, rfl⟩) | (go_at_call 83; refine (HI3.out _ (Kd.C_drewN HC.out.1 _)).mono ?_; rintro e w2 ⟨rfl, q9, rfl⟩))
          go_ret3
          exact ⟨_, rfl, Kd.R_nil _ _ _ _ _, pw_below_drewN (Below.refl _ _) _⟩
        · have hd : decide (∃ x ∈ xs, x ≠ clip x) = false := decide_eq_false c4
          have HI2 := HI.out
          rw [hd] at HI2
          have HI3 := Aside0.mk HI2
          obtain ⟨N, hN⟩ : ∃ N, s = N + 6 := ⟨s - 6, by omega⟩
          have q1' : (L : Int).tdiv 4 = (N : Int) + 6 := by rw [q1]; omega
          have q3' : wrap64 ((N : Int) + 6) = (N : Int) + 6 := by unfold wrap64; omega
          have q4' : wrap64 (N : Int) = (N : Int) := by unfold wrap64; omega
          have c2'' : ¬ (N : Int) < 0 := by omega
          have c3'' : ¬ 4096 < (N : Int) := by omega
          obtain ⟨lb, lo, hA, hcell⟩ := row_form HC.out.1 (by have := HS.out; omega)
          subst hA
          obtain ⟨f, hf⟩ : ∃ f : Nat → Int, (fun j => xs.getD j 0) = f := ⟨_, rfl⟩
          have hfx : ∀ j, xs.getD j 0 = f j := fun j => congrFun hf j
          have hin : ∀ j, -1000 ≤ f j ∧ f j ≤ 1000 := by
            intro j
            rw [← hfx]
            by_cases hj : j < xs.length
            · have hm : xs.getD j 0 ∈ xs := by rw [List.getD_eq_getElem?_getD, List.getElem?_eq_getElem hj]; exact List.getElem_mem hj
              have h1 : xs.getD j 0 = clip (xs.getD j 0) := Classical.byContradiction fun h => c4 ⟨_, hm, h⟩
              rw [h1]
              unfold clip
              omega
            · rw [List.getD_eq_getElem?_getD, List.getElem?_eq_none (by omega)]
              exact ⟨by decide, by decide⟩
          obtain rfl : D = (way f N s N, cv f N s 0 0, 0) := by
            rw [← HD.out]; unfold decOf; rw [if_neg (by have := HS.out; have := HL.out; omega), if_neg c4, hf, HL.out, HS.out.1, hN]; rfl
          have H4 := Aside0.mk (And.intro hin (And.intro (fun j (hj : j < 4 * s) => (hcell j (by have := HS.out; omega)).trans (by rw [hfx])) (And.intro hN (show L = 4 * s by have := HS.out; omega))))
          clear HI HI2 hd c4 q1 q3 q4 c2' c3' hN hcell hin hf hfx
          go_enter Tryd.func56, Tryd.ntmps56
          go_upto_region 6 with (first | (go_at_call 77; refine (Steps_zero _).mono ?_; rintro e w1 ⟨rfl, q0, rfl⟩) | (go_at_call 83; refine (HI3.out _ (Kd.C_drewN HC.out.1 _)).mono ?_; rintro e w2 ⟨rfl, q9, rfl⟩))
          have HT := HC.out.2.below (pw_below_drewN (Below.refl w.heap.size w) (q0 + q9))
          refine wp_region_lit ?_
          refine wpList_step (fun K hK => ?_)
          go_simp
          go_at_call 85
          refine (build_any _ HT).mono ?_
          rintro e w1 ⟨G, rfl, hG, hB1⟩
          have HB1 := Aside0.mk (And.intro hG hB1)
          clear hG hB1
          refine hK _ _ ?_
          clear hK K
          refine wpList_plain rfl (fun _ hK => ?_)
          go_simp
          refine hK _ _ ?_
          clear hK
          refine wpList_plain rfl (fun _ hK => ?_)
          go_simp
          refine hK _ _ ?_
          clear hK
          refine wpList_plain rfl (fun _ hK => ?_)
          go_simp
          refine hK _ _ ?_
          clear hK
          refine wpList_plain rfl (fun _ hK => ?_)
          go_simp
          refine hK _ _ ?_
          clear hK
          have hG1 := HB1.out.1.1
          have hG2 := HB1.out.1.one
          have hth : (w1.alloc (.cells Tryd.zeroCells123 123)).there w1.heap.size 0 G.size := there_of_row (heap_alloc_new w1 _) (by rw [hG1]; exact Nat.le_of_eq zero76.symm)
          refine wpList_store_mid rfl 123 _ _ rfl w1.heap.size 0 G rfl rfl hth (by rw [hG1]; exact info76) hG2 ?_
          clear hth
          refine wpList_plain rfl (fun _ hK => ?_)
          go_simp
          refine hK _ _ ?_
          clear hK
          refine wpList_nil ?_
          obtain ⟨W, hW⟩ : ∃ W, (World.setCells (w1.alloc (.cells Tryd.zeroCells123 123)) w1.heap.size 0 G.toList) = W := ⟨_, rfl⟩
          change Exit.then _ _ .normal _ (World.setCells (w1.alloc (.cells Tryd.zeroCells123 123)) w1.heap.size 0 G.toList)
          rw [hW]
          have hWG : W.heap[w1.heap.size]? = some (.cells G 123 (0, 0)) := by
            obtain ⟨A', h1, h2, h3⟩ := setCells_row G.toList 0 (w1.alloc (.cells Tryd.zeroCells123 123)) _ (heap_alloc_new w1 _) (by rw [Array.length_toList, hG1, zero76]; omega)
            have hAA : A' = G := by
              apply Array.toList_inj.1
              rw [h3]
              simp only [List.take_zero, List.nil_append, Nat.zero_add]
              rw [List.drop_of_length_le (by rw [Array.length_toList, Array.length_toList, hG1, zero76]; exact Nat.le_refl _), List.append_nil]
            rw [← hW]
            rw [hAA] at h1
            exact h1
          have hBW : Below w.heap.size w W := by
            rw [← hW]
            exact below_setCells (HB1.out.2.size) _ _ _ ((pw_below_drewN (Below.refl _ _) _).trans (below_alloc (HB1.out.2) _))
          have HW := Aside0.mk (And.intro hWG hBW)
          clear hW hWG hBW hG1 hG2
          go_upto_region 9 with fail
          have HC3 := Aside0.mk (columns_any f H4.out.1 N s L lb lo c w1.heap.size G H4.out.2.2.2 hc (by have := H4.out.2.2.1; omega) (by have := H4.out.2.2.1; omega) W (fun j hj => below_cell HW.out.2 (H4.out.2.1 j hj)) HW.out.1 HB1.out.1)
          go_upto_region 10 with (go_at_call 86; refine HC3.out.mono ?_; rintro e w3 ⟨A, rfl, hA3, hM3, hB3⟩; have H3 := Aside0.mk (And.intro hA3 (And.intro hM3 hB3)); clear hA3 hM3 hB3)
          obtain ⟨C0, hC0⟩ : ∃ C0, cv f N s 0 0 = C0 := ⟨_, rfl⟩
          obtain ⟨WY, hWY⟩ : ∃ WY, way f N s N = WY := ⟨_, rfl⟩
          have hb3 : Below W.heap.size W w3.drew := pw_below_drewN H3.out.2.2 1
          have k0 : w3.drew.cell? ⟨W.heap.size, 0, none⟩ = some (.int .i64 C0) := by
            rw [← hC0]
            exact col_cell (t := 0) (k := 0) (w := w3) (cb := W.heap.size) (steps := s) (n := N) (f := f) H3.out.1 H3.out.2.1 (pw_below_drewN (Below.refl _ _) 1) (by have := H4.out.2.2.1; omega) (by omega)
          have hc4 := trace_any f H4.out.1 N s L lb lo c w1.heap.size W.heap.size G A H4.out.2.2.2 hc (by have := H4.out.2.2.1; omega) (by have := H4.out.2.2.1; omega) w3.drew (fun j hj => below_cell hb3 (below_cell HW.out.2 (H4.out.2.1 j hj))) (below_cell_blk hb3 HW.out.1) HB1.out.1 H3.out.1 H3.out.2.1
          have hbw : Below w.heap.size w w3.drew := HW.out.2.trans (hb3.mono HW.out.2.size)
          rw [hWY] at hc4
          have HC0 := Aside0.mk (And.intro hC0 hWY)
          have HC4 := Aside0.mk (And.intro hc4 hbw)
          clear hc4 hb3 hC0 hWY hbw
          have hs1 : (0 : Int) < (s : Int) + 1 := by omega
          go_region_held3 (fun w' => w'.cell? ⟨W.heap.size, 0, none⟩ = some (.int .i64 C0)) (first | go_keep) (first | (go_at_call 87; refine HC4.out.1.mono ?_; rintro e w4 ⟨v, rfl, hR4, hB4⟩; have k2 := below_cell hB4 k0; have H5 := Aside0.mk (And.intro hR4 hB4); clear hR4 hB4))
          all_goals go_wp2_with fail
          all_goals go_ret3
          all_goals (refine ⟨v, ?_, ?_, ?_⟩)
          · show Ending.returned (.tuple #[v, .int .i64 C0, .int .i64 0]) = _
            rw [HC0.out.1]
          · show (Kd.int .u8).R 5 w4 w.heap.size (fun x => True) v (way f N s N)
            rw [HC0.out.2]
            exact Kd.R_lower H5.out.1 HC4.out.2.size
          · exact HC4.out.2.trans (H5.out.2.mono HC4.out.2.size)
  · obtain rfl : D = ([], 0, 1) := by rw [← HD.out]; unfold decOf; rw [if_pos]; have := HS.out; have := HL.out; omega
    have c1' : ((m : Int) != 0) = true := by simpa using c1
    go_enter Tryd.func56, Tryd.ntmps56
    go_wp2_with (first | (go_at_call 77; refine (Steps_zero _).mono ?_; rintro e w1 ⟨rfl, q0, rfl⟩))
    all_goals go_ret3
    all_goals exact ⟨_, rfl, Kd.R_nil _ _ _ _ _, pw_below_drewN (Below.refl _ _) _⟩
end Go.Proofs.YtnejnnfjbhpigaaDoor.Vit

namespace Go.Proofs.YtnejnnfjbhpigaaDoor.Vit
set_option linter.unusedVariables false
set_option linter.unusedSimpArgs false

/-- What a list of bits scores from a state on, at a step. -/
def ps (f : Nat → Int) : Nat → Nat → List Nat → Int
  | _, _, [] => 0
  | t, s, b :: l => ge f t s b + ps f (t + 1) ((s + 64 * b) / 2) l
/-- So many noughts. -/
def zs (r : Nat) : List Nat := List.replicate r 0
/-- Bits alone. -/
def Bits (l : List Nat) : Prop := ∀ b ∈ l, b ≤ 1
/-- The number that bits tell, the first one most. -/
def num : List Nat → Nat
  | [] => 0
  | b :: l => b * 2 ^ l.length + num l
theorem num_lt : ∀ {l : List Nat}, Bits l → num l < 2 ^ l.length
  | [], _ => by simp [num]
  | b :: l, h => by
    have h1 := num_lt (l := l) (fun x hx => h x (List.mem_cons_of_mem _ hx))
    have h2 := h b List.mem_cons_self
    show b * 2 ^ l.length + num l < 2 ^ (l.length + 1)
    rw [Nat.pow_succ]
    rcases Nat.le_one_iff_eq_zero_or_eq_one.1 h2 with rfl | rfl <;> omega

theorem ge_in {f : Nat → Int} (hf : ∀ j, -1000 ≤ f j ∧ f j ≤ 1000) (t s i : Nat) : -4000 ≤ ge f t s i ∧ ge f t s i ≤ 4000 := gn_in _ _ _ _ _ _ _ _ (hf _) (hf _) (hf _) (hf _)
theorem ps_in {f : Nat → Int} (hf : ∀ j, -1000 ≤ f j ∧ f j ≤ 1000) : ∀ (l : List Nat) (t s : Nat), -(4000 * (l.length : Int)) ≤ ps f t s l ∧ ps f t s l ≤ 4000 * (l.length : Int)
  | [], t, s => by simp [ps]
  | b :: l, t, s => by
    have h1 := ge_in hf t s b
    have h2 := ps_in hf l (t + 1) ((s + 64 * b) / 2)
    show -(4000 * (((b :: l).length : Nat) : Int)) ≤ ge f t s b + ps f (t + 1) ((s + 64 * b) / 2) l ∧ ge f t s b + ps f (t + 1) ((s + 64 * b) / 2) l ≤ 4000 * (((b :: l).length : Nat) : Int)
    rw [List.length_cons]
    push_cast
    omega
theorem n40 : none40 = -1099511627776 := rfl

/-- Behind the bits: noughts alone. -/
theorem cv_tail {f : Nat → Int} (hf : ∀ j, -1000 ≤ f j ∧ f j ≤ 1000) {n steps : Nat} (hs : steps ≤ 4102) : ∀ (r t s : Nat), t + r = steps → n ≤ t →
    cv f n steps t s = if s < 2 ^ r then ps f t s (zs r) else none40
  | 0, t, s, h, hn => by
    obtain rfl : t = steps := by omega
    unfold cv
    rw [Nat.sub_self]
    unfold colv
    by_cases h0 : s = 0
    · subst h0; simp [zs, ps]
    · rw [if_neg h0, if_neg (by simp; omega)]
  | r + 1, t, s, h, hn => by
    rw [cv_one (by omega) hn, cv_tail hf hs r (t + 1) (s / 2) (by omega) (by omega)]
    have hb := ps_in hf (zs r) (t + 1) (s / 2)
    have hg := ge_in hf t s 0
    have hl : (zs r).length = r := by simp [zs]
    rw [hl] at hb
    have h40 := n40
    by_cases hlt : s < 2 ^ (r + 1)
    · rw [if_pos hlt, if_pos (by rw [Nat.pow_succ] at hlt; omega), stp_some (by omega)]
      have e : ps f t s (zs (r + 1)) = ge f t s 0 + ps f (t + 1) (s / 2) (zs r) := by
        show ge f t s 0 + ps f (t + 1) ((s + 64 * 0) / 2) (zs r) = _
        rw [show (s + 64 * 0) / 2 = s / 2 by omega]
      rw [e]
      omega
    · rw [if_neg hlt, if_neg (by rw [Nat.pow_succ] at hlt; omega), stp_none rfl]

/-- The best way's bits from a state on. -/
def bw (f : Nat → Int) (n steps : Nat) : Nat → Nat → Nat → List Nat
  | 0, _, _ => []
  | r + 1, t, s => pick f n steps t s :: bw f n steps r (t + 1) ((s + 64 * pick f n steps t s) / 2)
theorem bw_len (f : Nat → Int) (n steps : Nat) : ∀ r t s, (bw f n steps r t s).length = r
  | 0, _, _ => rfl
  | r + 1, t, s => by unfold bw; rw [List.length_cons, bw_len f n steps r]
theorem bw_bits (f : Nat → Int) (n steps : Nat) : ∀ r t s, Bits (bw f n steps r t s)
  | 0, _, _ => fun b hb => by simp [bw] at hb
  | r + 1, t, s => by
    intro b hb
    unfold bw at hb
    rcases List.mem_cons.1 hb with rfl | h
    · exact pick_le _ _ _ _ _
    · exact bw_bits f n steps r _ _ b h
theorem way_bw (f : Nat → Int) (n steps : Nat) : ∀ k, k ≤ n → way f n steps k ++ (bw f n steps (n - k) k (sta f n steps k)).map (fun b : Nat => (b : Int)) = (bw f n steps n 0 0).map (fun b : Nat => (b : Int))
  | 0, _ => by
    show [] ++ _ = _
    rw [List.nil_append]
    rfl
  | k + 1, hk => by
    rw [← way_bw f n steps k (by omega), way_next, List.append_assoc]
    congr 1
    rw [show n - k = (n - (k + 1)) + 1 by omega]
    rfl
theorem way_is (f : Nat → Int) (n steps : Nat) : way f n steps n = (bw f n steps n 0 0).map (fun b : Nat => (b : Int)) := by
  have h := way_bw f n steps n (Nat.le_refl _)
  rw [Nat.sub_self] at h
  show way f n steps n = _
  rw [← h]
  simp [bw]

theorem half_lt {s b : Nat} (hs : s < 64) (hb : b ≤ 1) : (s + 64 * b) / 2 < 64 := by omega

/-- The best of all: no list of bits scores more; the best way scores so much; of several it is the least. -/
theorem cv_best {f : Nat → Int} (hf : ∀ j, -1000 ≤ f j ∧ f j ≤ 1000) {n : Nat} (hn : n ≤ 4096) : ∀ (r t s : Nat), t + r = n → s < 64 →
    (∀ l : List Nat, l.length = r → Bits l → ps f t s (l ++ zs 6) ≤ cv f n (n + 6) t s) ∧
    ps f t s (bw f n (n + 6) r t s ++ zs 6) = cv f n (n + 6) t s ∧ cv f n (n + 6) t s ≠ none40 ∧
    ∀ l : List Nat, l.length = r → Bits l → ps f t s (l ++ zs 6) = cv f n (n + 6) t s → num (bw f n (n + 6) r t s) ≤ num l
  | 0, t, s, h, hs => by
    obtain rfl : t = n := by omega
    have e := cv_tail hf (n := t) (steps := t + 6) (by omega) 6 t s rfl (Nat.le_refl _)
    rw [if_pos (by omega)] at e
    have hb := ps_in hf (zs 6) t s
    have hl : (zs 6).length = 6 := by simp [zs]
    have h40 := n40
    rw [hl] at hb
    refine ⟨fun l hl _ => ?_, ?_, ?_, fun l hl _ _ => ?_⟩
    · obtain rfl := List.length_eq_zero_iff.1 hl
      rw [e]; exact Int.le_refl _
    · rw [e]; rfl
    · rw [e]; omega
    · simp [bw, num]
  | r + 1, t, s, h, hs => by
    have h2 := cv_two (f := f) (n := n) (steps := n + 6) (t := t) (k := s) (by omega) (by omega)
    obtain ⟨a0, b0, c0, d0⟩ := cv_best hf hn r (t + 1) ((s + 64 * 0) / 2) (by omega) (half_lt hs (by omega))
    obtain ⟨a1, b1, c1, d1⟩ := cv_best hf hn r (t + 1) ((s + 64 * 1) / 2) (by omega) (half_lt hs (by omega))
    have e0 : (s + 64 * 0) / 2 = s / 2 := by omega
    have e1 : (s + 64 * 1) / 2 = (s + 64) / 2 := by omega
    have g0 := ge_in hf t s 0
    have g1 := ge_in hf t s 1
    have i0 := cv_in (n := n) (u := t + 1) (s := s / 2) hf (show n + 6 ≤ 4102 by omega)
    have i1 := cv_in (n := n) (u := t + 1) (s := (s + 64) / 2) hf (show n + 6 ≤ 4102 by omega)
    have h40 := n40
    rw [e0] at c0
    rw [e1] at c1
    replace i0 := i0.resolve_left c0
    replace i1 := i1.resolve_left c1
    have hp : stp none40 (ge f t s 0) (cv f n (n + 6) (t + 1) (s / 2)) = ge f t s 0 + cv f n (n + 6) (t + 1) (s / 2) := by
      rw [stp_some c0]; omega
    rw [hp, stp_some c1] at h2
    have hpk : pick f n (n + 6) t s = if ge f t s 0 + cv f n (n + 6) (t + 1) (s / 2) = cv f n (n + 6) t s then 0 else 1 := by
      unfold pick; rw [hp]
    refine ⟨fun l hl hb => ?_, ?_, by omega, fun l hl hb he => ?_⟩
    · cases l with
      | nil => simp at hl
      | cons b l =>
        have hl' : l.length = r := by simpa using hl
        have hb' : Bits l := fun x hx => hb x (List.mem_cons_of_mem _ hx)
        show ge f t s b + ps f (t + 1) ((s + 64 * b) / 2) (l ++ zs 6) ≤ _
        rcases Nat.le_one_iff_eq_zero_or_eq_one.1 (hb b List.mem_cons_self) with rfl | rfl
        · have := a0 l hl' hb'
          rw [e0] at this ⊢
          omega
        · have := a1 l hl' hb'
          rw [e1] at this ⊢
          omega
    · show ge f t s (pick f n (n + 6) t s) + ps f (t + 1) ((s + 64 * pick f n (n + 6) t s) / 2) (bw f n (n + 6) r (t + 1) ((s + 64 * pick f n (n + 6) t s) / 2) ++ zs 6) = _
      rw [hpk]
      split
      · rename_i hq
        rw [b0, e0, hq]
      · rename_i hq
        rw [b1, e1]
        omega
    · cases l with
      | nil => simp at hl
      | cons b l =>
        have hl' : l.length = r := by simpa using hl
        have hb' : Bits l := fun x hx => hb x (List.mem_cons_of_mem _ hx)
        have he' : ge f t s b + ps f (t + 1) ((s + 64 * b) / 2) (l ++ zs 6) = cv f n (n + 6) t s := he
        have hbb := num_lt (bw_bits f n (n + 6) r (t + 1) ((s + 64 * 0) / 2))
        rw [bw_len] at hbb
        show pick f n (n + 6) t s * 2 ^ (bw f n (n + 6) r (t + 1) ((s + 64 * pick f n (n + 6) t s) / 2)).length + num (bw f n (n + 6) r (t + 1) ((s + 64 * pick f n (n + 6) t s) / 2)) ≤ b * 2 ^ l.length + num l
        rw [bw_len, hl', hpk]
        rcases Nat.le_one_iff_eq_zero_or_eq_one.1 (hb b List.mem_cons_self) with rfl | rfl
        · have h3 := a0 l hl' hb'
          rw [e0] at h3 he'
          rw [if_pos (by omega)]
          have := d0 l hl' hb' (by rw [e0]; omega)
          omega
        · rw [e1] at he'
          split
          · omega
          · have := d1 l hl' hb' (by rw [e1]; omega)
            omega
end Go.Proofs.YtnejnnfjbhpigaaDoor.Vit

namespace Go.Proofs.YtnejnnfjbhpigaaDoor.Vit
set_option linter.unusedVariables false
set_option linter.unusedSimpArgs false

/-- The code of a list from a state on. -/
def pcode : Nat → List Nat → List Nat
  | _, [] => []
  | s, b :: l => ob (s + 64 * b) 0 :: ob (s + 64 * b) 1 :: ob (s + 64 * b) 2 :: ob (s + 64 * b) 3 :: pcode ((s + 64 * b) / 2) l
theorem pcode_len : ∀ (l : List Nat) (s : Nat), (pcode s l).length = 4 * l.length
  | [], _ => rfl
  | b :: l, s => by
    unfold pcode
    simp only [List.length_cons, pcode_len l]
    omega
theorem ob_le (x j : Nat) : ob x j ≤ 1 := by unfold ob; omega
theorem pcode_bits : ∀ (l : List Nat) (s : Nat), Bits (pcode s l)
  | [], _ => fun b hb => by simp [pcode] at hb
  | b :: l, s => by
    intro x hx
    unfold pcode at hx
    simp only [List.mem_cons] at hx
    rcases hx with rfl | rfl | rfl | rfl | h
    · exact ob_le _ _
    · exact ob_le _ _
    · exact ob_le _ _
    · exact ob_le _ _
    · exact pcode_bits l _ x h
/-- How bits go with numbers. -/
def sc : List Int → List Nat → Int
  | x :: xs, c :: cs => x * sg c + sc xs cs
  | _, _ => 0
theorem ps_sc (f : Nat → Int) : ∀ (l : List Nat) (t s : Nat) (xs : List Int), xs.length = 4 * l.length → (∀ j, xs.getD j 0 = f (4 * t + j) ∨ xs.length ≤ j) → ps f t s l = sc xs (pcode s l)
  | [], t, s, xs, h, _ => by
    obtain rfl : xs = [] := List.length_eq_zero_iff.1 (by simpa using h)
    rfl
  | b :: l, t, s, xs, h, hf => by
    rw [List.length_cons] at h
    match xs, h, hf with
    | x0 :: x1 :: x2 :: x3 :: xs, h, hf =>
      have h' : xs.length = 4 * l.length := by simp only [List.length_cons] at h; omega
      have g := fun j (hj : j < xs.length + 4) => (hf j).resolve_right (by simp only [List.length_cons]; omega)
      have g0 : x0 = f (4 * t) := g 0 (by omega)
      have g1 : x1 = f (4 * t + 1) := g 1 (by omega)
      have g2 : x2 = f (4 * t + 2) := g 2 (by omega)
      have g3 : x3 = f (4 * t + 3) := g 3 (by omega)
      have ih := ps_sc f l (t + 1) ((s + 64 * b) / 2) xs h' (fun j => by
        by_cases hj : j < xs.length
        · left
          have := g (j + 4) (by omega)
          rw [show 4 * (t + 1) + j = 4 * t + (j + 4) by omega, ← this]
          rfl
        · right; omega)
      show ge f t s b + ps f (t + 1) ((s + 64 * b) / 2) l = sc (x0 :: x1 :: x2 :: x3 :: xs) (ob (s + 64 * b) 0 :: ob (s + 64 * b) 1 :: ob (s + 64 * b) 2 :: ob (s + 64 * b) 3 :: pcode ((s + 64 * b) / 2) l)
      rw [ih]
      simp only [sc]
      unfold ge gn
      rw [g0, g1, g2, g3]
      omega
    | [], h, _ => exact absurd h (by first | (simp; done) | (simp; omega))
    | [_], h, _ => exact absurd h (by first | (simp; done) | (simp; omega))
    | [_, _], h, _ => exact absurd h (by first | (simp; done) | (simp; omega))
    | [_, _, _], h, _ => exact absurd h (by first | (simp; done) | (simp; omega))

/-- At how many places bits are unlike. -/
def apart : List Nat → List Nat → Nat
  | x :: xs, c :: cs => (if x = c then 0 else 1) + apart xs cs
  | _, _ => 0
theorem apart_self : ∀ l, apart l l = 0
  | [] => rfl
  | x :: l => by simp [apart, apart_self l]
theorem apart_comm : ∀ a b, apart a b = apart b a
  | [], [] => rfl
  | [], _ :: _ => rfl
  | _ :: _, [] => rfl
  | x :: a, y :: b => by
    simp only [apart, apart_comm a b]
    by_cases h : x = y
    · subst h; rfl
    · rw [if_neg h, if_neg (fun e => h e.symm)]
theorem apart_tri : ∀ a b c : List Nat, a.length = b.length → b.length = c.length → apart a c ≤ apart a b + apart b c
  | [], b, c, _, _ => by simp [apart]
  | x :: a, [], c, h, _ => by simp at h
  | x :: a, y :: b, [], _, h => by simp at h
  | x :: a, y :: b, z :: c, h1, h2 => by
    have := apart_tri a b c (by simpa using h1) (by simpa using h2)
    simp only [apart]
    by_cases h : x = y
    · subst h; rw [if_pos rfl]; omega
    · rw [if_neg h]
      split <;> split <;> omega
/-- What the bits of one list, as numbers, score with another. -/
theorem sc_sg : ∀ t c : List Nat, t.length = c.length → Bits t → Bits c → sc (t.map sg) c = (t.length : Int) - 2 * (apart t c : Int)
  | [], [], _, _, _ => by simp [sc, apart]
  | [], _ :: _, h, _, _ => by simp at h
  | _ :: _, [], h, _, _ => by simp at h
  | x :: t, y :: c, h, ht, hc => by
    have ih := sc_sg t c (by simpa using h) (fun b hb => ht b (List.mem_cons_of_mem _ hb)) (fun b hb => hc b (List.mem_cons_of_mem _ hb))
    have hx := ht x List.mem_cons_self
    have hy := hc y List.mem_cons_self
    simp only [List.map_cons, sc, apart, List.length_cons, ih]
    have e : sg x * sg y = if x = y then 1 else -1 := by
      rcases Nat.le_one_iff_eq_zero_or_eq_one.1 hx with rfl | rfl <;> rcases Nat.le_one_iff_eq_zero_or_eq_one.1 hy with rfl | rfl <;> rfl
    rw [e]
    split <;> push_cast <;> omega

/-- The least weight of a way home from a state. -/
def home (s : Nat) : Nat := [0, 4, 6, 6, 9, 7, 7, 9, 12, 10, 10, 8, 9, 9, 11, 11, 14, 14, 12, 12, 13, 11, 11, 9, 12, 10, 10, 12, 11, 11, 13, 13, 16, 16, 14, 14, 13, 13, 13, 13, 14, 12, 12, 14, 13, 13, 11, 11, 14, 14, 12, 12, 11, 13, 13, 15, 14, 12, 12, 14, 15, 15, 13, 13].getD s 0
theorem home_tab : (List.range 128).all (fun z => decide (home (z % 64) ≤ ob z 0 + ob z 1 + ob z 2 + ob z 3 + home (z / 2))) = true := by kernel_rfl
theorem home_step (z : Nat) (hz : z < 128) : home (z % 64) ≤ ob z 0 + ob z 1 + ob z 2 + ob z 3 + home (z / 2) := of_decide_eq_true (List.all_eq_true.1 home_tab z (List.mem_range.2 hz))
theorem home_64 : 12 ≤ ob 64 0 + ob 64 1 + ob 64 2 + ob 64 3 + home 32 := by decide +kernel

theorem pc_xor (u v : Nat) : pc (u ^^^ v) % 2 = (pc u + pc v) % 2 := by
  have d : ∀ a b : Nat, (a ^^^ b) / 2 = (a / 2) ^^^ (b / 2) := fun a b => Nat.xor_div_two
  have m : ∀ a b : Nat, (a ^^^ b) % 2 = (a + b) % 2 := fun a b => by
    have := @Nat.xor_mod_two_eq_one a b
    have h1 := Nat.mod_two_eq_zero_or_one (a ^^^ b)
    omega
  unfold pc
  have q : ∀ y : Nat, y / 4 = y / 2 / 2 ∧ y / 8 = y / 2 / 2 / 2 ∧ y / 16 = y / 2 / 2 / 2 / 2 ∧ y / 32 = y / 2 / 2 / 2 / 2 / 2 ∧ y / 64 = y / 2 / 2 / 2 / 2 / 2 / 2 := fun y => by omega
  obtain ⟨a1, a2, a3, a4, a5⟩ := q u
  obtain ⟨b1, b2, b3, b4, b5⟩ := q v
  obtain ⟨c1, c2, c3, c4, c5⟩ := q (u ^^^ v)
  rw [a1, a2, a3, a4, a5, b1, b2, b3, b4, b5, c1, c2, c3, c4, c5]
  simp only [d, m]
  omega
theorem ob_xor (x y j : Nat) : ob (x ^^^ y) j = (ob x j + ob y j) % 2 := by
  unfold ob
  rw [Nat.and_xor_distrib_right, pc_xor]
  omega
theorem ob_ne (x y j : Nat) : (if ob x j = ob y j then 0 else 1) = ob (x ^^^ y) j := by
  have h1 := ob_le x j
  have h2 := ob_le y j
  rw [ob_xor]
  split <;> omega

/-- The state behind a list. -/
def pend : Nat → List Nat → Nat
  | s, [] => s
  | s, b :: l => pend ((s + 64 * b) / 2) l
theorem xor_lt (x y : Nat) (hx : x < 128) (hy : y < 128) : x ^^^ y < 128 := Nat.xor_lt_two_pow (n := 7) hx hy
theorem xor_mod (x y : Nat) : (x ^^^ y) % 64 = (x % 64) ^^^ (y % 64) := Nat.xor_mod_two_pow (n := 6)
theorem apart_home : ∀ (l m : List Nat) (s u : Nat), l.length = m.length → Bits l → Bits m → s < 64 → u < 64 → home (s ^^^ u) ≤ apart (pcode s l) (pcode u m) + home (pend s l ^^^ pend u m)
  | [], [], s, u, _, _, _, _, _ => by simp [pcode, apart, pend]
  | [], _ :: _, _, _, h, _, _, _, _ => by simp at h
  | _ :: _, [], _, _, h, _, _, _, _ => by simp at h
  | b :: l, c :: m, s, u, h, hl, hm, hs, hu => by
    have hb := hl b List.mem_cons_self
    have hc := hm c List.mem_cons_self
    have ih := apart_home l m ((s + 64 * b) / 2) ((u + 64 * c) / 2) (by simpa using h) (fun x hx => hl x (List.mem_cons_of_mem _ hx)) (fun x hx => hm x (List.mem_cons_of_mem _ hx)) (by omega) (by omega)
    have st := home_step ((s + 64 * b) ^^^ (u + 64 * c)) (xor_lt _ _ (by omega) (by omega))
    rw [xor_mod, Nat.xor_div_two, show (s + 64 * b) % 64 = s by omega, show (u + 64 * c) % 64 = u by omega] at st
    simp only [pcode, apart, ob_ne, pend]
    omega
theorem pend_zs : ∀ (r s : Nat), s < 2 ^ r → pend s (zs r) = 0
  | 0, s, h => by simp at h; subst h; rfl
  | r + 1, s, h => by
    show pend ((s + 64 * 0) / 2) (zs r) = 0
    exact pend_zs r _ (by rw [Nat.pow_succ] at h; omega)
theorem pend_append : ∀ (l m : List Nat) (s : Nat), pend s (l ++ m) = pend (pend s l) m
  | [], _, _ => rfl
  | b :: l, m, s => pend_append l m _
theorem pend_lt : ∀ (l : List Nat) (s : Nat), Bits l → s < 64 → pend s l < 64
  | [], _, _, h => h
  | b :: l, s, hl, h => pend_lt l _ (fun x hx => hl x (List.mem_cons_of_mem _ hx)) (by have := hl b List.mem_cons_self; omega)
theorem zs_bits (r : Nat) : Bits (zs r) := fun b hb => by have := List.eq_of_mem_replicate hb; omega
theorem Bits.append {l m : List Nat} (h : Bits l) (k : Bits m) : Bits (l ++ m) := fun b hb => (List.mem_append.1 hb).elim (h b) (k b)
theorem Bits.tail {b : Nat} {l : List Nat} (h : Bits (b :: l)) : Bits l := fun x hx => h x (List.mem_cons_of_mem _ hx)
/-- Codes of two lists are twelve apart, at least. -/
theorem codes_apart : ∀ (l m : List Nat) (s : Nat), l.length = m.length → Bits l → Bits m → s < 64 → l ≠ m → 12 ≤ apart (pcode s (l ++ zs 6)) (pcode s (m ++ zs 6))
  | [], [], _, _, _, _, _, h => absurd rfl h
  | [], _ :: _, _, h, _, _, _, _ => by simp at h
  | _ :: _, [], _, h, _, _, _, _ => by simp at h
  | b :: l, c :: m, s, h, hl, hm, hs, hne => by
    have hb := hl b List.mem_cons_self
    have hc := hm c List.mem_cons_self
    by_cases hbc : b = c
    · subst hbc
      have ih := codes_apart l m ((s + 64 * b) / 2) (by simpa using h) hl.tail hm.tail (by omega) (fun e => hne (by rw [e]))
      simp only [List.cons_append, pcode, apart]
      omega
    · have e := apart_home (l ++ zs 6) (m ++ zs 6) ((s + 64 * b) / 2) ((s + 64 * c) / 2) (by simpa using h) (hl.tail.append (zs_bits 6)) (hm.tail.append (zs_bits 6)) (by omega) (by omega)
      have z1 : pend ((s + 64 * b) / 2) (l ++ zs 6) = 0 := by rw [pend_append]; exact pend_zs 6 _ (pend_lt _ _ hl.tail (by omega))
      have z2 : pend ((s + 64 * c) / 2) (m ++ zs 6) = 0 := by rw [pend_append]; exact pend_zs 6 _ (pend_lt _ _ hm.tail (by omega))
      have hx : (s + 64 * b) ^^^ (s + 64 * c) = 64 := by
        have k := xor_lt (s + 64 * b) (s + 64 * c) (by omega) (by omega)
        have k1 := xor_mod (s + 64 * b) (s + 64 * c)
        rw [show (s + 64 * b) % 64 = s by omega, show (s + 64 * c) % 64 = s by omega, Nat.xor_self] at k1
        have k2 : (s + 64 * b) ^^^ (s + 64 * c) ≠ 0 := fun e0 => by
          have e1 : (s + 64 * b) ^^^ ((s + 64 * b) ^^^ (s + 64 * c)) = s + 64 * b := by rw [e0, Nat.xor_zero]
          rw [← Nat.xor_assoc, Nat.xor_self, Nat.zero_xor] at e1
          omega
        omega
      have h64 := home_64
      rw [← Nat.xor_div_two, hx, z1, z2] at e
      simp only [List.cons_append, pcode, apart, ob_ne, hx]
      have hz : home (0 ^^^ 0) = 0 := rfl
      rw [hz] at e
      change home 32 ≤ _ at e
      omega

theorem num_inj : ∀ {l m : List Nat}, l.length = m.length → Bits l → Bits m → num l = num m → l = m
  | [], [], _, _, _, _ => rfl
  | [], _ :: _, h, _, _, _ => by simp at h
  | _ :: _, [], h, _, _, _ => by simp at h
  | b :: l, c :: m, h, hl, hm, hn => by
    have h' : l.length = m.length := by simpa using h
    have h1 := num_lt hl.tail
    have h2 := num_lt hm.tail
    have hb := hl b List.mem_cons_self
    have hc := hm c List.mem_cons_self
    simp only [num] at hn
    rw [h'] at hn h1
    rcases Nat.le_one_iff_eq_zero_or_eq_one.1 hb with rfl | rfl <;> rcases Nat.le_one_iff_eq_zero_or_eq_one.1 hc with rfl | rfl
    · rw [num_inj h' hl.tail hm.tail (by omega)]
    · omega
    · omega
    · rw [num_inj h' hl.tail hm.tail (by omega)]
theorem num_zs : ∀ r, num (zs r) = 0
  | 0 => rfl
  | r + 1 => by
    show 0 * _ + num (zs r) = 0
    rw [num_zs r]; omega
theorem zs_len (r : Nat) : (zs r).length = r := by simp [zs]

/-- Of numbers that score the same with all lists, but for a factor, the best way is the same. -/
theorem best_twice {f g : Nat → Int} (hf : ∀ j, -1000 ≤ f j ∧ f j ≤ 1000) (hg : ∀ j, -1000 ≤ g j ∧ g j ≤ 1000) {n : Nat} (hn : n ≤ 4096) (h : ∀ j, g j = 2 * f j) :
    cv g n (n + 6) 0 0 = 2 * cv f n (n + 6) 0 0 ∧ bw g n (n + 6) n 0 0 = bw f n (n + 6) n 0 0 := by
  have hp : ∀ (l : List Nat) (t s : Nat), ps g t s l = 2 * ps f t s l := by
    intro l
    induction l with
    | nil => intro t s; rfl
    | cons b l ih =>
      intro t s
      show ge g t s b + ps g (t + 1) ((s + 64 * b) / 2) l = 2 * (ge f t s b + ps f (t + 1) ((s + 64 * b) / 2) l)
      rw [ih]
      have : ge g t s b = 2 * ge f t s b := by
        unfold ge gn
        rw [h, h, h, h, Int.mul_assoc, Int.mul_assoc, Int.mul_assoc, Int.mul_assoc]
        omega
      omega
  obtain ⟨a1, b1, _, d1⟩ := cv_best hf hn n 0 0 (by omega) (by omega)
  obtain ⟨a2, b2, _, d2⟩ := cv_best hg hn n 0 0 (by omega) (by omega)
  have l1 := bw_len f n (n + 6) n 0 0
  have l2 := bw_len g n (n + 6) n 0 0
  have c1 := bw_bits f n (n + 6) n 0 0
  have c2 := bw_bits g n (n + 6) n 0 0
  have u1 := a2 _ l1 c1
  have u2 := a1 _ l2 c2
  rw [hp] at u1 b2
  have e : cv g n (n + 6) 0 0 = 2 * cv f n (n + 6) 0 0 := by omega
  refine ⟨e, num_inj (by rw [l1, l2]) c2 c1 ?_⟩
  have v1 := d1 _ l2 c2 (by omega)
  have v2 := d2 _ l1 c1 (by rw [hp]; omega)
  omega
/-- Of noughts the best way is the list of noughts. -/
theorem best_zero {f : Nat → Int} {n : Nat} (hn : n ≤ 4096) (h : ∀ j, f j = 0) : cv f n (n + 6) 0 0 = 0 ∧ bw f n (n + 6) n 0 0 = zs n := by
  have hf : ∀ j, -1000 ≤ f j ∧ f j ≤ 1000 := fun j => by rw [h]; omega
  have hp : ∀ (l : List Nat) (t s : Nat), ps f t s l = 0 := by
    intro l
    induction l with
    | nil => intro t s; rfl
    | cons b l ih =>
      intro t s
      show ge f t s b + ps f (t + 1) ((s + 64 * b) / 2) l = 0
      rw [ih]
      unfold ge gn
      rw [h, h, h, h]
      omega
  obtain ⟨a1, b1, _, d1⟩ := cv_best hf hn n 0 0 (by omega) (by omega)
  rw [hp] at b1
  refine ⟨b1.symm, num_inj (by rw [bw_len, zs_len]) (bw_bits _ _ _ _ _ _) (zs_bits _) ?_⟩
  have := d1 (zs n) (zs_len n) (zs_bits n) (by rw [hp, b1])
  rw [num_zs] at this ⊢
  omega
/-- Of a code of which fewer than six bits are turned the list is told. -/
theorem best_mends {f : Nat → Int} {n : Nat} (hn : n ≤ 4096) (l t : List Nat) (hl : l.length = n) (hb : Bits l) (ht : Bits t) (htl : t.length = 4 * (n + 6)) (hd : apart t (pcode 0 (l ++ zs 6)) < 6)
    (hf : ∀ j, (t.map sg).getD j 0 = f j) : cv f n (n + 6) 0 0 = (4 * (n + 6) : Nat) - 2 * (apart t (pcode 0 (l ++ zs 6)) : Int) ∧ bw f n (n + 6) n 0 0 = l := by
  have hin : ∀ j, -1000 ≤ f j ∧ f j ≤ 1000 := fun j => by
    rw [← hf]
    by_cases hj : j < (t.map sg).length
    · have hm : (t.map sg).getD j 0 ∈ t.map sg := by rw [List.getD_eq_getElem?_getD, List.getElem?_eq_getElem hj]; exact List.getElem_mem hj
      obtain ⟨c, _, hc⟩ := List.mem_map.1 hm
      rw [← hc]
      unfold sg
      split <;> decide
    · rw [List.getD_eq_getElem?_getD, List.getElem?_eq_none (by omega)]
      exact ⟨by decide, by decide⟩
  have hp : ∀ m : List Nat, m.length = n → Bits m → ps f 0 0 (m ++ zs 6) = (4 * (n + 6) : Nat) - 2 * (apart t (pcode 0 (m ++ zs 6)) : Int) := by
    intro m hm hmb
    rw [ps_sc f (m ++ zs 6) 0 0 (t.map sg) (by rw [List.length_map, htl, List.length_append, zs_len, hm]) (fun j => Or.inl (by rw [hf, Nat.mul_zero, Nat.zero_add]))]
    rw [sc_sg t _ (by rw [pcode_len, htl, List.length_append, zs_len, hm]) ht (pcode_bits _ _), htl]
  obtain ⟨a1, b1, _, d1⟩ := cv_best hin hn n 0 0 (by omega) (by omega)
  have u1 := a1 l hl hb
  rw [hp l hl hb] at u1
  have l1 := bw_len f n (n + 6) n 0 0
  have c1 := bw_bits f n (n + 6) n 0 0
  rw [hp _ l1 c1] at b1
  have e : bw f n (n + 6) n 0 0 = l := by
    refine Classical.byContradiction fun hne => ?_
    have h12 := codes_apart _ _ 0 (l1.trans hl.symm) c1 hb (by omega) hne
    have tri := apart_tri (pcode 0 (bw f n (n + 6) n 0 0 ++ zs 6)) t (pcode 0 (l ++ zs 6)) (by rw [pcode_len, htl, List.length_append, zs_len, l1]) (by rw [pcode_len, htl, List.length_append, zs_len, hl])
    rw [apart_comm _ t] at tri
    omega
  exact ⟨by rw [e] at b1; exact b1.symm, e⟩
end Go.Proofs.YtnejnnfjbhpigaaDoor.Vit
