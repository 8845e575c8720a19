/- What a version alone tells (version.Alone): each theorem says its own conditions. -/
import Derived.Test.YtnejnnfjbhpigaaDoorCl
namespace Go.Proofs.YtnejnnfjbhpigaaDoor.Vit
open Go.RowKit Go.Proofs.YtnejnnfjbhpigaaDoorW.PrintWords Go.Proofs.YtnejnnfjbhpigaaDoorW.PrintLast Go.Proofs.YtnejnnfjbhpigaaDoorW.PrintMore Go.Proofs.YtnejnnfjbhpigaaDoor.Mem Go.Proofs.YtnejnnfjbhpigaaDoor.Crc
attribute [local go_sem] max2_int min2_int max_two min_two max_three min_three max_four min_four   -- for this text's walks alone
set_option linter.unusedVariables false
set_option linter.unusedSimpArgs false

open Go.Proofs.YtnejnnfjbhpigaaDoor.Chk
theorem xor_tab2 : (List.range 2).all (fun a => (List.range 2).all fun b => Go.bits .xor .u8 (a : Int) (b : Int) == (((a + b) % 2 : Nat) : Int)) = true := by kernel_rfl
theorem xor_two {a b : Nat} (ha : a ≤ 1) (hb : b ≤ 1) : Go.bits .xor .u8 (a : Int) (b : Int) = (((a + b) % 2 : Nat) : Int) := by
  have h1 := List.all_eq_true.1 xor_tab2 a (List.mem_range.2 (by omega))
  have h2 := List.all_eq_true.1 h1 b (List.mem_range.2 (by omega))
  exact eq_of_beq h2
set_option maxHeartbeats 3200000 in
set_option maxRecDepth 100000 in
theorem bitP_any (s v t g : Nat) (hs : s < 64) (hv : v < 4) (hg : g ≤ 1) (w : World) (ht : Taps w) :
    Calls Tryd.prog 57 #[.int .i64 (s : Int), .int .i64 (v : Int), .int .i64 (t : Int), .int .u8 (g : Int)] w fun e w' => e = .returned (.tuple #[.int .u8 ((ob s (strm v t) + g) % 2 : Nat), .int .i64 0]) ∧ Below w.heap.size w w' := by
  have ho := Out_any s 0 hs (by omega) w ht
  rw [show s + 64 * 0 = s by omega] at ho
  have hst := fun W => Stream_any v t hv W
  have hx := xor_two (ob_le s (strm v t)) hg
  obtain ⟨r, hr⟩ : ∃ r, (ob s (strm v t) + g) % 2 = r := ⟨_, rfl⟩
  obtain ⟨p, hp⟩ : ∃ p, strm v t = p := ⟨_, rfl⟩
  have hp4 : p < 4 := by rw [← hp]; exact strm_lt v t
  rw [hr] at hx ⊢
  rw [hp] at hst hx
  have HO := Aside0.mk (And.intro ho hst)
  clear ho hst hr hp ht
  obtain ⟨o0, h0⟩ : ∃ o0, ob s 0 = o0 := ⟨_, rfl⟩
  obtain ⟨o1, h1⟩ : ∃ o1, ob s 1 = o1 := ⟨_, rfl⟩
  obtain ⟨o2, h2⟩ : ∃ o2, ob s 2 = o2 := ⟨_, rfl⟩
  obtain ⟨o3, h3⟩ : ∃ o3, ob s 3 = o3 := ⟨_, rfl⟩
  have hob : obV s = .agg #[.int .u8 (o0 : Int), .int .u8 (o1 : Int), .int .u8 (o2 : Int), .int .u8 (o3 : Int)] := by rw [← h0, ← h1, ← h2, ← h3]
  have HB := Aside0.mk hob
  have hpc : p = 0 ∨ p = 1 ∨ p = 2 ∨ p = 3 := by omega
  rcases hpc with rfl | rfl | rfl | rfl
  all_goals (first | rw [h0] at hx | rw [h1] at hx | rw [h2] at hx | rw [h3] at hx)
  all_goals clear h0 h1 h2 h3 hob hp4
  all_goals go_enter Tryd.func57, Tryd.ntmps57
  all_goals (go_wp2_with (first
    | (go_at_call 88; refine HO.out.1.mono ?_; rintro e w1 ⟨rfl, hB1⟩; rw [HB.out]; have H1 := Aside0.mk hB1; clear hB1)
    | (go_at_call 79; refine (HO.out.2 _).mono ?_; rintro e w2 ⟨rfl, rfl⟩)))
  all_goals go_ret2
  all_goals exact ⟨rfl, below_alloc H1.out _⟩
/-- How many of a list are not nought. -/
def wgtL (l : List Nat) : Nat := l.countP fun x => decide (x ≠ 0)
theorem wgtL_le (l : List Nat) : wgtL l ≤ l.length := List.countP_le_length
theorem wgtL_snoc (l : List Nat) (x : Nat) : wgtL (l ++ [x]) = wgtL l + if x = 0 then 0 else 1 := by
  unfold wgtL
  rw [List.countP_append]
  by_cases h : x = 0 <;> simp [h]
theorem wgtL_zero {l : List Nat} : wgtL l = 0 ↔ ∀ x ∈ l, x = 0 := by
  unfold wgtL
  rw [List.countP_eq_zero]
  simp
set_option maxHeartbeats 3200000 in
set_option maxRecDepth 100000 in
theorem Weight_any (l : List Nat) (A : Option Addr) (n c : Nat) (w : World) (hn : l.length = n) (hC : (Kd.int .u8).C w A n (ints l)) (hl : n ≤ 1000000) :
    Calls Tryd.prog 59 #[.slice A n c] w fun e w' => e = .returned (.int .i64 (wgtL l : Nat)) ∧ w = w' := by
  have HC := Aside0.mk (And.intro hC hn)
  clear hC hn
  go_enter Tryd.func59, Tryd.ntmps59
  go_wp2
  go_loopw [3, 8] (fun x3 x8 wr => ∃ k : Nat, x8 = .int .i64 k ∧ k ≤ n ∧ x3 = .int .i64 (wgtL (l.take k) : Nat) ∧ wr = w) (fun _ x8 _ => n - (intOf x8).toNat)
  case atStart => exact ⟨0, rfl, Nat.zero_le _, rfl, rfl⟩
  case round =>
    obtain ⟨k, rfl, hk, rfl, rfl⟩ := hrel
    by_cases hkn : k < n
    · have hlt : (k : Int) < (n : Int) := by omega
      have hkl : k < l.length := by have := HC.out.2; omega
      obtain ⟨ad, hA, hcell⟩ := Kd.at_int HC.out.1 (k : Int) (by omega) hlt
      cases hA
      rw [rd_ints hkl, Int.toNat_natCast] at hcell
      have hnx : wgtL (l.take (k + 1)) = wgtL (l.take k) + if l[k] = 0 then 0 else 1 := by rw [List.take_succ_eq_append_getElem hkl, wgtL_snoc]
      have hle : wgtL (l.take k) ≤ 1000000 := by
        have h1 := wgtL_le (l.take k)
        have h2 := List.length_take_le k l
        omega
      obtain ⟨x, hx⟩ : ∃ x, l[k] = x := ⟨_, rfl⟩
      obtain ⟨g, hg⟩ : ∃ g, wgtL (l.take k) = g := ⟨_, rfl⟩
      rw [hx] at hnx hcell
      rw [hg] at hnx hle ⊢
      have hgb : (g : Int) ≤ 1000000 := by omega
      by_cases hx0 : x = 0
      · subst hx0
        rw [if_pos rfl] at hnx
        have HN := Aside0.mk hnx
        clear hnx hx hg
        go_wp2
        exact ⟨⟨k + 1, by go_num, by omega, by rw [HN.out]; go_num, trivial⟩, by simp only [intOf]; omega⟩
      · rw [if_neg hx0] at hnx
        have hne : ((x : Int) == 0) = false := by rw [beq_eq_false_iff_ne]; omega
        have hne2 : ¬ (x : Int) = 0 := by omega
        have HN := Aside0.mk hnx
        clear hnx hx hg
        go_wp2
        exact ⟨⟨k + 1, by go_num, by omega, by rw [HN.out]; go_num, trivial⟩, by simp only [intOf]; omega⟩
    · have hge : ¬ (k : Int) < (n : Int) := by omega
      obtain rfl : k = n := by omega
      have ht : l.take k = l := List.take_of_length_le (by have := HC.out.2; omega)
      rw [ht]
      clear ht
      go_wp2
      go_ret
      exact ⟨rfl, rfl⟩
end Go.Proofs.YtnejnnfjbhpigaaDoor.Vit

namespace Go.Proofs.YtnejnnfjbhpigaaDoor.Vit
open Go.RowKit Go.Proofs.YtnejnnfjbhpigaaDoorW.PrintWords Go.Proofs.YtnejnnfjbhpigaaDoorW.PrintLast Go.Proofs.YtnejnnfjbhpigaaDoorW.PrintMore Go.Proofs.YtnejnnfjbhpigaaDoor.Mem Go.Proofs.YtnejnnfjbhpigaaDoor.Crc
attribute [local go_sem] max2_int min2_int max_two min_two max_three min_three max_four min_four   -- for this text's walks alone
set_option linter.unusedVariables false
set_option linter.unusedSimpArgs false

open Go.Proofs.YtnejnnfjbhpigaaDoor.Chk
/-- The bit of a step that a version tells of a state. -/
def aT (p : List Nat) (v t s : Nat) : Nat := (ob s (strm v t) + p.getD t 0) % 2
/-- The state behind so many steps, and the bit of a step, that a version alone tells. -/
def aS (p : List Nat) (v : Nat) : Nat → Nat
  | 0 => 0
  | t + 1 => (aS p v t + 64 * aT p v t (aS p v t)) / 2
def aB (p : List Nat) (v : Nat) (t : Nat) : Nat := aT p v t (aS p v t)
theorem aS_next (p : List Nat) (v t : Nat) : aS p v (t + 1) = (aS p v t + 64 * aB p v t) / 2 := rfl
theorem aB_le (p : List Nat) (v t : Nat) : aB p v t ≤ 1 := by unfold aB aT; omega
theorem aS_lt (p : List Nat) (v : Nat) : ∀ t, aS p v t < 64
  | 0 => by unfold aS; omega
  | t + 1 => by
    have h1 := aS_lt p v t
    have h2 := aB_le p v t
    rw [aS_next]
    omega
/-- Is what stands behind nought? -/
def aOk (p : List Nat) (v m n : Nat) : Bool := decide (wgtL ((mapL (aB p v) n).drop m) = 0)
/-- What is told of it, and the list. -/
def alE (p : List Nat) (v m n : Nat) : Int := if aOk p v m n = true then 0 else 13
def alL (p : List Nat) (v m n : Nat) : List Nat := if aOk p v m n = true then mapL (aB p v) m else []
set_option maxHeartbeats 3200000 in
set_option maxRecDepth 100000 in
theorem Alone_any (p : List Nat) (hp : Bits p) (v : Nat) (hv : v < 4) (A : Option Addr) (n c m : Nat) (w : World) (hn : p.length = n) (hm : n = m + 6) (hC : (Kd.int .u8).C w A n (ints p)) (hc : n ≤ c) (hl : n ≤ 10000) (ht : Taps w) :
    Calls Tryd.prog 28 #[.slice A n c, .int .i64 (v : Int)] w fun e w' => ∃ u, e = .returned (.tuple #[u, .int .i64 (alE p v m n)]) ∧ (Kd.int .u8).R 5 w' w.heap.size (fun k => w.heap.size ≤ k) u (ints (alL p v m n)) ∧ Below w.heap.size w w' := by
  have hr := BRight_any (ints p) A n c w hC hc (by omega)
  rw [bits_right hp] at hr
  have HC := Aside0.mk (And.intro hC (And.intro hn (And.intro hp (And.intro ht (And.intro hr hm)))))
  have d1 : ¬ (v : Int) < 0 := by omega
  have d2 : ¬ (4 : Int) ≤ (v : Int) := by omega
  have d3 : ¬ (n : Int) < 6 := by omega
  have d4 : decide ((v : Int) < 0) = false := decide_eq_false d1
  have d5 : decide ((4 : Int) ≤ (v : Int)) = false := decide_eq_false d2
  have d6 : decide ((n : Int) < 6) = false := decide_eq_false d3
  have d7 : decide (4 ≤ v) = false := decide_eq_false (by omega)
  have d8 : decide (n < 6) = false := decide_eq_false (by omega)
  have hnm : (n : Int) - 6 = (m : Int) := by omega
  clear hC hn hp ht hr hm
  go_enter Tryd.func28, Tryd.ntmps28
  go_wp2_with (go_at_call 48; refine HC.out.2.2.2.2.1.mono ?_; rintro e w1 ⟨rfl, q1, hw1⟩; have H1 := Aside0.mk (show Below w.heap.size w w1 by rw [hw1]; exact pw_below_drewN (Below.refl _ _) q1); clear hw1)
  go_loopw [6, 7, 31] (fun x6 x7 x31 wr => ∃ t : Nat, x31 = .int .i64 t ∧ t ≤ n ∧ x7 = .int .i64 (aS p v t : Nat) ∧ (Kd.int .u8).R 5 wr w.heap.size (fun k => w.heap.size ≤ k) x6 (ints (mapL (aB p v) t)) ∧ Below w.heap.size w wr) (fun _ _ x31 _ => n - (intOf x31).toNat)
  case atStart => exact ⟨0, rfl, Nat.zero_le _, rfl, Kd.R_nil _ _ _ _ _, H1.out⟩
  case round =>
    obtain ⟨t, rfl, htn, rfl, hR, hB⟩ := hrel
    have HR := Aside0.mk (And.intro hR hB)
    clear hR
    by_cases htl : t < n
    · have hlt : (t : Int) < (n : Int) := by omega
      have htp : t < p.length := by have := HC.out.2.1; omega
      obtain ⟨ad, hA, hcell⟩ := Kd.at_int (Kd.C_below HC.out.1 hB) (t : Int) (by omega) hlt
      cases hA
      rw [rd_ints htp, Int.toNat_natCast] at hcell
      have hg1 : p[t] ≤ 1 := HC.out.2.2.1 _ (List.getElem_mem htp)
      have hgd : p.getD t 0 = p[t] := by rw [List.getD_eq_getElem?_getD, List.getElem?_eq_getElem htp]; rfl
      have hbt : aB p v t = (ob (aS p v t) (strm v t) + p[t]) % 2 := by unfold aB aT; rw [hgd]
      have hnx := mapL_next (aB p v) t
      have hsx := aS_next p v t
      have hs64 := aS_lt p v t
      have hble := aB_le p v t
      obtain ⟨g, hg⟩ : ∃ g, p[t] = g := ⟨_, rfl⟩
      obtain ⟨s, hs⟩ : ∃ s, aS p v t = s := ⟨_, rfl⟩
      obtain ⟨y, hy⟩ : ∃ y, aB p v t = y := ⟨_, rfl⟩
      rw [hg] at hcell hg1 hbt
      rw [hs] at hbt hsx hs64 ⊢
      rw [hy] at hbt hnx hsx hble
      have hbit := fun W hT => bitP_any s v t g hs64 hv hg1 W hT
      rw [← hbt] at hbit
      have hnext := fun W => Next_any s y hs64 (by omega) W
      obtain ⟨s2, hs2⟩ : ∃ s2, (s + 64 * y) / 2 = s2 := ⟨_, rfl⟩
      rw [hs2] at hsx hnext
      have HN := Aside0.mk (And.intro hbit (And.intro hnext (And.intro hnx hsx)))
      have HTW := Aside0.mk (HC.out.2.2.2.1.below hB)
      clear hbit hnext hnx hsx hs2 hbt hg hs hy hgd hB hs64 hble hg1
      go_wp2_with (first
        | (go_at_call 57; refine (HN.out.1 _ HTW.out).mono ?_; rintro e w2 ⟨rfl, hB2⟩; have H2 := Aside0.mk (And.intro (Kd.R_below HR.out.1 hB2) (HR.out.2.trans (hB2.mono HR.out.2.size))); clear hB2)
        | (go_at_call 58; refine (HN.out.2.1 _).mono ?_; rintro e w3 ⟨rfl, rfl⟩)
        | ((with_reducible refine gate_builtin (b := .append) (xs := #[.tmp 47, .tmp 49]) rfl ?_); at_builtin; refine Kd.R_append (Kd.int .u8) (w0 := w) w.heap.size rfl (.tmp 47) (.tmp 49) 22 5 (.int .u8 0) 1 rfl Tryd.underlying22 info5 rfl (by decide) (by omega) u6 (ints (mapL (aB p v) t)) ((y : Int)) [.int .u8 y] (fun k => w.heap.size ≤ k) (fun _ => False) rfl rfl ?aP (fun _ hk => hk.elim) ?aF ?aO ?aB ?aS ?aL ?_; (case aP => exact rfl); (case aB => exact H2.out.2); (case aF => exact (fun k hk => Nat.le_trans (below_size H2.out.2) hk)); (case aO => exact H2.out.1); (case aS => exact below_size H2.out.2); (case aL => rw [ints_len, mapL_len]; omega); intro v1 w7 ho hb7 hg hat; have HK := Aside0.mk (And.intro ho hb7); clear ho hb7 hg hat))
      refine ⟨⟨t + 1, by go_num, by omega, by rw [HN.out.2.2.2], ?_, HK.out.2⟩, by simp only [intOf]; omega⟩
      rw [HN.out.2.2.1, ints_append]
      exact HK.out.1
    · have hge : ¬ (t : Int) < (n : Int) := by omega
      obtain rfl : t = n := by omega
      obtain ⟨L, hL⟩ : ∃ L, mapL (aB p v) t = L := ⟨_, rfl⟩
      have hLl : L.length = t := by rw [← hL]; exact mapL_len _ _
      have hR1 := HR.out.1
      rw [hL] at hR1
      have hm6 := HC.out.2.2.2.2.2
      obtain ⟨g, cp, hv6, hg1, hg2, _⟩ := Kd.R_form hR1 (by rw [ints_len]; omega)
      subst hv6
      obtain ⟨A6, c6, he6, hc6, hC6⟩ := Kd.R_reads hR1
      cases he6
      rw [ints_len, hLl] at hC6 hc6 ⊢
      have hCd := C_rest (m := m) hC6 hLl (by omega)
      rw [show t - m = 6 by omega] at hCd
      have hCt := C_part (m := m) hC6 hLl (by omega)
      have hdl : (L.drop m).length = 6 := by rw [List.length_drop]; omega
      have hwt := fun W hBW => Weight_any (L.drop m) (some ⟨g, 0 + m, none⟩) 6 (cp - m) W hdl (Kd.C_below hCd hBW) (by omega)
      rw [Nat.zero_add] at hwt
      have hclo := fun W hBW => CloneB_any (ints (L.take m)) (some ⟨g, 0, none⟩) m cp W (Kd.C_below hCt hBW) (by omega)
      have htk : L.take m = mapL (aB p v) m := by
        rw [← hL]
        unfold mapL
        rw [← List.map_take, List.take_range, Nat.min_eq_left (by omega)]
      have hok : aOk p v m t = decide (wgtL (L.drop m) = 0) := by unfold aOk; rw [hL]
      obtain ⟨q, hq⟩ : ∃ q, wgtL (L.drop m) = q := ⟨_, rfl⟩
      rw [hq] at hwt hok
      have HW := Aside0.mk (And.intro hwt (And.intro hclo (And.intro htk hok)))
      have hmt : (m : Int) ≤ (t : Int) := by omega
      have hmt2 : m ≤ t := by omega
      have hmc : (m : Int) ≤ (cp : Int) := by omega
      have hmc2 : m ≤ cp := by omega
      have hcm : ¬ cp = m := by omega
      have htm : t - m = 6 := by omega
      have hmb : (m : Int) ≤ 10000 := by omega
      clear hB hR1 hL hLl hm6 hC6 hCd hCt hdl hwt hclo htk hok hq
      by_cases hq0 : q = 0
      · subst hq0
        have hok : aOk p v m t = true := by rw [HW.out.2.2.2]; rfl
        have HO := Aside0.mk hok
        clear hok
        go_wp2_with (first
          | (go_at_call 59; refine (HW.out.1 _ (Below.refl _ _)).mono ?_; rintro e w5 ⟨rfl, rfl⟩)
          | (go_at_call 60; refine (HW.out.2.1 _ (Below.refl _ _)).mono ?_; rintro e w6 ⟨u9, rfl, hR9, hB9⟩; have H9 := Aside0.mk (And.intro hR9 hB9); clear hR9 hB9))
        go_ret2
        refine ⟨_, by unfold alE; rw [HO.out]; rfl, ?_, HR.out.2.trans (H9.out.2.mono HR.out.2.size)⟩
        unfold alL
        rw [if_pos HO.out, ← HW.out.2.2.1]
        exact Kd.R_mono (Kd.R_lower H9.out.1 HR.out.2.size) (fun k hk => Nat.le_trans HR.out.2.size hk)
      · have hok : ¬ aOk p v m t = true := by rw [HW.out.2.2.2]; simpa using hq0
        have hqi : ((q : Int) == 0) = false := by rw [beq_eq_false_iff_ne]; omega
        have hqi2 : ¬ (q : Int) = 0 := by omega
        have HO := Aside0.mk hok
        clear hok
        go_wp2_with (first
          | (go_at_call 59; refine (HW.out.1 _ (Below.refl _ _)).mono ?_; rintro e w5 ⟨rfl, rfl⟩))
        go_ret2
        refine ⟨_, by unfold alE; rw [if_neg HO.out]; rfl, ?_, HR.out.2⟩
        unfold alL
        rw [if_neg HO.out]
        exact Kd.R_nil _ _ _ _ _
end Go.Proofs.YtnejnnfjbhpigaaDoor.Vit
