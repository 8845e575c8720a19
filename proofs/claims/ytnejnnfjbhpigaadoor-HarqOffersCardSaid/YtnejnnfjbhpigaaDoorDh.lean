/- The document's process in all cases, and both processes side by side. Each theorem says its own conditions. -/
import Derived.Test.YtnejnnfjbhpigaaDoorDg
namespace Go.Proofs.YtnejnnfjbhpigaaDoor.Vit
open Go.RowKit Go.Proofs.YtnejnnfjbhpigaaDoorW.PrintWords Go.Proofs.YtnejnnfjbhpigaaDoorW.PrintLast Go.Proofs.YtnejnnfjbhpigaaDoorW.PrintMore Go.Proofs.YtnejnnfjbhpigaaDoor.Mem Go.Proofs.YtnejnnfjbhpigaaDoor.Crc
attribute [local go_sem] max2_int min2_int max_two min_two max_three min_three max_four min_four   -- for this text's walks alone
set_option linter.unusedVariables false
set_option linter.unusedSimpArgs false

open Go.Proofs.YtnejnnfjbhpigaaDoor.Chk
theorem Doc_old (pb b sb N came : Nat) (xs : List Int) (cs : Nat → Nat) (n v : Int) (u : Value) (W : World) (hI : IsD W pb b sb N xs cs came true) :
    Calls Tryd.prog 20 #[.pointer (some ⟨pb, 0, none⟩), .int .i64 n, .int .i64 v, u] W fun e w' => e = .returned (.tuple #[.slice none 0 0, .int .i64 10]) ∧ W = w' := by
  have c3 : W.cell? ⟨pb, 3, none⟩ = some (.bool true) := blk_cell hI.blk 3
  clear hI
  go_enter Tryd.func20, Tryd.ntmps20
  go_wp2
  go_ret2
  exact ⟨rfl, rfl⟩
set_option maxHeartbeats 3200000 in
set_option maxRecDepth 100000 in
theorem Doc_bad (pb b sb N came : Nat) (xs : List Int) (cs : Nat → Nat) (n v : Int) (p : List Int) (A : Option Addr) (m c : Nat) (W : World) (hI : IsD W pb b sb N xs cs came false) (hC : (Kd.int .u8).C W A m p) (hm : m ≤ 1000000) (hE : hErr n v p ≠ 0) :
    Calls Tryd.prog 20 #[.pointer (some ⟨pb, 0, none⟩), .int .i64 n, .int .i64 v, .slice A m c] W fun e w' => e = .returned (.tuple #[.slice none 0 0, .int .i64 (hErr n v p)]) ∧ Below W.heap.size W w' := by
  have c3 : W.cell? ⟨pb, 3, none⟩ = some (.bool false) := blk_cell hI.blk 3
  have hrt := Right1_any p A m c W hC (by omega)
  have hl := Kd.C_len hC
  have HR := Aside0.mk hrt
  clear hI hC hrt
  unfold hErr at hE ⊢
  by_cases h1 : n < 0
  · rw [if_pos (by omega)]
    clear hE
    go_enter Tryd.func20, Tryd.ntmps20
    go_wp2
    go_ret2
    exact ⟨rfl, Below.refl _ _⟩
  · by_cases h2 : 64 < n
    · rw [if_pos (by omega)]
      clear hE
      go_enter Tryd.func20, Tryd.ntmps20
      go_wp2
      go_ret2
      exact ⟨rfl, Below.refl _ _⟩
    · rw [if_neg (show ¬ ¬ (0 ≤ n ∧ n ≤ 64) by omega)] at hE ⊢
      by_cases h3 : v < 0
      · rw [if_pos (.inl h3)]
        clear hE
        go_enter Tryd.func20, Tryd.ntmps20
        go_wp2
        go_ret2
        exact ⟨rfl, Below.refl _ _⟩
      · by_cases h4 : 3 < v
        · rw [if_pos (.inr (by omega))]
          clear hE
          go_enter Tryd.func20, Tryd.ntmps20
          go_wp2
          go_ret2
          exact ⟨rfl, Below.refl _ _⟩
        · rw [if_neg (show ¬ (v < 0 ∨ 4 ≤ v) by omega)] at hE ⊢
          by_cases h5 : ∃ x ∈ p, 1 < x
          · rw [if_pos h5]
            have hr := HR.out
            rw [decide_eq_true h5] at hr
            have HR2 := Aside0.mk hr
            clear hE hr h5 HR
            go_enter Tryd.func20, Tryd.ntmps20
            go_wp2_with (go_at_call 37; refine HR2.out.mono ?_; rintro e W1 ⟨rfl, q1, rfl⟩)
            go_ret2
            exact ⟨rfl, pw_below_drewN (Below.refl _ _) q1⟩
          · rw [if_neg h5] at hE ⊢
            have h6 : (p.length : Int) ≠ 8 * (n + 4) + 6 := Classical.byContradiction fun h => hE (if_neg (fun h7 => h7 (Classical.byContradiction fun h8 => h h8)))
            rw [if_pos h6]
            obtain ⟨nn, rfl⟩ : ∃ nn : Nat, n = (nn : Int) := ⟨n.toNat, by omega⟩
            have hbi := fun W => RBits_any nn (by omega) W
            have h7 : ¬ (m : Int) = ((8 * (nn + 4) + 6 : Nat) : Int) := by rw [hl] at h6; omega
            have h8 : ((m : Int) == ((8 * (nn + 4) + 6 : Nat) : Int)) = false := by rw [beq_eq_false_iff_ne]; exact h7
            obtain ⟨K, hK⟩ : ∃ K : Nat, 8 * (nn + 4) + 6 = K := ⟨_, rfl⟩
            rw [hK] at hbi h7 h8
            have hr := HR.out
            rw [decide_eq_false h5] at hr
            have HR2 := Aside0.mk (And.intro hr hbi)
            clear hE hr h5 HR h6 hbi hK
            go_enter Tryd.func20, Tryd.ntmps20
            go_wp2_with (first | (go_at_call 37; refine HR2.out.1.mono ?_; rintro e W1 ⟨rfl, q1, rfl⟩) | (go_at_call 38; refine (HR2.out.2 _).mono ?_; rintro e w9 ⟨rfl, rfl⟩))
            go_ret2
            exact ⟨rfl, pw_below_drewN (Below.refl _ _) q1⟩
/-- A process's state, in plain. -/
structure HS where
  N : Nat
  came : Nat
  xs : List Int
  cs : Nat → Nat
  done : Bool
/-- What a version that comes makes of it, what is told, and what is read. -/
def HS.step (s : HS) (n v : Int) (l : List Int) : HS × Int × List Nat :=
  if s.done = true then (s, 10, []) else if hErr n v l ≠ 0 then (s, hErr n v l, []) else
    let X := addv (offX n.toNat s.N s.came s.xs) v.toNat (l.map Int.toNat) (8 * (n.toNat + 4) + 6)
    let r := hRes (8 * (n.toNat + 4)) v.toNat (l.map Int.toNat) X
    (⟨n.toNat, offN n.toNat s.N s.came + 1, X, bump (offS n.toNat s.N s.came s.cs) v.toNat, r.isSome⟩, hE r, r.getD [])
theorem step_old {s : HS} (h : s.done = true) (n v : Int) (l : List Int) : s.step n v l = (s, 10, []) := by unfold HS.step; rw [if_pos h]
theorem step_bad {s : HS} (h : s.done = false) {n v : Int} {l : List Int} (he : hErr n v l ≠ 0) : s.step n v l = (s, hErr n v l, []) := by unfold HS.step; rw [if_neg (by rw [h]; decide), if_pos he]
theorem toNat_ints (p : List Nat) : (ints p).map Int.toNat = p := by
  unfold ints
  rw [List.map_map]
  exact (List.map_congr_left (fun x _ => Int.toNat_natCast x)).trans (List.map_id p)
theorem step_ok {s : HS} (h : s.done = false) {n v : Nat} {p : List Nat} (he : hErr (n : Int) (v : Int) (ints p) = 0) : s.step (n : Int) (v : Int) (ints p) =
    (⟨n, offN n s.N s.came + 1, addv (offX n s.N s.came s.xs) v p (8 * (n + 4) + 6), bump (offS n s.N s.came s.cs) v, (hRes (8 * (n + 4)) v p (addv (offX n s.N s.came s.xs) v p (8 * (n + 4) + 6))).isSome⟩, hE (hRes (8 * (n + 4)) v p (addv (offX n s.N s.came s.xs) v p (8 * (n + 4) + 6))), (hRes (8 * (n + 4)) v p (addv (offX n s.N s.came s.xs) v p (8 * (n + 4) + 6))).getD []) := by
  unfold HS.step
  rw [if_neg (by rw [h]; decide), if_neg (fun h2 => h2 he)]
  simp only [Int.toNat_natCast, toNat_ints]
theorem hErr_ok {n v : Int} {l : List Int} (h0 : ∀ x ∈ l, 0 ≤ x) (h : hErr n v l = 0) : ∃ (nn vv : Nat) (p : List Nat), n = (nn : Int) ∧ v = (vv : Int) ∧ l = ints p ∧ nn ≤ 64 ∧ vv < 4 ∧ Bits p ∧ p.length = 8 * (nn + 4) + 6 := by
  unfold hErr at h
  by_cases h1 : ¬ (0 ≤ n ∧ n ≤ 64)
  · rw [if_pos h1] at h; omega
  rw [if_neg h1] at h
  by_cases h2 : v < 0 ∨ 4 ≤ v
  · rw [if_pos h2] at h; omega
  rw [if_neg h2] at h
  by_cases h3 : ∃ x ∈ l, 1 < x
  · rw [if_pos h3] at h; omega
  rw [if_neg h3] at h
  by_cases h4 : (l.length : Int) ≠ 8 * (n + 4) + 6
  · rw [if_pos h4] at h; omega
  have hi := nats_ints h0
  refine ⟨n.toNat, v.toNat, l.map Int.toNat, by omega, by omega, hi.symm, by omega, by omega, fun y hy => ?_, by rw [List.length_map]; omega⟩
  obtain ⟨x, hx, rfl⟩ := List.mem_map.1 hy
  have := h0 x hx
  have : ¬ 1 < x := fun h5 => h3 ⟨x, hx, h5⟩
  omega
/-- The process of the code, of the call's own, in a state. -/
abbrev PA (base : Nat) (W : World) (pb b sb : Nat) (s : HS) : Prop := Proc base W pb b sb s.N s.xs s.cs s.came s.done
/-- The document's process, of the call's own, in a state. -/
structure PD (base : Nat) (W : World) (pb b sb : Nat) (s : HS) : Prop where
  is : IsD W pb b sb s.N s.xs s.cs s.came s.done
  in_ : ∀ x ∈ s.xs, -31 ≤ x ∧ x ≤ 31
  lo : base ≤ pb ∧ base ≤ b ∧ base ≤ sb
theorem PD.below {base : Nat} {W w' : World} {pb b sb : Nat} {s : HS} (h : PD base W pb b sb s) (hB : Below W.heap.size W w') : PD base w' pb b sb s := ⟨h.is.below hB, h.in_, h.lo⟩
theorem Offer_every (base : Nat) (s : HS) (pb b sb : Nat) (n v : Int) (l : List Int) (h0 : ∀ x ∈ l, 0 ≤ x) (A : Option Addr) (m c : Nat) (W : World) (hP : PA base W pb b sb s) (hC : (Kd.int .u8).C W A m l) (hc : m ≤ c) (hm : m ≤ 1000000) (hA : ∀ ad, A = some ad → ¬ PS3 pb b sb ad.block) :
    Calls Tryd.prog 10 #[.pointer (some ⟨pb, 0, none⟩), .int .i64 n, .int .i64 v, .slice A m c] W fun e w' => ∃ u b' sb', e = .returned (.tuple #[u, .int .i64 (s.step n v l).2.1]) ∧ (Kd.int .u8).R 5 w' W.heap.size (fun k => W.heap.size ≤ k) u (ints (s.step n v l).2.2) ∧
      PA base w' pb b' sb' (s.step n v l).1 ∧ ((b' = b ∧ sb' = sb) ∨ (W.heap.size ≤ b' ∧ W.heap.size ≤ sb')) ∧ Chg (PS3 pb b sb) W w' := by
  cases hd : s.done
  · by_cases he : hErr n v l = 0
    · obtain ⟨nn, vv, p, rfl, rfl, rfl, hn, hv, hp, hl⟩ := hErr_ok h0 he
      have hpl : (ints p).length = m := Kd.C_len hC
      rw [ints_len, hl] at hpl
      unfold PA at hP
      rw [hd] at hP
      refine (Offer_all pb b sb nn s.N s.came s.xs s.cs vv hv p hp m hpl (hl.trans hpl) A c hc W hP.is hn hP.in_ hC hA hP.taps hP.zero).mono ?_
      rintro e w' ⟨u, b', sb', he', hR, hI, hs, hC'⟩
      have hN := hP.next (u := u) (e := e) hI hs hC'
      have hst := step_ok hd he
      generalize addv (offX nn s.N s.came s.xs) vv p (8 * (nn + 4) + 6) = X at hst he' hR hN
      generalize hRes (8 * (nn + 4)) vv p X = r at hst he' hR hN
      rw [hst]
      exact ⟨u, b', sb', he', hR, hN, hs, hC'⟩
    · rw [step_bad hd he]
      have hI := hP.is
      rw [hd] at hI
      refine (Offer_bad pb b sb s.N s.came s.xs s.cs n v l A m c W hI hC hc hm he).mono ?_
      rintro e w' ⟨he', hB⟩
      exact ⟨_, b, sb, he', Kd.R_nil _ _ _ _ _, hP.below hB, .inl ⟨rfl, rfl⟩, Chg.of_below hB _⟩
  · rw [step_old hd]
    have hI := hP.is
    rw [hd] at hI
    refine (Offer_old pb b sb s.N s.came s.xs s.cs n v (.slice A m c) W hI).mono ?_
    rintro e w' ⟨he', rfl⟩
    exact ⟨_, b, sb, he', Kd.R_nil _ _ _ _ _, hP, .inl ⟨rfl, rfl⟩, Chg.refl _ _⟩
theorem Doc_every (base : Nat) (s : HS) (pb b sb : Nat) (n v : Int) (l : List Int) (h0 : ∀ x ∈ l, 0 ≤ x) (A : Option Addr) (m c : Nat) (W : World) (hP : PD base W pb b sb s) (hC : (Kd.int .u8).C W A m l) (hc : m ≤ c) (hm : m ≤ 1000000) (hA : ∀ ad, A = some ad → ¬ PS3 pb b sb ad.block) :
    Calls Tryd.prog 20 #[.pointer (some ⟨pb, 0, none⟩), .int .i64 n, .int .i64 v, .slice A m c] W fun e w' => ∃ A' k c' b' sb', e = .returned (.tuple #[.slice A' k c', .int .i64 (s.step n v l).2.1]) ∧ (Kd.int .u8).C w' A' k (ints (s.step n v l).2.2) ∧
      PD base w' pb b' sb' (s.step n v l).1 ∧ ((b' = b ∧ sb' = sb) ∨ (W.heap.size ≤ b' ∧ W.heap.size ≤ sb')) ∧ Chg (PS3 pb b sb) W w' := by
  have hlo := hP.lo
  cases hd : s.done
  · by_cases he : hErr n v l = 0
    · obtain ⟨nn, vv, p, rfl, rfl, rfl, hn, hv, hp, hl⟩ := hErr_ok h0 he
      have hpl : (ints p).length = m := Kd.C_len hC
      rw [ints_len, hl] at hpl
      have hI := hP.is
      rw [hd] at hI
      have hblk := blk_lt hI.blk
      refine (Doc_all pb b sb nn s.N s.came s.xs s.cs vv hv p hp m hpl (hl.trans hpl) A c hc W hI hn hP.in_ hC hA).mono ?_
      rintro e w' ⟨A', k, c', b', sb', he', hC1, hI', hs, hC'⟩
      have hX := addv_in (offX nn s.N s.came s.xs) vv p (offX_in hP.in_) (8 * (nn + 4) + 6)
      have hst := step_ok hd he
      generalize addv (offX nn s.N s.came s.xs) vv p (8 * (nn + 4) + 6) = X at hst he' hC1 hI' hX
      generalize hRes (8 * (nn + 4)) vv p X = r at hst he' hC1 hI'
      rw [hst]
      exact ⟨A', k, c', b', sb', he', hC1, ⟨hI', hX, by omega⟩, hs, hC'⟩
    · rw [step_bad hd he]
      have hI := hP.is
      rw [hd] at hI
      refine (Doc_bad pb b sb s.N s.came s.xs s.cs n v l A m c W hI hC hm he).mono ?_
      rintro e w' ⟨he', hB⟩
      exact ⟨none, 0, 0, b, sb, he', Kd.C_nil _ _, hP.below hB, .inl ⟨rfl, rfl⟩, Chg.of_below hB _⟩
  · rw [step_old hd]
    have hI := hP.is
    rw [hd] at hI
    refine (Doc_old pb b sb s.N s.came s.xs s.cs n v (.slice A m c) W hI).mono ?_
    rintro e w' ⟨he', rfl⟩
    exact ⟨none, 0, 0, b, sb, he', Kd.C_nil _ _, hP, .inl ⟨rfl, rfl⟩, Chg.refl _ _⟩
end Go.Proofs.YtnejnnfjbhpigaaDoor.Vit
