/- The law ViterbiTells: of all numbers the list and its score are told, or why there is none. Each theorem says its own conditions. -/
import Derived.Test.YticiilolmkbncaaDoorVz
import Derived.Test.YticiilolmkbncaaDoorVx
namespace Go.Proofs.YticiilolmkbncaaDoor.Vit
open Go.RowKit Go.Proofs.YticiilolmkbncaaDoorW.PrintWords Go.Proofs.YticiilolmkbncaaDoorW.PrintLast Go.Proofs.YticiilolmkbncaaDoorW.PrintMore Go.Proofs.YticiilolmkbncaaDoor.Mem
attribute [local go_sem] max2_int min2_int max_two min_two max_three min_three max_four min_four   -- for this text's walks alone
set_option linter.unusedVariables false
set_option linter.unusedSimpArgs false

theorem Clip8_any (x : Int) (w : World) : Calls Tryd.prog 48 #[.int .i64 x] w fun e w' => e = .returned (.int .i64 (clip x)) ∧ w = w' := by
  by_cases h1 : 31 < x
  · go_enter Tryd.func48, Tryd.ntmps48
    go_wp2_with fail
    go_ret
    exact ⟨congrArg (fun i => Ending.returned (Value.int .i64 i)) (by unfold clip; omega), rfl⟩
  · by_cases h2 : x < -31
    · go_enter Tryd.func48, Tryd.ntmps48
      go_wp2_with fail
      go_ret
      exact ⟨congrArg (fun i => Ending.returned (Value.int .i64 i)) (by unfold clip; omega), rfl⟩
    · go_enter Tryd.func48, Tryd.ntmps48
      go_wp2_with fail
      go_ret
      exact ⟨congrArg (fun i => Ending.returned (Value.int .i64 i)) (by unfold clip; omega), rfl⟩
set_option maxHeartbeats 1600000 in
theorem Right8_any (xs : List Int) (A : Option Addr) (n c : Nat) (w : World) (hC : (Kd.int .i64).C w A n xs) (hc : n ≤ c) (hn : n ≤ 140737488355327) :
    Calls Tryd.prog 17 #[.slice A n c] w fun e w' => e = .returned (.bool (decide (∀ x ∈ xs, x = clip x))) ∧ ∃ q, w' = w.drewN q := by
  have hl : xs.length = n := Kd.C_len hC
  have HC := Aside0.mk (And.intro hC hl)
  clear hC hl
  go_enter Tryd.func17, Tryd.ntmps17
  go_wp2_with fail
  go_loopw [3] (fun i wr => ∃ t : Nat, i = .int .i64 t ∧ t ≤ n ∧ (∃ q, wr = w.drewN q) ∧ Aside0 (∀ x, x ∈ xs.take t → x = clip x)) (fun i _ => n - (intOf i).toNat)
  case atStart => exact ⟨0, rfl, Nat.zero_le _, ⟨0, rfl⟩, ⟨fun x hx => absurd hx (by simp)⟩⟩
  case round =>
    obtain ⟨t, rfl, ht, ⟨q, hwq⟩, hR⟩ := hrel
    have HWQ := Aside0.mk hwq
    by_cases htn : t < n
    · have hlt : (t : Int) < (n : Int) := by omega
      obtain ⟨ad, hA, hx⟩ := Kd.at_int HC.out.1 (t : Int) (by omega) hlt
      cases hA
      have htl : t < xs.length := by have := HC.out.2; omega
      rw [rd_at htl, Int.toNat_natCast] at hx
      obtain ⟨x, hxx⟩ : ∃ x, xs[t] = x := ⟨_, rfl⟩
      rw [hxx] at hx
      have hx : wr.cell? (ad.add t) = some (.int .i64 x) := by rw [hwq]; exact hx
      have HG := Aside0.mk hxx
      obtain ⟨cx, hcx⟩ : ∃ cx, clip x = cx := ⟨_, rfl⟩
      have hcl := fun W => Clip8_any x W
      rw [hcx] at hcl
      have HCL := Aside0.mk hcl
      have HCX := Aside0.mk hcx
      clear hxx hcx hcl hwq
      by_cases hq : x = cx
      · have hb : (x != cx) = false := by simp [← hq]
        have HQ := Aside0.mk hq
        clear hq
        go_wp2_with fail
        go_quiet ((go_at_call 48; exact Calls.quiet_of ((HCL.out _).mono (fun e w' h => ⟨h.1, 0, h.2.symm⟩))))
        go_wp2_with fail
        refine ⟨⟨t + 1, by go_num, by omega, ⟨_, by rw [HWQ.out]; exact World.drewN_drewN _ _ _⟩, ⟨?_⟩⟩, by simp only [intOf]; omega⟩
        intro y hy
        rw [List.take_add_one, List.getElem?_eq_getElem htl, HG.out] at hy
        rcases List.mem_append.1 hy with h | h
        · exact hR.out y h
        · have : y = x := by simpa using h
          rw [this, HCX.out]
          exact HQ.out
      · have hb : (x != cx) = true := by simpa using hq
        have HQ := Aside0.mk hq
        clear hq
        go_wp2_with fail
        go_quiet ((go_at_call 48; exact Calls.quiet_of ((HCL.out _).mono (fun e w' h => ⟨h.1, 0, h.2.symm⟩))))
        go_wp2_with fail
        go_ret
        refine ⟨congrArg (fun b => Ending.returned (Value.bool b)) (decide_eq_false (fun h => HQ.out ?_)).symm, _, by rw [HWQ.out]; exact World.drewN_drewN _ _ _⟩
        rw [← HCX.out]
        exact h x (by rw [← HG.out]; exact List.getElem_mem htl)
    · have hlt : ¬ (t : Int) < (n : Int) := by omega
      obtain rfl : t = n := by omega
      clear hwq
      go_wp2_with fail
      go_ret
      refine ⟨congrArg (fun b => Ending.returned (Value.bool b)) (decide_eq_true (fun x hx => hR.out x ?_)).symm, q, HWQ.out⟩
      rw [List.take_of_length_le (by have := HC.out.2; omega)]
      exact hx
/-- The first of a row. -/
theorem head_row {k : IntKind} {w : World} {A : Option Addr} {n m : Nat} {x : List Int} (h : (Kd.int k).C w A n x) (hm : m ≤ n) : (Kd.int k).C w A m (x.take m) := by
  obtain ⟨hl, hb, hr⟩ := h
  refine ⟨by rw [List.length_take]; omega, by omega, fun hp => ?_⟩
  obtain ⟨ad, hA, hc⟩ := hr (by omega)
  refine ⟨ad, hA, fun j p hj => hc j p ?_⟩
  rw [List.getElem?_take] at hj
  split at hj
  · exact hj
  · cases hj
/-- What the best list scores. -/
theorem best_scores {Y : List Int} {n : Nat} (hn : n ≤ 4096) (hY : Y.length = 4 * (n + 6)) (hin : ∀ y ∈ Y, -31 ≤ y ∧ y ≤ 31) : sc Y (code (bestL Y n)) = bestS Y n := by
  have hf : ∀ j, -1000 ≤ (fun j => Y.getD j 0) j ∧ (fun j => Y.getD j 0) j ≤ 1000 := fun j => in1000 hin j
  have h1 := (cv_best hf hn n 0 0 (by omega) (by omega)).2.1
  have h2 := ps_sc (fun j => Y.getD j 0) (bestL Y n ++ zs 6) 0 0 Y (by rw [hY, List.length_append, zs_len]; unfold bestL; rw [bw_len]) (fun j => Or.inl (by rw [Nat.mul_zero, Nat.zero_add]))
  unfold code
  rw [← h2]
  exact h1
set_option maxHeartbeats 6400000 in
set_option maxRecDepth 100000 in
theorem tells_any (A : Option Addr) (n0 c : Nat) (xs : List Int) (w : World) (hC : (Kd.int .i64).C w A n0 xs) (hc : n0 ≤ c) (hn : n0 ≤ 140737488355327) (ht : Taps w) :
    Calls Tryd.prog 4 #[.slice A n0 c] w fun e w' => e = .returned (.bool true) ∧ Below w.heap.size w w' := by
  have hx0 : xs.length = n0 := Kd.C_len hC
  obtain ⟨m, hmm⟩ : ∃ m, min n0 200 = m := ⟨_, rfl⟩
  have hmin : (if (200 : Int) < (n0 : Int) then (200 : Int) else (n0 : Int)) = (m : Int) := by split <;> omega
  have hm0 : m ≤ n0 := by omega
  have hm200 : m ≤ 200 := by omega
  have hmc : (m : Int) ≤ (c : Int) := by omega
  obtain ⟨ys, hys⟩ : ∃ ys, xs.take m = ys := ⟨_, rfl⟩
  have hyl : ys.length = m := by rw [← hys, List.length_take]; omega
  have hCm := head_row hC hm0
  rw [hys] at hCm
  have HM := Aside0.mk (And.intro hCm (And.intro ht hyl))
  clear hC ht hx0 hmm hys hyl hCm
  go_enter Tryd.func4, Tryd.ntmps4
  go_upto_region 2 with (at_builtin; refine Kd.R_append_rows (Kd.int .i64) (w0 := w) w.heap.size rfl _ _ _ _ (.int .i64 0) 8 rfl Tryd.underlying22 info3 rfl (by decide) (by decide) (.slice (some ⟨w.heap.size, 0, none⟩) 0 0) [] ys A m c (fun k => w.heap.size ≤ k) (fun _ => False) rfl rfl (Kd.R_of_own (World.ownsRow_made w #[] 0 (Nat.le_refl _) (Nat.zero_le _) rfl) (fun k hk => by simp [Value.ownBlock] at hk; omega)) (Kd.C_below HM.out.1 (below_alloc (Below.refl _ _) _)) (fun x cs h => h) (fun _ hk => hk.elim) (fun k hk => by simp at hk; omega) (below_alloc (Below.refl _ _) _) (by simp) (by simp; omega) ?_; intro v1 w1 hR1 hB1 hG1 hat1; have H1 := Aside0.mk (And.intro hR1 hB1); clear hR1 hB1 hG1 hat1)
  obtain ⟨A1, c1, e1, hc1, hC1⟩ := Kd.R_reads H1.out.1
  rw [List.nil_append, HM.out.2.2] at e1 hc1 hC1
  subst e1
  have HC1 := Aside0.mk (And.intro hC1 hc1)
  clear hC1
  go_upto_region 3 with (at_builtin; refine Kd.R_append_rows (Kd.int .i64) (w0 := w1) w1.heap.size rfl _ _ _ _ (.int .i64 0) 8 rfl Tryd.underlying22 info3 rfl (by decide) (by decide) (.slice (some ⟨w1.heap.size, 0, none⟩) 0 0) [] ys A1 m c1 (fun k => w1.heap.size ≤ k) (fun _ => False) rfl rfl (Kd.R_of_own (World.ownsRow_made w1 #[] 0 (Nat.le_refl _) (Nat.zero_le _) rfl) (fun k hk => by simp [Value.ownBlock] at hk; omega)) (Kd.C_below HC1.out.1 (below_alloc (Below.refl _ _) _)) (fun x cs h => h) (fun _ hk => hk.elim) (fun k hk => by simp at hk; omega) (below_alloc (Below.refl _ _) _) (by simp) (by simp; omega) ?_; intro v2 w2 hR2 hB2 hG2 hat2; have H2 := Aside0.mk (And.intro hR2 hB2); clear hR2 hB2 hG2 hat2)
  obtain ⟨A2, c2, e2, hc2, hC2⟩ := Kd.R_reads H2.out.1
  rw [List.nil_append, HM.out.2.2] at e2 hc2 hC2
  subst e2
  have hB2w : Below w.heap.size w w2 := H1.out.2.trans (H2.out.2.mono H1.out.2.size)
  have hdec := Decode_any ys A1 c1 w2 (by rw [HM.out.2.2]; exact Kd.C_below HC1.out.1 H2.out.2) (by rw [HM.out.2.2]; exact hc1) (by rw [HM.out.2.2]; omega) (HM.out.2.1.below hB2w)
  obtain ⟨D, hD⟩ : ∃ D, decOf ys = D := ⟨_, rfl⟩
  rw [hD, HM.out.2.2] at hdec
  have HD := Aside0.mk (And.intro hdec (And.intro hB2w (And.intro hC2 hD)))
  clear hdec hB2w hC2 hD hc1 hc2
  go_upto_region 4 with (go_at_call 14; refine HD.out.1.mono ?_; rintro e w4 ⟨v4, rfl, hR4, hB4⟩; have H4 := Aside0.mk (And.intro hR4 hB4); clear hR4 hB4)
  obtain ⟨A4, c4, e4, hc4, hC4⟩ := Kd.R_reads H4.out.1
  subst e4
  have hB4w := HD.out.2.1.trans (H4.out.2.mono HD.out.2.1.size)
  have HDS := Aside0.mk (And.intro (decodes_any w4 (HM.out.2.1.below hB4w)) (And.intro hB4w (And.intro hC4 hc4)))
  clear hB4w hC4 hc4
  go_upto_region 7 with (go_at_call 16; refine HDS.out.1.mono ?_; rintro e w9 ⟨rfl, hB9⟩; have HB9 := Aside0.mk hB9; clear hB9)
  have hB9w := HDS.out.2.1.trans (HB9.out.mono HDS.out.2.1.size)
  have hB29 : Below w2.heap.size w2 w9 := H4.out.2.trans (HB9.out.mono H4.out.2.size)
  have hX1 := Kd.C_below (Kd.C_below HC1.out.1 H2.out.2) hB29
  have hX2 := Kd.C_below HD.out.2.2.1 hB29
  have HX := Aside0.mk (And.intro hX1 (And.intro hX2 (And.intro hB9w (Kd.C_below HDS.out.2.2.1 HB9.out))))
  clear hX1 hX2 hB9w hB29
  go_loopw [7] (fun i wr => ∃ t : Nat, i = .int .i64 t ∧ t ≤ m ∧ ∃ q, wr = w9.drewN q) (fun i _ => m - (intOf i).toNat)
  case atStart => exact ⟨0, rfl, Nat.zero_le _, 0, rfl⟩
  case round =>
    obtain ⟨t, rfl, ht, q, hwq⟩ := hrel
    have HWQ := Aside0.mk hwq
    by_cases htm : t < m
    · have hlt : (t : Int) < (m : Int) := by omega
      obtain ⟨ad, hA, hx⟩ := Kd.at_int HX.out.1 (t : Int) (by omega) hlt
      cases hA
      obtain ⟨ad2, hA2, hx2⟩ := Kd.at_int HX.out.2.1 (t : Int) (by omega) hlt
      cases hA2
      obtain ⟨x, hxx⟩ : ∃ x, rd ys t = x := ⟨_, rfl⟩
      rw [hxx, Int.toNat_natCast] at hx hx2
      have hx1 : wr.cell? (ad.add t) = some (.int .i64 x) := by rw [hwq]; exact hx
      have hx3 : wr.cell? (ad2.add t) = some (.int .i64 x) := by rw [hwq]; exact hx2
      have hb : (x != x) = false := by simp
      clear hxx hwq hx hx2
      go_wp2_with fail
      go_quiet (fail)
      go_wp2_with fail
      exact ⟨⟨t + 1, by go_num, by omega, _, by rw [HWQ.out]; exact World.drewN_drewN _ _ _⟩, by simp only [intOf]; omega⟩
    · have hlt : ¬ (t : Int) < (m : Int) := by omega
      obtain rfl : t = m := by omega
      have hBr : Below w.heap.size w wr := by rw [hwq]; exact pw_below_drewN HX.out.2.2.1 q
      have hX1 : (Kd.int .i64).C wr A1 t ys := by rw [hwq]; exact Kd.C_drewN HX.out.1 q
      have hX4 : (Kd.int .u8).C wr A4 D.1.length D.1 := by rw [hwq]; exact Kd.C_drewN HX.out.2.2.2 q
      have HR := Aside0.mk (And.intro hBr (And.intro hX1 hX4))
      clear hwq hBr hX1 hX4
      have hyl := HM.out.2.2
      by_cases hP : t % 4 ≠ 0 ∨ t < 24
      · have hD1 : D = ([], 0, 1) := by
          rw [← HD.out.2.2.2]
          unfold decOf
          rw [if_pos (by omega)]
        subst hD1
        clear hyl
        obtain ⟨r, hr⟩ : ∃ r, t % 4 = r := ⟨_, rfl⟩
        have q2 : (t : Int).tmod 4 = (r : Int) := by rw [Int.tmod_eq_emod_of_nonneg (by omega)]; omega
        by_cases hr0 : r = 0
        · subst hr0
          have h24 : (t : Int) < 24 := by omega
          have hd24 : decide ((t : Int) < 24) = true := decide_eq_true h24
          have hd24' : decide (t < 24) = true := decide_eq_true (by omega)
          clear hr
          go_wp2_with fail
          go_ret
          exact ⟨rfl, HR.out.1⟩
        · have hrr : ((r : Int) != 0) = true := by simpa using hr0
          clear hr
          go_wp2_with fail
          all_goals go_ret
          all_goals exact ⟨rfl, HR.out.1⟩
      · obtain ⟨n, hn6⟩ : ∃ n, t = 4 * (n + 6) := ⟨t / 4 - 6, by omega⟩
        have q2 : (t : Int).tmod 4 = 0 := by rw [Int.tmod_eq_emod_of_nonneg (by omega)]; omega
        have h24 : ¬ (t : Int) < 24 := by omega
        have hd24 : decide ((t : Int) < 24) = false := decide_eq_false h24
        have hd24' : decide (t < 24) = false := decide_eq_false (by omega)
        have hri := Right8_any ys A1 t c1 wr HR.out.2.1 HC1.out.2 (by omega)
        by_cases hq : ∀ x ∈ ys, x = clip x
        · rw [decide_eq_true hq] at hri
          have hin : ∀ y ∈ ys, -31 ≤ y ∧ y ≤ 31 := fun y hy => by
            have := hq y hy
            unfold clip at this
            omega
          have hD1 : D = (ints (bestL ys n), bestS ys n, 0) := by
            rw [← HD.out.2.2.2]
            exact decOf_is (n := n) (by omega) (by omega) hin
          subst hD1
          have hsc := best_scores (Y := ys) (n := n) (by omega) (by omega) hin
          have hd9 := fun W hW => Decode9_any ys n (by omega) (by omega) hin A1 c1 W hW (by rw [hyl]; exact HC1.out.2)
          obtain ⟨b0, hb0⟩ : ∃ b0, bestL ys n = b0 := ⟨_, rfl⟩
          obtain ⟨S0, hS0⟩ : ∃ S0, bestS ys n = S0 := ⟨_, rfl⟩
          have hbb : Bits b0 := by rw [← hb0]; exact bw_bits _ _ _ _ _ _
          have hbl : b0.length = n := by rw [← hb0]; exact bw_len _ _ _ _ _ _
          have hX4 := HR.out.2.2
          rw [hb0, hS0] at hsc hd9
          rw [hyl] at hd9
          rw [hb0] at hX4
          simp only [hb0, hS0, ints_len, hbl] at hX4 ⊢
          have hc49 : n ≤ c4 := by have h9 := HDS.out.2.2.2; simp only [hb0, ints_len, hbl] at h9; exact h9
          have HC49 := Aside0.mk hc49
          have HE := Aside0.mk (And.intro hri (And.intro hd9 (And.intro hsc (And.intro hbb (And.intro hbl (And.intro hX4 hn6))))))
          have hscore := fun (W : World) (B : Option Addr) (d : Nat) h1 h2 hd => Score_any ys (code b0) (fun y hy => by have := hin y hy; omega) A1 B c1 d t W hyl (by rw [code_len, hbl, hn6]) (by omega) h1 h2 HC1.out.2 hd
          rw [hsc] at hscore
          have hn200 : n ≤ 200 := by omega
          have HSC := Aside0.mk hscore
          clear hri hd9 hsc hbb hbl hX4 hn6 hscore hb0 hS0 hq hin hyl hc49
          go_upto_region 15 with (go_at_call 17; refine HE.out.1.mono ?_; rintro e w5 ⟨rfl, q5, hw5⟩; have HW5 := Aside0.mk hw5; clear hw5)
          have hB5 : Below wr.heap.size wr w5 := by rw [HW5.out]; exact pw_below_drewN (Below.refl _ _) q5
          have hB5w := HR.out.1.trans (hB5.mono HR.out.1.size)
          have HB5 := Aside0.mk (And.intro (Kd.C_below HR.out.2.1 hB5) (And.intro hB5w (Kd.C_below HE.out.2.2.2.2.2.1 hB5)))
          clear hB5 hB5w
          obtain ⟨S, hS⟩ : ∃ S, strOfNums (ints b0) = S := ⟨_, rfl⟩
          have HSS := Aside0.mk hS
          clear hS
          go_upto_region 16 with (go_at_call 18; refine (HE.out.2.1 _ HB5.out.1).mono ?_; rintro e w6 ⟨v6, rfl, hR6, hB6⟩; have H6 := Aside0.mk (And.intro hR6 hB6); clear hR6 hB6)
          obtain ⟨A6, c6, e6, hc6, hC6⟩ := Kd.R_reads H6.out.1
          rw [ints_len, HE.out.2.2.2.2.1] at e6 hC6
          subst e6
          have k1 : (convert 25 9 (.slice A4 n c4)).run Tryd.prog w6 = .ok (.string S) w6 := by rw [← HSS.out]; exact Kd.C_string Tryd.underlying25 Tryd.underlying5 Tryd.underlying9 (Kd.C_below HB5.out.2.2 H6.out.2)
          have k2 : (convert 25 9 (.slice A6 n c6)).run Tryd.prog w6 = .ok (.string S) w6 := by rw [← HSS.out]; exact Kd.C_string Tryd.underlying25 Tryd.underlying5 Tryd.underlying9 hC6
          have hcode := fun W hW => Code_any b0 HE.out.2.2.2.1 A4 c4 W hW (by rw [HE.out.2.2.2.2.1]; exact HC49.out) (by rw [HE.out.2.2.2.2.1]; omega)
          rw [HE.out.2.2.2.2.1] at hcode
          have HCO := Aside0.mk hcode
          clear hC6 hc6 hcode
          go_wp2_with (first | (go_at_call 20; (refine (HCO.out _ (Kd.C_below HB5.out.2.2 H6.out.2)).mono ?_; rintro e w10 ⟨v10, rfl, hR10, hB10⟩; obtain ⟨A7, c7, e7, hc7, hC7⟩ := Kd.R_reads hR10; rw [ints_len, code_len, HE.out.2.2.2.2.1, ← HE.out.2.2.2.2.2.2] at e7 hc7 hC7; subst e7; have H10 := Aside0.mk (And.intro hc7 (And.intro hC7 hB10)); clear hR10 hc7 hC7 hB10)) | (go_at_call 19; (refine (HSC.out _ A7 c7 (Kd.C_below (Kd.C_below HB5.out.1 H6.out.2) H10.out.2.2) H10.out.2.1 H10.out.1).mono ?_; rintro e w11 ⟨rfl, rfl⟩)))
          go_ret
          have h6w := HB5.out.2.1.trans (H6.out.2.mono HB5.out.2.1.size)
          exact ⟨rfl, h6w.trans (H10.out.2.2.mono h6w.size)⟩
        · rw [decide_eq_false hq] at hri
          have hD1 : D = ([], 0, 5) := by
            rw [← HD.out.2.2.2]
            unfold decOf
            rw [if_neg (by omega), if_pos (by
              refine Classical.byContradiction fun h => hq fun x hx => ?_
              exact Classical.byContradiction fun h2 => h ⟨x, hx, h2⟩)]
          subst hD1
          have HE := Aside0.mk hri
          clear hri hyl hn6 hq
          go_wp2_with (go_at_call 17; refine HE.out.mono ?_; rintro e w5 ⟨rfl, q5, hw5⟩; have HW5 := Aside0.mk hw5; clear hw5)
          go_ret
          exact ⟨rfl, by rw [HW5.out]; exact pw_below_drewN HR.out.1 q5⟩
end Go.Proofs.YticiilolmkbncaaDoor.Vit
