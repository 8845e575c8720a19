/- The law ViterbiTwice: with all numbers doubled the same list is told, and twice the score; with noughts alone the list of noughts. Each theorem says its own conditions. -/
import Derived.Test.YticiilolmkbncaaDoorVv
namespace Go.Proofs.YticiilolmkbncaaDoor.Vit
open Go.RowKit Go.Proofs.YticiilolmkbncaaDoorW.PrintWords Go.Proofs.YticiilolmkbncaaDoorW.PrintLast Go.Proofs.YticiilolmkbncaaDoorW.PrintMore Go.Proofs.YticiilolmkbncaaDoor.Mem
attribute [local go_sem] max2_int min2_int max_two min_two max_three min_three max_four min_four   -- for this text's walks alone
set_option linter.unusedVariables false
set_option linter.unusedSimpArgs false

/-- A slice's first numbers, each within fifteen; and the doubles. -/
def rem16 (xs : List Int) (n : Nat) : List Int := (xs.take n).map fun x => x.tmod 16
def dbl (xs : List Int) : List Int := xs.map fun x => 2 * x
theorem rem16_in {xs : List Int} {n : Nat} {x : Int} (h : x ∈ rem16 xs n) : -15 ≤ x ∧ x ≤ 15 := by
  obtain ⟨y, _, rfl⟩ := List.mem_map.1 h
  have h1 := Int.lt_tmod_of_pos y (show (0 : Int) < 16 by decide)
  have h2 := Int.tmod_lt_of_pos y (show (0 : Int) < 16 by decide)
  omega
/-- Of numbers and their doubles the same list is told, and twice the score. -/
theorem twice_dec {ys : List Int} {n : Nat} (hl : ys.length = 4 * n) (hn : n ≤ 40) (hin : ∀ y ∈ ys, -15 ≤ y ∧ y ≤ 15) :
    (n < 6 → decOf ys = ([], 0, 1) ∧ decOf (dbl ys) = ([], 0, 1)) ∧
    (∀ m, n = m + 6 → ∃ (b : List Nat) (s : Int), decOf ys = (ints b, s, 0) ∧ decOf (dbl ys) = (ints b, 2 * s, 0) ∧ b.length = m ∧ -1000000000 ≤ s ∧ s ≤ 1000000000) := by
  have hd : (dbl ys).length = 4 * n := by simp [dbl, hl]
  refine ⟨fun h => ⟨?_, ?_⟩, fun m hm => ?_⟩
  · unfold decOf; rw [if_pos (by omega)]
  · unfold decOf; rw [if_pos (by omega)]
  · subst hm
    have hin2 : ∀ y ∈ dbl ys, -31 ≤ y ∧ y ≤ 31 := fun y hy => by
      obtain ⟨x, hx, rfl⟩ := List.mem_map.1 hy
      have := hin x hx
      omega
    have hf : ∀ j, (fun j => (dbl ys).getD j 0) j = 2 * (fun j => ys.getD j 0) j := fun j => by
      show (dbl ys).getD j 0 = 2 * ys.getD j 0
      unfold dbl
      rw [List.getD_eq_getElem?_getD, List.getD_eq_getElem?_getD, List.getElem?_map]
      cases ys[j]? <;> rfl
    have b1 : ∀ j, -1000 ≤ (fun j => ys.getD j 0) j ∧ (fun j => ys.getD j 0) j ≤ 1000 := fun j => by
      show -1000 ≤ ys.getD j 0 ∧ ys.getD j 0 ≤ 1000
      by_cases hj : j < ys.length
      · have h1 : ys.getD j 0 ∈ ys := by rw [List.getD_eq_getElem?_getD, List.getElem?_eq_getElem hj]; exact List.getElem_mem hj
        have := hin _ h1
        omega
      · rw [List.getD_eq_getElem?_getD, List.getElem?_eq_none (by omega)]
        exact ⟨by decide, by decide⟩
    have b1' : ∀ j, -15 ≤ (fun j => ys.getD j 0) j ∧ (fun j => ys.getD j 0) j ≤ 15 := fun j => by
      show -15 ≤ ys.getD j 0 ∧ ys.getD j 0 ≤ 15
      by_cases hj : j < ys.length
      · exact hin _ (by rw [List.getD_eq_getElem?_getD, List.getElem?_eq_getElem hj]; exact List.getElem_mem hj)
      · rw [List.getD_eq_getElem?_getD, List.getElem?_eq_none (by omega)]
        exact ⟨by decide, by decide⟩
    have b2 : ∀ j, -1000 ≤ (fun j => (dbl ys).getD j 0) j ∧ (fun j => (dbl ys).getD j 0) j ≤ 1000 := fun j => by
      have h1 := hf j
      have h2 := b1' j
      rw [h1]
      omega
    obtain ⟨e1, e2⟩ := best_twice b1 b2 (show m ≤ 4096 by omega) hf
    have hs := (cv_in (n := m) (u := 0) (s := 0) b1 (show m + 6 ≤ 4102 by omega)).resolve_left (cv_best b1 (show m ≤ 4096 by omega) m 0 0 (by omega) (by omega)).2.2.1
    refine ⟨bw (fun j => ys.getD j 0) m (m + 6) m 0 0, cv (fun j => ys.getD j 0) m (m + 6) 0 0, decOf_is hl (by omega) (fun y hy => by have := hin y hy; omega), ?_, bw_len _ _ _ _ _ _, hs.1, hs.2⟩
    rw [decOf_is hd (by omega) hin2, e1, e2]
theorem R_any {k : IntKind} {e : Nat} {w : World} {base : Nat} {ok ok' : Nat → Prop} {v : Value} {xs : List Int} (h : (Kd.int k).R e w base ok v xs) (hok : ∀ b, v.ownBlock = some b → ok' b) : (Kd.int k).R e w base ok' v xs :=
  Kd.R_of_own (enc := Value.int k) (h1 := fun _ => rfl) (Kd.own_of_R (enc := Value.int k) (h1 := fun _ => rfl) h) hok
/-- Two rows: one has been written; the other is as it was, and they are still two. -/
theorem pair_step {W w7 : World} {v1 v1' v2 : Value} {xs2 : List Int} {base : Nat} (h2 : (Kd.int .i64).R 3 W base (fun _ => True) v2 xs2) (hg : W.grownBy w7 v1.ownBlock)
    (hat : v1'.ownBlock = v1.ownBlock ∨ ∃ b, v1'.ownBlock = some b ∧ W.heap.size ≤ b) (hne : ∀ k, v1.ownBlock = some k → v2.ownBlock ≠ some k) :
    (Kd.int .i64).R 3 w7 base (fun _ => True) v2 xs2 ∧ ∀ k, v1'.ownBlock = some k → v2.ownBlock ≠ some k := by
  refine ⟨Kd.R_mono (Kd.R_grown (R_any (ok' := fun k => v2.ownBlock = some k) h2 (fun _ h => h)) hg (fun k hk h => hne k h.symm hk)) (fun _ _ => trivial), fun k hk h => ?_⟩
  rcases hat with hat | ⟨b, hb, hle⟩
  · exact hne k (hat ▸ hk) h
  · rw [hb] at hk
    cases hk
    have := ((Kd.R_bound h2).1 _ h).2.2.1
    omega

set_option maxHeartbeats 6400000 in
set_option maxRecDepth 100000 in
theorem twice_any (A : Option Addr) (n0 c : Nat) (xs : List Int) (w : World) (hC : (Kd.int .i64).C w A n0 xs) (hc : n0 ≤ c) (hn : n0 ≤ 140737488355328) (ht : Taps w) :
    Calls Tryd.prog 8 #[.slice A n0 c] w fun e w' => e = .returned (.bool true) ∧ Below w.heap.size w w' := by
  have hx0 : xs.length = n0 := Kd.C_len hC
  have HT := Aside0.mk (And.intro ht (And.intro hC hx0))
  obtain ⟨Q, hQ⟩ : ∃ Q, n0 / 4 = Q := ⟨_, rfl⟩
  obtain ⟨n, hnn⟩ : ∃ n, min Q 40 = n := ⟨_, rfl⟩
  obtain ⟨M, hM⟩ : ∃ M, 4 * n = M := ⟨_, rfl⟩
  have q1 : (n0 : Int).tdiv 4 = (Q : Int) := by rw [Int.tdiv_eq_ediv_of_nonneg (by omega)]; omega
  have q2 : wrap64 (Q : Int) = (Q : Int) := by unfold wrap64; omega
  have hmin : (if (40 : Int) < (Q : Int) then (40 : Int) else (Q : Int)) = (n : Int) := by split <;> omega
  have q3 : wrap64 (4 * (n : Int)) = (M : Int) := by unfold wrap64; omega
  have q4 : 4 * (n : Int) = (M : Int) := by omega
  have hM0 : M ≤ n0 := by omega
  have hM160 : M ≤ 160 := by omega
  have HN := Aside0.mk (And.intro hM (show n ≤ 40 by omega))
  clear ht hC hx0 hQ hnn hM
  go_enter Tryd.func8, Tryd.ntmps8
  go_wp2_with fail
  go_loopw [4, 5, 6] (fun o p s wr => ∃ t : Nat, s = .int .i64 t ∧ t ≤ M ∧ (Kd.int .i64).R 3 wr w.heap.size (fun _ => True) o (rem16 xs t) ∧ (Kd.int .i64).R 3 wr w.heap.size (fun _ => True) p (dbl (rem16 xs t)) ∧ (∀ k, o.ownBlock = some k → p.ownBlock ≠ some k) ∧ Below w.heap.size w wr) (fun _ _ s _ => M - (intOf s).toNat)
  case atStart => exact ⟨0, rfl, by omega, Kd.R_nil _ _ _ _ _, Kd.R_nil _ _ _ _ _, (fun k hk => by simp [Value.ownBlock] at hk), Below.refl _ _⟩
  case round =>
    obtain ⟨t, rfl, ht, hR1, hR2, hne, hB⟩ := hrel
    have HR := Aside0.mk (And.intro hR1 (And.intro hR2 (And.intro hne hB)))
    clear hR1 hR2 hne
    by_cases h1 : t < M
    · have h1' : (t : Int) < (M : Int) := by omega
      obtain ⟨ad, hA, hcell⟩ := Kd.at_int (Kd.C_below HT.out.2.1 hB) (t : Int) (by omega) (by omega)
      cases hA
      have htl : t < xs.length := by have := HT.out.2.2; omega
      have htk : rem16 xs (t + 1) = rem16 xs t ++ [(xs[t]).tmod 16] := by
        unfold rem16
        rw [List.take_add_one, List.getElem?_eq_getElem htl, List.map_append]
        rfl
      have htd : dbl (rem16 xs (t + 1)) = dbl (rem16 xs t) ++ [2 * (xs[t]).tmod 16] := by
        rw [htk]
        unfold dbl
        rw [List.map_append]
        rfl
      have hl1 : (rem16 xs t).length ≤ 160 := by unfold rem16; rw [List.length_map, List.length_take]; omega
      have hl2 : (dbl (rem16 xs t)).length ≤ 160 := by unfold dbl; rw [List.length_map]; exact hl1
      rw [rd_at htl, Int.toNat_natCast] at hcell
      obtain ⟨x, hxx⟩ : ∃ x, xs[t] = x := ⟨_, rfl⟩
      rw [hxx] at hcell htk htd
      obtain ⟨y, hy⟩ : ∃ y, x.tmod 16 = y := ⟨_, rfl⟩
      have hyr : -16 < y ∧ y < 16 := by
        have h1 := Int.lt_tmod_of_pos x (show (0 : Int) < 16 by decide)
        have h2 := Int.tmod_lt_of_pos x (show (0 : Int) < 16 by decide)
        omega
      rw [hy] at htk htd
      have hw1 : wrap64 y = y := by unfold wrap64; omega
      have hw2 : wrap64 (2 * y) = 2 * y := by unfold wrap64; omega
      have HTK := Aside0.mk (And.intro htk (And.intro htd (And.intro hl1 hl2)))
      clear hB hxx htk htd hl1 hl2 hyr
      go_wp2_with (first | ((with_reducible refine gate_builtin (b := .append) (xs := #[.tmp 32, .tmp 34]) rfl ?_); at_builtin; refine Kd.R_append (Kd.int .i64) (w0 := w) w.heap.size rfl (.tmp 32) (.tmp 34) 22 3 (.int .i64 0) 8 rfl Tryd.underlying22 info3 rfl (by decide) (by omega) u4 (rem16 xs t) y [.int .i64 y] (fun _ => True) (fun _ => False) rfl rfl ?aP (fun _ hk => hk.elim) ?aF ?aO ?aB ?aS ?aL ?_; (case aP => exact rfl); (case aB => exact HR.out.2.2.2); (case aF => exact (fun _ _ => trivial)); (case aO => exact HR.out.1); (case aS => exact below_size HR.out.2.2.2); (case aL => have := HTK.out.2.2.1; omega); intro v1 w7 ho hb hg hat; have hp := pair_step HR.out.2.1 hg hat HR.out.2.2.1; have HN1 := Aside0.mk (And.intro ho (And.intro hb hp)); clear ho hb hg hat hp) | ((with_reducible refine gate_builtin (b := .append) (xs := #[.tmp 36, .tmp 39]) rfl ?_); at_builtin; refine Kd.R_append (Kd.int .i64) (w0 := w) w.heap.size rfl (.tmp 36) (.tmp 39) 22 3 (.int .i64 0) 8 rfl Tryd.underlying22 info3 rfl (by decide) (by omega) u5 (dbl (rem16 xs t)) (2 * y) [.int .i64 (2 * y)] (fun _ => True) (fun _ => False) rfl rfl ?bP (fun _ hk => hk.elim) ?bF ?bO ?bB ?bS ?bL ?_; (case bP => exact rfl); (case bB => exact HN1.out.2.1); (case bF => exact (fun _ _ => trivial)); (case bO => exact HN1.out.2.2.1); (case bS => exact below_size HN1.out.2.1); (case bL => have := HTK.out.2.2.2; omega); intro v2 w8 ho hb hg hat; have hp := pair_step HN1.out.1 hg hat (fun k h h' => HN1.out.2.2.2 k h' h); have HN2 := Aside0.mk (And.intro ho (And.intro hb hp)); clear ho hb hg hat hp))
      refine ⟨⟨v1, v2, .int .i64 ((t : Int) + 1), ⟨t + 1, by go_num, by omega, ?_, ?_, fun k h h' => HN2.out.2.2.2 k h' h, HN2.out.2.1⟩, rfl, rfl, rfl⟩, by simp only [intOf]; omega⟩
      · rw [HTK.out.1]; exact HN2.out.2.2.1
      · rw [HTK.out.2.1]; exact HN2.out.1
    · have h1' : ¬ (t : Int) < (M : Int) := by omega
      obtain rfl : t = M := by omega
      clear hB
      obtain ⟨ys, hys⟩ : ∃ ys, rem16 xs t = ys := ⟨_, rfl⟩
      have hyl : ys.length = t := by rw [← hys]; unfold rem16; rw [List.length_map, List.length_take]; have := HT.out.2.2; omega
      have hyin : ∀ y ∈ ys, -15 ≤ y ∧ y ≤ 15 := fun y hy => rem16_in (by rw [hys]; exact hy)
      have hdl : (dbl ys).length = t := by unfold dbl; rw [List.length_map]; exact hyl
      have hR1 := HR.out.1
      have hR2 := HR.out.2.1
      rw [hys] at hR1 hR2
      obtain ⟨A1, c1, rfl, hc1, hC1⟩ := Kd.R_reads hR1
      obtain ⟨A2, c2, rfl, hc2, hC2⟩ := Kd.R_reads hR2
      have hdec1 := Decode_any ys A1 c1 wr hC1 hc1 (by omega) (HT.out.1.below HR.out.2.2.2)
      have hdec2 := fun W (hB : Below wr.heap.size wr W) => Decode_any (dbl ys) A2 c2 W (Kd.C_below hC2 hB) hc2 (by omega) (HT.out.1.below (HR.out.2.2.2.trans (hB.mono HR.out.2.2.2.size)))
      have hlaw := twice_dec (n := n) (by rw [hyl, HN.out.1]) HN.out.2 hyin
      rw [hyl] at hdec1
      rw [hdl] at hdec2
      rw [hyl, hdl]
      clear hc1 hC1 hc2 hC2 hR1 hR2 hys hyin hyl hdl
      by_cases hn6 : n < 6
      · have hn6' : ¬ (6 : Int) ≤ (n : Int) := by omega
        obtain ⟨e1, e2⟩ := hlaw.1 hn6
        rw [e1] at hdec1
        rw [e2] at hdec2
        have HD := Aside0.mk (And.intro hdec1 hdec2)
        clear hdec1 hdec2 e1 e2 hlaw
        go_wp2_with fail
        refine HD.out.1.mono ?_
        rintro e w4 ⟨v4, rfl, hR4, hB4⟩
        have HB4 := Aside0.mk hB4
        clear hR4 hB4
        go_wp2_with fail
        refine (HD.out.2 _ HB4.out).mono ?_
        rintro e w5 ⟨v5, rfl, hR5, hB5⟩
        have hBw := HR.out.2.2.2.trans ((HB4.out.trans (hB5.mono HB4.out.size)).mono HR.out.2.2.2.size)
        have HDS := Aside0.mk (And.intro (decodes_any w5 (HT.out.1.below hBw)) hBw)
        clear hR5 hB5 hBw
        go_wp2_with (first | (go_at_call 16; refine HDS.out.1.mono ?_; rintro e w9 ⟨rfl, hB9⟩; have HB9 := Aside0.mk hB9; clear hB9))
        go_ret
        exact ⟨rfl, HDS.out.2.trans (HB9.out.mono HDS.out.2.size)⟩
      · have hn6' : (6 : Int) ≤ (n : Int) := by omega
        obtain ⟨m, hm⟩ : ∃ m, n = m + 6 := ⟨n - 6, by omega⟩
        obtain ⟨b, s, e1, e2, hbl, hs0, hs1⟩ := hlaw.2 m hm
        rw [e1] at hdec1
        rw [e2] at hdec2
        have hsub : wrap64 ((n : Int) - 6) = (m : Int) := by unfold wrap64; omega
        have hsub2 : IntKind.i64.wrap ((n : Int) - 6) = (m : Int) := by rw [IntWalk.i64_in _ (by omega)]; omega
        have hmul : wrap64 (2 * s) = 2 * s := by unfold wrap64; omega
        have hmul2 : IntKind.i64.wrap (2 * s) = 2 * s := IntWalk.i64_in _ (by omega)
        obtain ⟨Z, hZ⟩ : ∃ Z, madeCells #[Value.int .i64 0] t = Z := ⟨_, rfl⟩
        obtain ⟨Z5, hZ5⟩ : ∃ Z5, madeCells #[Value.int .u8 0] m = Z5 := ⟨_, rfl⟩
        have hmk := make_int t (by omega)
        have hmb := make_byte m (by omega)
        rw [hZ] at hmk
        rw [hZ5] at hmb
        have HD := Aside0.mk (And.intro hdec1 (And.intro hdec2 (And.intro hbl (And.intro hZ (And.intro hZ5 hm)))))
        clear hdec1 hdec2 e1 e2 hlaw hbl hZ hZ5 hm hs0 hs1 hn6
        go_wp2_with fail
        refine HD.out.1.mono ?_
        rintro e w4 ⟨v4, rfl, hR4, hB4⟩
        obtain ⟨A4, c4, e4, hc4, hC4⟩ := Kd.R_reads hR4
        replace e4 : v4 = .slice A4 m c4 := by rw [e4, ints_len, HD.out.2.2.1]
        replace hC4 : (Kd.int .u8).C w4 A4 m (ints b) := by rw [ints_len, HD.out.2.2.1] at hC4; exact hC4
        subst e4
        have H4 := Aside0.mk (And.intro hC4 hB4)
        clear hR4 hB4 hc4 hC4
        go_wp2_with fail
        refine (HD.out.2.1 _ H4.out.2).mono ?_
        rintro e w5 ⟨v5, rfl, hR5, hB5⟩
        obtain ⟨A5, c5, e5, hc5, hC5⟩ := Kd.R_reads hR5
        replace e5 : v5 = .slice A5 m c5 := by rw [e5, ints_len, HD.out.2.2.1]
        replace hC5 : (Kd.int .u8).C w5 A5 m (ints b) := by rw [ints_len, HD.out.2.2.1] at hC5; exact hC5
        subst e5
        have hBw := HR.out.2.2.2.trans ((H4.out.2.trans (hB5.mono H4.out.2.size)).mono HR.out.2.2.2.size)
        have HDS := Aside0.mk (And.intro (decodes_any w5 (HT.out.1.below hBw)) (And.intro hBw (And.intro (Kd.C_below H4.out.1 hB5) hC5)))
        clear hR5 hB5 hBw hc5 hC5
        go_upto_region 14 with (first | (go_at_call 16; refine HDS.out.1.mono ?_; rintro e w9 ⟨rfl, hB9⟩; have HB9 := Aside0.mk hB9; clear hB9))
        have htm : t = 4 * (m + 6) := by have h1 := HN.out.1; have h2 := HD.out.2.2.2.2.2; omega
        have hBw9 := HDS.out.2.1.trans (HB9.out.mono HDS.out.2.1.size)
        have hCz : (Kd.int .i64).C (w9.alloc (.cells Z 3)) (some ⟨w9.heap.size, 0, none⟩) t (List.replicate t 0) := made_C (by omega) (by rw [HD.out.2.2.2.1]; exact heap_alloc_new w9 _)
        have hdec := Decode_any (List.replicate t 0) (some ⟨w9.heap.size, 0, none⟩) t (w9.alloc (.cells Z 3)) (by rw [List.length_replicate]; exact hCz) (by simp) (by rw [List.length_replicate]; omega) (HT.out.1.below (below_alloc hBw9 _))
        have hD0 : decOf (List.replicate t 0) = (List.replicate m 0, 0, 0) := by rw [htm, decOf_zero (by omega), ints_zs]
        rw [hD0, List.length_replicate] at hdec
        have HDZ := Aside0.mk (And.intro hdec hBw9)
        clear hdec hD0 hCz htm hBw9
        go_wp2_with fail
        refine HDZ.out.1.mono ?_
        rintro e w10 ⟨v10, rfl, hR10, hB10⟩
        obtain ⟨A6, c6, e6, hc6, hC6⟩ := Kd.R_reads hR10
        replace e6 : v10 = .slice A6 m c6 := by rw [e6, List.length_replicate]
        replace hC6 : (Kd.int .u8).C w10 A6 m (List.replicate m 0) := by rw [List.length_replicate] at hC6; exact hC6
        subst e6
        obtain ⟨S, hS⟩ : ∃ S, strOfNums (ints b) = S := ⟨_, rfl⟩
        obtain ⟨S0, hS0⟩ : ∃ S0, strOfNums (List.replicate m 0) = S0 := ⟨_, rfl⟩
        have hB910 : Below w9.heap.size w9 w10 := (below_alloc (Below.refl _ _) _).trans (hB10.mono (by simp))
        have hB510 : Below w5.heap.size w5 w10 := HB9.out.trans (hB910.mono HB9.out.size)
        have hBw10 := HDZ.out.2.trans (hB910.mono HDZ.out.2.size)
        have c1' := Kd.C_below HDS.out.2.2.1 hB510
        have c2' := Kd.C_below HDS.out.2.2.2 hB510
        have kb0 : (convert 25 9 (.slice A4 m c4)).run Tryd.prog w10.drew = .ok (.string S) w10.drew ∧ (convert 25 9 (.slice A5 m c5)).run Tryd.prog w10.drew = .ok (.string S) w10.drew ∧ (convert 25 9 (.slice A6 m c6)).run Tryd.prog w10.drew = .ok (.string S0) w10.drew :=
          ⟨by rw [← hS]; exact Kd.C_string Tryd.underlying25 Tryd.underlying5 Tryd.underlying9 (Kd.C_drew c1'), by rw [← hS]; exact Kd.C_string Tryd.underlying25 Tryd.underlying5 Tryd.underlying9 (Kd.C_drew c2'), by rw [← hS0]; exact Kd.C_string Tryd.underlying25 Tryd.underlying5 Tryd.underlying9 (Kd.C_drew hC6)⟩
        have kb1 : (convert 25 9 (.slice A4 m c4)).run Tryd.prog ((w10.alloc (.cells Z5 5)).drew) = .ok (.string S) ((w10.alloc (.cells Z5 5)).drew) ∧ (convert 25 9 (.slice A5 m c5)).run Tryd.prog ((w10.alloc (.cells Z5 5)).drew) = .ok (.string S) ((w10.alloc (.cells Z5 5)).drew) ∧ (convert 25 9 (.slice A6 m c6)).run Tryd.prog ((w10.alloc (.cells Z5 5)).drew) = .ok (.string S0) ((w10.alloc (.cells Z5 5)).drew) :=
          ⟨by rw [← hS]; exact Kd.C_string Tryd.underlying25 Tryd.underlying5 Tryd.underlying9 (Kd.C_drew (Kd.C_alloc c1' _)), by rw [← hS]; exact Kd.C_string Tryd.underlying25 Tryd.underlying5 Tryd.underlying9 (Kd.C_drew (Kd.C_alloc c2' _)), by rw [← hS0]; exact Kd.C_string Tryd.underlying25 Tryd.underlying5 Tryd.underlying9 (Kd.C_drew (Kd.C_alloc hC6 _))⟩
        have km : (convert 25 9 (.slice (some ⟨w10.heap.size, 0, none⟩) m m)).run Tryd.prog ((w10.alloc (.cells Z5 5)).drew) = .ok (.string S0) ((w10.alloc (.cells Z5 5)).drew) := by
          rw [← hS0]
          exact Kd.C_string Tryd.underlying25 Tryd.underlying5 Tryd.underlying9 (Kd.C_drew (made_C (by have h1 := HD.out.2.2.2.2.2; have h2 := HN.out.2; omega) (by rw [HD.out.2.2.2.2.1]; exact heap_alloc_new w10 _)))
        have HE := Aside0.mk hBw10
        clear hR10 hB10 hc6 hC6 hB910 hB510 hBw10 c1' c2' hS hS0
        go_upto_region 15 with fail
        go_region_held (fun w' => (convert 25 9 (.slice A4 m c4)).run Tryd.prog w' = .ok (.string S) w' ∧ (convert 25 9 (.slice A5 m c5)).run Tryd.prog w' = .ok (.string S) w' ∧ (convert 25 9 (.slice A6 m c6)).run Tryd.prog w' = .ok (.string S0) w') (first | exact kb1 | exact kb0 | go_keep) (fail)
        all_goals go_wp2_with fail
        all_goals go_ret
        all_goals exact ⟨rfl, pw_below_drewN (below_alloc HE.out _) 1⟩
end Go.Proofs.YticiilolmkbncaaDoor.Vit
