/- Contracts of the small functions that the combiner calls (bits.Right, conv.Steps, pattern, soft, slices.Clone; the document's too): each theorem says its own conditions. -/
import Derived.Test.YticiilolmkbncaaDoorVza
namespace Go.Proofs.YticiilolmkbncaaDoor.Vit
open Go.RowKit Go.Proofs.YticiilolmkbncaaDoorW.PrintWords Go.Proofs.YticiilolmkbncaaDoorW.PrintLast Go.Proofs.YticiilolmkbncaaDoorW.PrintMore Go.Proofs.YticiilolmkbncaaDoor.Mem
attribute [local go_sem] max2_int min2_int max_two min_two max_three min_three max_four min_four   -- for this text's walks alone
set_option linter.unusedVariables false
set_option linter.unusedSimpArgs false

theorem Steps_any (n : Nat) (hn : n ≤ 1099511627776) (w : World) : Calls Tryd.prog 41 #[.int .i64 (n : Int)] w fun e w' => e = .returned (.int .i64 ((n + 6 : Nat) : Int)) ∧ w = w' := by
  have h0 : ¬ (n : Int) < 0 := by omega
  have h1 : wrap64 ((n : Int) + 6) = (n : Int) + 6 := by unfold wrap64; omega
  go_enter Tryd.func41, Tryd.ntmps41
  go_wp2_with fail
  go_ret
  exact ⟨congrArg (fun i => Ending.returned (Value.int .i64 i)) (by omega), rfl⟩
theorem VBits_any (n : Nat) (hn : n ≤ 1099511627776) (w : World) : Calls Tryd.prog 53 #[.int .i64 (n : Int)] w fun e w' => e = .returned (.int .i64 ((n + 6 : Nat) : Int)) ∧ w = w' := by
  go_enter Tryd.func53, Tryd.ntmps53
  go_wp2_with (go_at_call 41; refine (Steps_any n hn _).mono ?_; rintro e w1 ⟨rfl, rfl⟩)
  go_ret
  exact ⟨rfl, rfl⟩
theorem one_any (v t : Nat) (hv : v < 4) (w : World) : Calls Tryd.prog 68 #[.int .i64 (v : Int), .int .i64 (t : Int)] w fun e w' => e = .returned (.bool true) ∧ w = w' := by
  have h0 : (0 : Int) ≤ (v : Int) := by omega
  have h1 : (v : Int) < 4 := by omega
  have h2 : (0 : Int) ≤ (t : Int) := by omega
  have d0 : decide ((0 : Int) ≤ (v : Int)) = true := decide_eq_true h0
  have d1 : decide ((v : Int) < 4) = true := decide_eq_true h1
  have d2 : decide ((0 : Int) ≤ (t : Int)) = true := decide_eq_true h2
  have d3 : decide (v < 4) = true := decide_eq_true hv
  go_enter Tryd.func68, Tryd.ntmps68
  go_wp2_with fail
  go_ret
  exact ⟨rfl, rfl⟩
/-- The stream of a version at a step; its place. -/
def strm (v t : Nat) : Nat := (v + t % 4) % 4
def place (v t : Nat) : Nat := 4 * t + strm v t
theorem strm_lt (v t : Nat) : strm v t < 4 := by unfold strm; omega
theorem place_lt {v t L : Nat} (h : t < L) : place v t < 4 * L := by have := strm_lt v t; unfold place; omega
theorem Stream_any (v t : Nat) (hv : v < 4) (w : World) : Calls Tryd.prog 69 #[.int .i64 (v : Int), .int .i64 (t : Int)] w fun e w' => e = .returned (.tuple #[.int .i64 (strm v t : Nat), .int .i64 0]) ∧ w = w' := by
  obtain ⟨r, hr⟩ : ∃ r, t % 4 = r := ⟨_, rfl⟩
  have h1 : (t : Int).tmod 4 = (r : Int) := by rw [Int.tmod_eq_emod_of_nonneg (by omega)]; omega
  have h2 : wrap64 (r : Int) = (r : Int) := by unfold wrap64; omega
  have h3 : wrap64 ((v : Int) + (r : Int)) = (v : Int) + (r : Int) := by unfold wrap64; omega
  have h4 : ((v : Int) + (r : Int)).tmod 4 = (strm v t : Nat) := by rw [Int.tmod_eq_emod_of_nonneg (by omega)]; unfold strm; omega
  have h5 : wrap64 ((strm v t : Nat) : Int) = (strm v t : Nat) := by have := strm_lt v t; unfold wrap64; omega
  clear hr
  go_enter Tryd.func69, Tryd.ntmps69
  go_wp2_with (go_at_call 68; refine (one_any v t hv _).mono ?_; rintro e w1 ⟨rfl, rfl⟩)
  go_ret2
  exact ⟨rfl, rfl⟩
theorem Stream10_any (v t : Nat) (hv : v < 4) (w : World) : Calls Tryd.prog 57 #[.int .i64 (v : Int), .int .i64 (t : Int)] w fun e w' => e = .returned (.int .i64 (strm v t : Nat)) ∧ w = w' := by
  obtain ⟨r, hr⟩ : ∃ r, t % 4 = r := ⟨_, rfl⟩
  have h1 : (t : Int).tmod 4 = (r : Int) := by rw [Int.tmod_eq_emod_of_nonneg (by omega)]; omega
  have h2 : wrap64 (r : Int) = (r : Int) := by unfold wrap64; omega
  have h3 : wrap64 ((v : Int) + (r : Int)) = (v : Int) + (r : Int) := by unfold wrap64; omega
  have h4 : ((v : Int) + (r : Int)).tmod 4 = (strm v t : Nat) := by rw [Int.tmod_eq_emod_of_nonneg (by omega)]; unfold strm; omega
  have h5 : wrap64 ((strm v t : Nat) : Int) = (strm v t : Nat) := by have := strm_lt v t; unfold wrap64; omega
  clear hr
  go_enter Tryd.func57, Tryd.ntmps57
  go_wp2_with fail
  go_ret
  exact ⟨rfl, rfl⟩
/-- The places of a version, one a step. -/
def places (v L : Nat) : List Int := (List.range L).map fun t => ((place v t : Nat) : Int)
theorem places_len (v L : Nat) : (places v L).length = L := by simp [places]
theorem places_next (v L : Nat) : places v (L + 1) = places v L ++ [((place v L : Nat) : Int)] := by
  unfold places
  rw [List.range_succ, List.map_append]
  rfl
set_option maxHeartbeats 3200000 in
set_option maxRecDepth 100000 in
theorem Places_any (v L : Nat) (hv : v < 4) (hL : L ≤ 16384) (w : World) : Calls Tryd.prog 54 #[.int .i64 (v : Int), .int .i64 (L : Int)] w fun e w' =>
    ∃ u, e = .returned (.tuple #[u, .int .i64 0]) ∧ (Kd.int .i64).R 3 w' w.heap.size (fun k => w.heap.size ≤ k) u (places v L) ∧ Below w.heap.size w w' := by
  have h0 : ¬ (16384 : Int) < (L : Int) := by omega
  have d0 : decide ((16384 : Int) < (L : Int)) = false := decide_eq_false h0
  have d1 : decide (16384 < L) = false := decide_eq_false (by omega)
  go_enter Tryd.func54, Tryd.ntmps54
  go_wp2_with (go_at_call 68; refine (one_any v L hv _).mono ?_; rintro e w1 ⟨rfl, rfl⟩)
  go_loopw [6, 19] (fun o i wr => ∃ t : Nat, i = .int .i64 t ∧ t ≤ L ∧ (Kd.int .i64).R 3 wr w.heap.size (fun k => w.heap.size ≤ k) o (places v t) ∧ Below w.heap.size w wr) (fun _ i _ => L - (intOf i).toNat)
  case atStart => exact ⟨0, rfl, Nat.zero_le _, Kd.R_nil _ _ _ _ _, Below.refl _ _⟩
  case round =>
    obtain ⟨t, rfl, ht, hR, hB⟩ := hrel
    have HR := Aside0.mk (And.intro hR hB)
    clear hR hB
    by_cases htL : t < L
    · have hlt : (t : Int) < (L : Int) := by omega
      obtain ⟨s, hs⟩ : ∃ s, strm v t = s := ⟨_, rfl⟩
      have hs4 : s < 4 := by rw [← hs]; exact strm_lt v t
      obtain ⟨pl, hpl⟩ : ∃ pl, place v t = pl := ⟨_, rfl⟩
      have hm1 : wrap64 (4 * (t : Int)) = 4 * (t : Int) := by unfold wrap64; omega
      have hm2 : wrap64 (4 * (t : Int) + (s : Int)) = (pl : Int) := by rw [← hpl]; unfold place wrap64; omega
      have hm3 : 4 * (t : Int) + (s : Int) = (pl : Int) := by rw [← hpl]; unfold place; omega
      have hm4 : wrap64 (pl : Int) = (pl : Int) := by have := place_lt (v := v) htL; unfold wrap64; omega
      have hst := fun W => Stream_any v t hv W
      rw [hs] at hst
      have HS := Aside0.mk hst
      have hnx := places_next v t
      rw [hpl] at hnx
      have HN := Aside0.mk hnx
      clear hs hpl hst hnx hs4
      go_wp2_with (first | (go_at_call 69; refine (HS.out _).mono ?_; rintro e w1 ⟨rfl, rfl⟩) | ((with_reducible refine gate_builtin (b := .append) (xs := #[.tmp 31, .tmp 36]) rfl ?_); at_builtin; refine Kd.R_append (Kd.int .i64) (w0 := w) w.heap.size rfl (.tmp 31) (.tmp 36) 22 3 (.int .i64 0) 8 rfl Tryd.underlying22 info3 rfl (by decide) (by omega) u6 (places v t) (pl : Int) [.int .i64 pl] (fun k => w.heap.size ≤ k) (fun _ => False) rfl rfl ?aP (fun _ hk => hk.elim) ?aF ?aO ?aB ?aS ?aL ?_; (case aP => exact rfl); (case aB => exact HR.out.2); (case aF => exact (fun k hk => Nat.le_trans (below_size HR.out.2) hk)); (case aO => exact HR.out.1); (case aS => exact below_size HR.out.2); (case aL => rw [places_len]; omega); intro v1 w7 ho hb hg hat; have HK := Aside0.mk (And.intro ho hb); clear ho hb hg hat))
      refine ⟨⟨t + 1, by go_num, by omega, ?_, HK.out.2⟩, by simp only [intOf]; omega⟩
      rw [HN.out]
      exact HK.out.1
    · have hlt : ¬ (t : Int) < (L : Int) := by omega
      obtain rfl : t = L := by omega
      go_wp2_with fail
      go_ret2
      exact ⟨_, rfl, HR.out.1, HR.out.2⟩
/-- Two numbers together. -/
def sadd (a b : Int) : Int := clip (clip a + clip b)
theorem clip_in (x : Int) : -31 ≤ clip x ∧ clip x ≤ 31 := by unfold clip; omega
theorem Clip_same (x : Int) (w : World) : Calls Tryd.prog 44 #[.int .i64 x] w fun e w' => e = .returned (.int .i64 (clip x)) ∧ w = w' := by
  go_enter Tryd.func44, Tryd.ntmps44
  go_wp2_with fail
  all_goals (go_ret; refine ⟨?_, rfl⟩; refine congrArg (fun i => Ending.returned (Value.int .i64 i)) ?_; unfold clip; split at * <;> omega)
theorem Add_soft (a b : Int) (w : World) : Calls Tryd.prog 55 #[.int .i64 a, .int .i64 b] w fun e w' => e = .returned (.int .i64 (sadd a b)) ∧ w = w' := by
  obtain ⟨x, hx⟩ : ∃ x, clip a = x := ⟨_, rfl⟩
  obtain ⟨y, hy⟩ : ∃ y, clip b = y := ⟨_, rfl⟩
  have h1 := clip_in a
  have h2 := clip_in b
  rw [hx] at h1
  rw [hy] at h2
  have hw : IntKind.i64.wrap (x + y) = x + y := IntWalk.i64_in _ (by omega)
  have c1 := fun W => Clip_same a W
  have c2 := fun W => Clip_same b W
  have c3 := fun W => Clip_same (x + y) W
  rw [hx] at c1
  rw [hy] at c2
  have HC := Aside0.mk (And.intro c1 (And.intro c2 c3))
  have hs : clip (x + y) = sadd a b := by unfold sadd; rw [hx, hy]
  rw [← hs]
  clear c1 c2 c3 hx hy hs
  go_enter Tryd.func55, Tryd.ntmps55
  go_upto_region 1 with fail
  refine wp_region_lit ?_
  refine wpList_plain rfl (fun _ hK => ?_)
  go_simp
  refine hK _ _ ?_
  clear hK
  refine wpList_step (fun K hK => ?_)
  go_simp
  go_at_call 44
  refine (HC.out.1 _).mono ?_
  rintro e w1 ⟨rfl, rfl⟩
  refine hK _ _ ?_
  clear hK K
  refine wpList_plain rfl (fun _ hK => ?_)
  go_simp
  refine hK _ _ ?_
  clear hK
  refine wpList_step (fun K hK => ?_)
  go_simp
  go_at_call 44
  refine (HC.out.2.1 _).mono ?_
  rintro e w1 ⟨rfl, rfl⟩
  refine hK _ _ ?_
  clear hK K
  refine wpList_plain rfl (fun _ hK => ?_)
  go_simp
  refine hK _ _ ?_
  clear hK
  refine wpList_step (fun K hK => ?_)
  go_simp
  go_at_call 44
  refine (HC.out.2.2 _).mono ?_
  rintro e w1 ⟨rfl, rfl⟩
  refine hK _ _ ?_
  clear hK K
  refine wpList_plain rfl (fun _ hK => ?_)
  go_simp
  refine hK _ _ ?_
  clear hK
  refine wpList_nil ?_
  go_wp2_with fail
  go_ret
  exact ⟨rfl, rfl⟩
/-- A slice of bytes, all bits? -/
theorem gt1_any (x : Int) (w : World) : Calls Tryd.prog 67 #[.int .u8 x] w fun e w' => e = .returned (.bool (decide (1 < x))) ∧ ∃ q, w' = w.drewN q := by
  go_enter Tryd.func67, Tryd.ntmps67
  go_wp2_with fail
  go_ret
  exact ⟨rfl, 0, rfl⟩
theorem IndexB_any (xs : List Int) (A : Option Addr) (n c : Nat) (w : World) (hC : (Kd.int .u8).C w A n xs) (hc : n ≤ c) (hn : n ≤ 140737488355328) :
    Calls Tryd.prog 73 #[.slice A n c, .func (.func 67) #[] #[]] w fun e w' =>
      (∃ i : Int, e = .returned (.int .i64 i) ∧ (0 ≤ i ↔ ∃ x ∈ xs, 1 < x)) ∧ ∃ q, w' = w.drewN q := by
  have hl : xs.length = n := Kd.C_len hC
  have HC := Aside0.mk (And.intro hC hl)
  clear hC hl
  go_enter Tryd.func73, Tryd.ntmps73
  go_wp2_with fail
  go_loopw [5, 8] (fun _ i wr => ∃ t : Nat, i = .int .i64 t ∧ t ≤ n ∧ (∃ q, wr = w.drewN q) ∧ Aside0 (∀ x, x ∈ xs.take t → x ≤ 1)) (fun _ i _ => n - (intOf i).toNat)
  case atStart =>
    exact ⟨0, rfl, Nat.zero_le _, ⟨0, rfl⟩, ⟨fun x hx => absurd hx (by simp)⟩⟩
  case round =>
    obtain ⟨t, rfl, ht, ⟨q, hwq⟩, hR⟩ := hrel
    have HWQ := Aside0.mk hwq
    by_cases htn : t < n
    · have hlt : (t : Int) < (n : Int) := by omega
      obtain ⟨ad, hA, hx⟩ := Kd.at_int HC.out.1 (t : Int) (by omega) hlt
      cases hA
      have htl : t < xs.length := by have := HC.out.2; omega
      rw [rd_at htl, Int.toNat_natCast] at hx
      obtain ⟨x, hxx⟩ : ∃ x, xs[t] = x := ⟨_, rfl⟩
      rw [hxx] at hx
      have hx : wr.cell? (ad.add t) = some (.int .u8 x) := by rw [hwq]; exact hx
      have HG := Aside0.mk hxx
      have hcall := fun W => gt1_any x W
      clear hxx hwq
      by_cases hq : 1 < x
      · rw [decide_eq_true hq] at hcall
        have HQ := Aside0.mk hq
        have HCA := Aside0.mk hcall
        clear hq hcall
        go_wp2_with (go_at_call 67; refine (HCA.out _).mono ?_; rintro e w1 ⟨rfl, q1, hw1⟩; have HW1 := Aside0.mk hw1; clear hw1)
        go_ret
        exact ⟨⟨_, rfl, fun _ => ⟨x, by rw [← HG.out]; exact List.getElem_mem htl, HQ.out⟩, fun _ => by omega⟩, _, by rw [HW1.out, HWQ.out]; exact World.drewN_drewN _ _ _⟩
      · rw [decide_eq_false hq] at hcall
        have HQ := Aside0.mk hq
        have HCA := Aside0.mk hcall
        clear hq hcall
        go_wp2_with (go_at_call 67; refine (HCA.out _).mono ?_; rintro e w1 ⟨rfl, q1, hw1⟩; have HW1 := Aside0.mk hw1; clear hw1)
        refine ⟨⟨t + 1, by go_num, by omega, ⟨_, by rw [HW1.out, HWQ.out]; exact World.drewN_drewN _ _ _⟩, ⟨?_⟩⟩, by simp only [intOf]; omega⟩
        intro y hy
        rw [List.take_add_one, List.getElem?_eq_getElem htl, HG.out] at hy
        rcases List.mem_append.1 hy with h | h
        · exact hR.out y h
        · have : y = x := by simpa using h
          rw [this]
          exact HQ.out
    · have hlt : ¬ (t : Int) < (n : Int) := by omega
      obtain rfl : t = n := by omega
      clear hwq
      go_wp2_with fail
      go_ret
      refine ⟨⟨_, rfl, fun h => by omega, fun ⟨x, hx, hne⟩ => absurd (hR.out x (by rw [List.take_of_length_le (by have := HC.out.2; omega)]; exact hx)) (by omega)⟩, q, HWQ.out⟩
theorem ContainsB_any (xs : List Int) (A : Option Addr) (n c : Nat) (w : World) (hC : (Kd.int .u8).C w A n xs) (hc : n ≤ c) (hn : n ≤ 140737488355328) :
    Calls Tryd.prog 66 #[.slice A n c, .func (.func 67) #[] #[]] w fun e w' =>
      e = .returned (.bool (decide (∃ x ∈ xs, 1 < x))) ∧ ∃ q, w' = w.drewN q := by
  have HI := Aside0.mk (IndexB_any xs A n c w hC hc hn)
  clear hC hc hn
  go_enter Tryd.func66, Tryd.ntmps66
  go_wp2_with (go_at_call 73; refine HI.out.mono ?_; rintro e w1 ⟨⟨i, rfl, hi⟩, q1, hw1⟩; have HX := Aside0.mk (And.intro hi hw1); clear hi hw1)
  go_ret
  refine ⟨?_, _, HX.out.2⟩
  refine congrArg (fun b => Ending.returned (Value.bool b)) ?_
  exact decide_eq_decide.2 HX.out.1
theorem BRight_any (xs : List Int) (A : Option Addr) (n c : Nat) (w : World) (hC : (Kd.int .u8).C w A n xs) (hc : n ≤ c) (hn : n ≤ 140737488355328) :
    Calls Tryd.prog 52 #[.slice A n c] w fun e w' => e = .returned (.bool (!decide (∃ x ∈ xs, 1 < x))) ∧ ∃ q, w' = w.drewN q := by
  have HI := Aside0.mk (ContainsB_any xs A n c w hC hc hn)
  clear hC hc hn
  go_enter Tryd.func52, Tryd.ntmps52
  go_wp2_with (go_at_call 66; refine HI.out.mono ?_; rintro e w1 ⟨rfl, q1, hw1⟩; have HX := Aside0.mk hw1; clear hw1)
  go_ret
  exact ⟨rfl, _, HX.out⟩
end Go.Proofs.YticiilolmkbncaaDoor.Vit
