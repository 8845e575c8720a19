/- The law ViterbiTells: of all numbers the list and its score are told, or why there is none. Each theorem says its own conditions. -/
import Derived.Test.YtnejnnfjbhpigaaDoorVz
import Derived.Test.YtnejnnfjbhpigaaDoorVr
import Derived.BigRegion
namespace Go.Proofs.YtnejnnfjbhpigaaDoor.Vit
open Go.RowKit Go.Proofs.YtnejnnfjbhpigaaDoorW.PrintWords Go.Proofs.YtnejnnfjbhpigaaDoorW.PrintLast Go.Proofs.YtnejnnfjbhpigaaDoorW.PrintMore Go.Proofs.YtnejnnfjbhpigaaDoor.Mem
attribute [local go_sem] max2_int min2_int max_two min_two max_three min_three max_four min_four   -- for this text's walks alone
set_option linter.unusedVariables false
set_option linter.unusedSimpArgs false

theorem Clip8_any (x : Int) (w : World) : Calls Tryd.prog 92 #[.int .i64 x] w fun e w' => e = .returned (.int .i64 (clip x)) ∧ w = w' := by
  by_cases h1 : 31 < x
  · go_enter Tryd.func92, Tryd.ntmps92
    go_wp2_with fail
    go_ret
    exact ⟨congrArg (fun i => Ending.returned (Value.int .i64 i)) (by unfold clip; omega), rfl⟩
  · by_cases h2 : x < -31
    · go_enter Tryd.func92, Tryd.ntmps92
      go_wp2_with fail
      go_ret
      exact ⟨congrArg (fun i => Ending.returned (Value.int .i64 i)) (by unfold clip; omega), rfl⟩
    · go_enter Tryd.func92, Tryd.ntmps92
      go_wp2_with fail
      go_ret
      exact ⟨congrArg (fun i => Ending.returned (Value.int .i64 i)) (by unfold clip; omega), rfl⟩
/-- The first of a row. -/
theorem head_row {k : IntKind} {w : World} {A : Option Addr} {n m : Nat} {x : List Int} (h : (Kd.int k).C w A n x) (hm : m ≤ n) : (Kd.int k).C w A m (x.take m) := by
  obtain ⟨hl, hb, hr⟩ := h
  refine ⟨by rw [List.length_take]; omega, by omega, fun hp => ?_⟩
  obtain ⟨ad, hA, hc⟩ := hr (by omega)
  refine ⟨ad, hA, fun j p hj => hc j p ?_⟩
  rw [List.getElem?_take] at hj
  split at hj
  · exact hj
  · cases hj
/-- What the best list scores. -/
theorem best_scores {Y : List Int} {n : Nat} (hn : n ≤ 4096) (hY : Y.length = 4 * (n + 6)) (hin : ∀ y ∈ Y, -31 ≤ y ∧ y ≤ 31) : sc Y (code (bestL Y n)) = bestS Y n := by
  have hf : ∀ j, -1000 ≤ (fun j => Y.getD j 0) j ∧ (fun j => Y.getD j 0) j ≤ 1000 := fun j => in1000 hin j
  have h1 := (cv_best hf hn n 0 0 (by omega) (by omega)).2.1
  have h2 := ps_sc (fun j => Y.getD j 0) (bestL Y n ++ zs 6) 0 0 Y (by rw [hY, List.length_append, zs_len]; unfold bestL; rw [bw_len]) (fun j => Or.inl (by rw [Nat.mul_zero, Nat.zero_add]))
  unfold code
  rw [← h2]
  exact h1
end Go.Proofs.YtnejnnfjbhpigaaDoor.Vit

namespace Go.Proofs.YtnejnnfjbhpigaaDoor.Vit
open Go.RowKit Go.Proofs.YtnejnnfjbhpigaaDoorW.PrintWords Go.Proofs.YtnejnnfjbhpigaaDoorW.PrintLast Go.Proofs.YtnejnnfjbhpigaaDoorW.PrintMore Go.Proofs.YtnejnnfjbhpigaaDoor.Mem
attribute [local go_sem] max2_int min2_int max_two min_two max_three min_three max_four min_four   -- for this text's walks alone
set_option linter.unusedVariables false
set_option linter.unusedSimpArgs false

theorem Steps_any (n : Nat) (hn : n ≤ 1099511627776) (w : World) : Calls Tryd.prog 77 #[.int .i64 (n : Int)] w fun e w' => e = .returned (.int .i64 ((n + 6 : Nat) : Int)) ∧ w = w' := by
  have h0 : ¬ (n : Int) < 0 := by omega
  have h1 : wrap64 ((n : Int) + 6) = (n : Int) + 6 := by unfold wrap64; omega
  go_enter Tryd.func77, Tryd.ntmps77
  go_wp2_with fail
  go_ret
  exact ⟨congrArg (fun i => Ending.returned (Value.int .i64 i)) (by omega), rfl⟩
theorem VBits_any (n : Nat) (hn : n ≤ 1099511627776) (w : World) : Calls Tryd.prog 50 #[.int .i64 (n : Int)] w fun e w' => e = .returned (.int .i64 ((n + 6 : Nat) : Int)) ∧ w = w' := by
  go_enter Tryd.func50, Tryd.ntmps50
  go_wp2_with (go_at_call 77; refine (Steps_any n hn _).mono ?_; rintro e w1 ⟨rfl, rfl⟩)
  go_ret
  exact ⟨rfl, rfl⟩
theorem one_any (v t : Nat) (hv : v < 4) (w : World) : Calls Tryd.prog 78 #[.int .i64 (v : Int), .int .i64 (t : Int)] w fun e w' => e = .returned (.bool true) ∧ w = w' := by
  have h0 : (0 : Int) ≤ (v : Int) := by omega
  have h1 : (v : Int) < 4 := by omega
  have h2 : (0 : Int) ≤ (t : Int) := by omega
  have d0 : decide ((0 : Int) ≤ (v : Int)) = true := decide_eq_true h0
  have d1 : decide ((v : Int) < 4) = true := decide_eq_true h1
  have d2 : decide ((0 : Int) ≤ (t : Int)) = true := decide_eq_true h2
  have d3 : decide (v < 4) = true := decide_eq_true hv
  go_enter Tryd.func78, Tryd.ntmps78
  go_wp2_with fail
  go_ret
  exact ⟨rfl, rfl⟩
/-- The stream of a version at a step; its place. -/
def strm (v t : Nat) : Nat := (v + t % 4) % 4
def place (v t : Nat) : Nat := 4 * t + strm v t
theorem strm_lt (v t : Nat) : strm v t < 4 := by unfold strm; omega
theorem place_lt {v t L : Nat} (h : t < L) : place v t < 4 * L := by have := strm_lt v t; unfold place; omega
theorem Stream_any (v t : Nat) (hv : v < 4) (w : World) : Calls Tryd.prog 79 #[.int .i64 (v : Int), .int .i64 (t : Int)] w fun e w' => e = .returned (.tuple #[.int .i64 (strm v t : Nat), .int .i64 0]) ∧ w = w' := by
  obtain ⟨r, hr⟩ : ∃ r, t % 4 = r := ⟨_, rfl⟩
  have h1 : (t : Int).tmod 4 = (r : Int) := by rw [Int.tmod_eq_emod_of_nonneg (by omega)]; omega
  have h2 : wrap64 (r : Int) = (r : Int) := by unfold wrap64; omega
  have h3 : wrap64 ((v : Int) + (r : Int)) = (v : Int) + (r : Int) := by unfold wrap64; omega
  have h4 : ((v : Int) + (r : Int)).tmod 4 = (strm v t : Nat) := by rw [Int.tmod_eq_emod_of_nonneg (by omega)]; unfold strm; omega
  have h5 : wrap64 ((strm v t : Nat) : Int) = (strm v t : Nat) := by have := strm_lt v t; unfold wrap64; omega
  clear hr
  go_enter Tryd.func79, Tryd.ntmps79
  go_wp2_with (go_at_call 78; refine (one_any v t hv _).mono ?_; rintro e w1 ⟨rfl, rfl⟩)
  go_ret2
  exact ⟨rfl, rfl⟩
theorem Stream10_any (v t : Nat) (hv : v < 4) (w : World) : Calls Tryd.prog 61 #[.int .i64 (v : Int), .int .i64 (t : Int)] w fun e w' => e = .returned (.int .i64 (strm v t : Nat)) ∧ w = w' := by
  obtain ⟨r, hr⟩ : ∃ r, t % 4 = r := ⟨_, rfl⟩
  have h1 : (t : Int).tmod 4 = (r : Int) := by rw [Int.tmod_eq_emod_of_nonneg (by omega)]; omega
  have h2 : wrap64 (r : Int) = (r : Int) := by unfold wrap64; omega
  have h3 : wrap64 ((v : Int) + (r : Int)) = (v : Int) + (r : Int) := by unfold wrap64; omega
  have h4 : ((v : Int) + (r : Int)).tmod 4 = (strm v t : Nat) := by rw [Int.tmod_eq_emod_of_nonneg (by omega)]; unfold strm; omega
  have h5 : wrap64 ((strm v t : Nat) : Int) = (strm v t : Nat) := by have := strm_lt v t; unfold wrap64; omega
  clear hr
  go_enter Tryd.func61, Tryd.ntmps61
  go_wp2_with fail
  go_ret
  exact ⟨rfl, rfl⟩
/-- The places of a version, one a step. -/
def places (v L : Nat) : List Int := (List.range L).map fun t => ((place v t : Nat) : Int)
theorem places_len (v L : Nat) : (places v L).length = L := by simp [places]
theorem places_next (v L : Nat) : places v (L + 1) = places v L ++ [((place v L : Nat) : Int)] := by
  unfold places
  rw [List.range_succ, List.map_append]
  rfl
set_option maxHeartbeats 3200000 in
set_option maxRecDepth 100000 in
theorem Places_any (v L : Nat) (hv : v < 4) (hL : L ≤ 16384) (w : World) : Calls Tryd.prog 51 #[.int .i64 (v : Int), .int .i64 (L : Int)] w fun e w' =>
    ∃ u, e = .returned (.tuple #[u, .int .i64 0]) ∧ (Kd.int .i64).R 3 w' w.heap.size (fun k => w.heap.size ≤ k) u (places v L) ∧ Below w.heap.size w w' := by
  have h0 : ¬ (16384 : Int) < (L : Int) := by omega
  have d0 : decide ((16384 : Int) < (L : Int)) = false := decide_eq_false h0
  have d1 : decide (16384 < L) = false := decide_eq_false (by omega)
  go_enter Tryd.func51, Tryd.ntmps51
  go_wp2_with (go_at_call 78; refine (one_any v L hv _).mono ?_; rintro e w1 ⟨rfl, rfl⟩)
  go_loopw [6, 19] (fun o i wr => ∃ t : Nat, i = .int .i64 t ∧ t ≤ L ∧ (Kd.int .i64).R 3 wr w.heap.size (fun k => w.heap.size ≤ k) o (places v t) ∧ Below w.heap.size w wr) (fun _ i _ => L - (intOf i).toNat)
  case atStart => exact ⟨0, rfl, Nat.zero_le _, Kd.R_nil _ _ _ _ _, Below.refl _ _⟩
  case round =>
    obtain ⟨t, rfl, ht, hR, hB⟩ := hrel
    have HR := Aside0.mk (And.intro hR hB)
    clear hR hB
    by_cases htL : t < L
    · have hlt : (t : Int) < (L : Int) := by omega
      obtain ⟨s, hs⟩ : ∃ s, strm v t = s := ⟨_, rfl⟩
      have hs4 : s < 4 := by rw [← hs]; exact strm_lt v t
      obtain ⟨pl, hpl⟩ : ∃ pl, place v t = pl := ⟨_, rfl⟩
      have hm1 : wrap64 (4 * (t : Int)) = 4 * (t : Int) := by unfold wrap64; omega
      have hm2 : wrap64 (4 * (t : Int) + (s : Int)) = (pl : Int) := by rw [← hpl]; unfold place wrap64; omega
      have hm3 : 4 * (t : Int) + (s : Int) = (pl : Int) := by rw [← hpl]; unfold place; omega
      have hm4 : wrap64 (pl : Int) = (pl : Int) := by have := place_lt (v := v) htL; unfold wrap64; omega
      have hst := fun W => Stream_any v t hv W
      rw [hs] at hst
      have HS := Aside0.mk hst
      have hnx := places_next v t
      rw [hpl] at hnx
      have HN := Aside0.mk hnx
      clear hs hpl hst hnx hs4
      go_wp2_with (first | (go_at_call 79; refine (HS.out _).mono ?_; rintro e w1 ⟨rfl, rfl⟩) | ((with_reducible refine gate_builtin (b := .append) (xs := #[.tmp 31, .tmp 36]) rfl ?_); at_builtin; refine Kd.R_append (Kd.int .i64) (w0 := w) w.heap.size rfl (.tmp 31) (.tmp 36) 30 3 (.int .i64 0) 8 rfl Tryd.underlying30 info3 rfl (by decide) (by omega) u6 (places v t) (pl : Int) [.int .i64 pl] (fun k => w.heap.size ≤ k) (fun _ => False) rfl rfl ?aP (fun _ hk => hk.elim) ?aF ?aO ?aB ?aS ?aL ?_; (case aP => exact rfl); (case aB => exact HR.out.2); (case aF => exact (fun k hk => Nat.le_trans (below_size HR.out.2) hk)); (case aO => exact HR.out.1); (case aS => exact below_size HR.out.2); (case aL => rw [places_len]; omega); intro v1 w7 ho hb hg hat; have HK := Aside0.mk (And.intro ho hb); clear ho hb hg hat))
      refine ⟨⟨t + 1, by go_num, by omega, ?_, HK.out.2⟩, by simp only [intOf]; omega⟩
      rw [HN.out]
      exact HK.out.1
    · have hlt : ¬ (t : Int) < (L : Int) := by omega
      obtain rfl : t = L := by omega
      go_wp2_with fail
      go_ret2
      exact ⟨_, rfl, HR.out.1, HR.out.2⟩
/-- Two numbers together. -/
def sadd (a b : Int) : Int := clip (clip a + clip b)
theorem clip_in (x : Int) : -31 ≤ clip x ∧ clip x ≤ 31 := by unfold clip; omega
theorem Clip_same (x : Int) (w : World) : Calls Tryd.prog 80 #[.int .i64 x] w fun e w' => e = .returned (.int .i64 (clip x)) ∧ w = w' := by
  go_enter Tryd.func80, Tryd.ntmps80
  go_wp2_with fail
  all_goals (go_ret; refine ⟨?_, rfl⟩; refine congrArg (fun i => Ending.returned (Value.int .i64 i)) ?_; unfold clip; split at * <;> omega)
theorem Add_soft (a b : Int) (w : World) : Calls Tryd.prog 52 #[.int .i64 a, .int .i64 b] w fun e w' => e = .returned (.int .i64 (sadd a b)) ∧ w = w' := by
  obtain ⟨x, hx⟩ : ∃ x, clip a = x := ⟨_, rfl⟩
  obtain ⟨y, hy⟩ : ∃ y, clip b = y := ⟨_, rfl⟩
  have h1 := clip_in a
  have h2 := clip_in b
  rw [hx] at h1
  rw [hy] at h2
  have hw : IntKind.i64.wrap (x + y) = x + y := IntWalk.i64_in _ (by omega)
  have c1 := fun W => Clip_same a W
  have c2 := fun W => Clip_same b W
  have c3 := fun W => Clip_same (x + y) W
  rw [hx] at c1
  rw [hy] at c2
  have HC := Aside0.mk (And.intro c1 (And.intro c2 c3))
  have hs : clip (x + y) = sadd a b := by unfold sadd; rw [hx, hy]
  rw [← hs]
  clear c1 c2 c3 hx hy hs
  go_enter Tryd.func52, Tryd.ntmps52
  go_upto_region 1 with fail
  refine wp_region_lit ?_
  refine wpList_plain rfl (fun _ hK => ?_)
  go_simp
  refine hK _ _ ?_
  clear hK
  refine wpList_step (fun K hK => ?_)
  go_simp
  go_at_call 80
  refine (HC.out.1 _).mono ?_
  rintro e w1 ⟨rfl, rfl⟩
  refine hK _ _ ?_
  clear hK K
  refine wpList_plain rfl (fun _ hK => ?_)
  go_simp
  refine hK _ _ ?_
  clear hK
  refine wpList_step (fun K hK => ?_)
  go_simp
  go_at_call 80
  refine (HC.out.2.1 _).mono ?_
  rintro e w1 ⟨rfl, rfl⟩
  refine hK _ _ ?_
  clear hK K
  refine wpList_plain rfl (fun _ hK => ?_)
  go_simp
  refine hK _ _ ?_
  clear hK
  refine wpList_step (fun K hK => ?_)
  go_simp
  go_at_call 80
  refine (HC.out.2.2 _).mono ?_
  rintro e w1 ⟨rfl, rfl⟩
  refine hK _ _ ?_
  clear hK K
  refine wpList_plain rfl (fun _ hK => ?_)
  go_simp
  refine hK _ _ ?_
  clear hK
  refine wpList_nil ?_
  go_wp2_with fail
  go_ret
  exact ⟨rfl, rfl⟩
/-- A slice of bytes, all bits? -/
theorem gt1_any (x : Int) (w : World) : Calls Tryd.prog 75 #[.int .u8 x] w fun e w' => e = .returned (.bool (decide (1 < x))) ∧ ∃ q, w' = w.drewN q := by
  go_enter Tryd.func75, Tryd.ntmps75
  go_wp2_with fail
  go_ret
  exact ⟨rfl, 0, rfl⟩
theorem IndexB_any (xs : List Int) (A : Option Addr) (n c : Nat) (w : World) (hC : (Kd.int .u8).C w A n xs) (hc : n ≤ c) (hn : n ≤ 140737488355328) :
    Calls Tryd.prog 97 #[.slice A n c, .func (.func 75) #[] #[]] w fun e w' =>
      (∃ i : Int, e = .returned (.int .i64 i) ∧ (0 ≤ i ↔ ∃ x ∈ xs, 1 < x)) ∧ ∃ q, w' = w.drewN q := by
  have hl : xs.length = n := Kd.C_len hC
  have HC := Aside0.mk (And.intro hC hl)
  clear hC hl
  go_enter Tryd.func97, Tryd.ntmps97
  go_wp2_with fail
  go_loopw [5, 8] (fun _ i wr => ∃ t : Nat, i = .int .i64 t ∧ t ≤ n ∧ (∃ q, wr = w.drewN q) ∧ Aside0 (∀ x, x ∈ xs.take t → x ≤ 1)) (fun _ i _ => n - (intOf i).toNat)
  case atStart =>
    exact ⟨0, rfl, Nat.zero_le _, ⟨0, rfl⟩, ⟨fun x hx => absurd hx (by simp)⟩⟩
  case round =>
    obtain ⟨t, rfl, ht, ⟨q, hwq⟩, hR⟩ := hrel
    have HWQ := Aside0.mk hwq
    by_cases htn : t < n
    · have hlt : (t : Int) < (n : Int) := by omega
      obtain ⟨ad, hA, hx⟩ := Kd.at_int HC.out.1 (t : Int) (by omega) hlt
      cases hA
      have htl : t < xs.length := by have := HC.out.2; omega
      rw [rd_at htl, Int.toNat_natCast] at hx
      obtain ⟨x, hxx⟩ : ∃ x, xs[t] = x := ⟨_, rfl⟩
      rw [hxx] at hx
      have hx : wr.cell? (ad.add t) = some (.int .u8 x) := by rw [hwq]; exact hx
      have HG := Aside0.mk hxx
      have hcall := fun W => gt1_any x W
      clear hxx hwq
      by_cases hq : 1 < x
      · rw [decide_eq_true hq] at hcall
        have HQ := Aside0.mk hq
        have HCA := Aside0.mk hcall
        clear hq hcall
        go_wp2_with (go_at_call 75; refine (HCA.out _).mono ?_; rintro e w1 ⟨rfl, q1, hw1⟩; have HW1 := Aside0.mk hw1; clear hw1)
        go_ret
        exact ⟨⟨_, rfl, fun _ => ⟨x, by rw [← HG.out]; exact List.getElem_mem htl, HQ.out⟩, fun _ => by omega⟩, _, by rw [HW1.out, HWQ.out]; exact World.drewN_drewN _ _ _⟩
      · rw [decide_eq_false hq] at hcall
        have HQ := Aside0.mk hq
        have HCA := Aside0.mk hcall
        clear hq hcall
        go_wp2_with (go_at_call 75; refine (HCA.out _).mono ?_; rintro e w1 ⟨rfl, q1, hw1⟩; have HW1 := Aside0.mk hw1; clear hw1)
        refine ⟨⟨t + 1, by go_num, by omega, ⟨_, by rw [HW1.out, HWQ.out]; exact World.drewN_drewN _ _ _⟩, ⟨?_⟩⟩, by simp only [intOf]; omega⟩
        intro y hy
        rw [List.take_add_one, List.getElem?_eq_getElem htl, HG.out] at hy
        rcases List.mem_append.1 hy with h | h
        · exact hR.out y h
        · have : y = x := by simpa using h
          rw [this]
          exact HQ.out
    · have hlt : ¬ (t : Int) < (n : Int) := by omega
      obtain rfl : t = n := by omega
      clear hwq
      go_wp2_with fail
      go_ret
      refine ⟨⟨_, rfl, fun h => by omega, fun ⟨x, hx, hne⟩ => absurd (hR.out x (by rw [List.take_of_length_le (by have := HC.out.2; omega)]; exact hx)) (by omega)⟩, q, HWQ.out⟩
theorem ContainsB_any (xs : List Int) (A : Option Addr) (n c : Nat) (w : World) (hC : (Kd.int .u8).C w A n xs) (hc : n ≤ c) (hn : n ≤ 140737488355328) :
    Calls Tryd.prog 74 #[.slice A n c, .func (.func 75) #[] #[]] w fun e w' =>
      e = .returned (.bool (decide (∃ x ∈ xs, 1 < x))) ∧ ∃ q, w' = w.drewN q := by
  have HI := Aside0.mk (IndexB_any xs A n c w hC hc hn)
  clear hC hc hn
  go_enter Tryd.func74, Tryd.ntmps74
  go_wp2_with (go_at_call 97; refine HI.out.mono ?_; rintro e w1 ⟨⟨i, rfl, hi⟩, q1, hw1⟩; have HX := Aside0.mk (And.intro hi hw1); clear hi hw1)
  go_ret
  refine ⟨?_, _, HX.out.2⟩
  refine congrArg (fun b => Ending.returned (Value.bool b)) ?_
  exact decide_eq_decide.2 HX.out.1
theorem BRight_any (xs : List Int) (A : Option Addr) (n c : Nat) (w : World) (hC : (Kd.int .u8).C w A n xs) (hc : n ≤ c) (hn : n ≤ 140737488355328) :
    Calls Tryd.prog 48 #[.slice A n c] w fun e w' => e = .returned (.bool (!decide (∃ x ∈ xs, 1 < x))) ∧ ∃ q, w' = w.drewN q := by
  have HI := Aside0.mk (ContainsB_any xs A n c w hC hc hn)
  clear hC hc hn
  go_enter Tryd.func48, Tryd.ntmps48
  go_wp2_with (go_at_call 74; refine HI.out.mono ?_; rintro e w1 ⟨rfl, q1, hw1⟩; have HX := Aside0.mk hw1; clear hw1)
  go_ret
  exact ⟨rfl, _, HX.out⟩
end Go.Proofs.YtnejnnfjbhpigaaDoor.Vit

namespace Go.Proofs.YtnejnnfjbhpigaaDoor.Vit
open Go.RowKit Go.Proofs.YtnejnnfjbhpigaaDoorW.PrintWords Go.Proofs.YtnejnnfjbhpigaaDoorW.PrintLast Go.Proofs.YtnejnnfjbhpigaaDoorW.PrintMore Go.Proofs.YtnejnnfjbhpigaaDoor.Mem
attribute [local go_sem] max2_int min2_int max_two min_two max_three min_three max_four min_four   -- for this text's walks alone
set_option linter.unusedVariables false
set_option linter.unusedSimpArgs false

theorem made_arr (k : IntKind) (L : Nat) : madeCells #[Value.int k 0] L = ((List.replicate L (0 : Int)).map (Value.int k)).toArray := by
  apply Array.toList_inj.1
  simp [madeCells]
  apply List.ext_getElem?
  intro i
  by_cases hi : i < L
  · rw [List.getElem?_map, List.getElem?_range hi, List.getElem?_replicate, if_pos hi]
    simp [Nat.mod_one]
  · rw [List.getElem?_eq_none (by simp; omega), List.getElem?_eq_none (by simp; omega)]
/-- A buffer's own cells. -/
def bufA (n sb L : Nat) (cs : Nat → Nat) : Array Value := #[.int .i64 (n : Int), .slice (some ⟨sb, 0, none⟩) L L, .int .i64 (cs 0 : Nat), .int .i64 (cs 1 : Nat), .int .i64 (cs 2 : Nat), .int .i64 (cs 3 : Nat)]
/-- A row of numbers as a block's cells. -/
def numA (xs : List Int) : Array Value := (xs.map (Value.int .i64)).toArray
theorem numA_size (xs : List Int) : (numA xs).size = xs.length := by simp [numA]
theorem numA_get (xs : List Int) (j : Nat) (h : j < xs.length) : (numA xs)[j]? = some (.int .i64 (xs.getD j 0)) := by
  unfold numA
  rw [List.getElem?_toArray, List.getElem?_map, List.getD_eq_getElem?_getD, List.getElem?_eq_getElem h]
  rfl
theorem numA_set (xs : List Int) (j : Nat) (x : Int) : (numA xs).setIfInBounds j (.int .i64 x) = numA (xs.set j x) := by
  unfold numA
  rw [List.map_set]
  simp
structure IsBuf (w : World) (b sb n : Nat) (xs : List Int) (cs : Nat → Nat) : Prop where
  blk : w.heap[b]? = some (.cells (bufA n sb (4 * (n + 6)) cs) 90 (0, 0))
  row : w.heap[sb]? = some (.cells (numA xs) 3 (0, 0))
  len : xs.length = 4 * (n + 6)
  le : n ≤ 4096
theorem IsBuf.ne {w : World} {b sb n : Nat} {xs : List Int} {cs : Nat → Nat} (h : IsBuf w b sb n xs cs) : b ≠ sb := blk_ne h.blk h.row (by decide)
theorem IsBuf.below {w w' : World} {b sb n : Nat} {xs : List Int} {cs : Nat → Nat} (h : IsBuf w b sb n xs cs) (hB : Below w.heap.size w w') : IsBuf w' b sb n xs cs := ⟨below_cell_blk hB h.blk, below_cell_blk hB h.row, h.len, h.le⟩
theorem IsBuf.chg {w w' : World} {S : Nat → Prop} {b sb n : Nat} {xs : List Int} {cs : Nat → Nat} (h : IsBuf w b sb n xs cs) (hB : Chg S w w') (h1 : ¬ S b) (h2 : ¬ S sb) : IsBuf w' b sb n xs cs := ⟨hB.keeps h.blk h1, hB.keeps h.row h2, h.len, h.le⟩
theorem IsBuf.C {w : World} {b sb n : Nat} {xs : List Int} {cs : Nat → Nat} (h : IsBuf w b sb n xs cs) : (Kd.int .i64).C w (some ⟨sb, 0, none⟩) (4 * (n + 6)) xs := by
  have h1 := C_block xs (by have := h.len; have := h.le; omega) h.row
  rw [h.len] at h1
  exact h1
set_option maxHeartbeats 1600000 in
set_option maxHeartbeats 400000 in
set_option maxRecDepth 100000 in
theorem Reset_any (b n : Nat) (sv k0 k1 k2 k3 : Value) (w : World) (h : w.heap[b]? = some (.cells #[.int .i64 (n : Int), sv, k0, k1, k2, k3] 90 (0, 0))) (hn : n ≤ 4096) :
    Calls Tryd.prog 73 #[.pointer (some ⟨b, 0, none⟩)] w fun e w' => e = .returned (.tuple #[]) ∧ IsBuf w' b w.heap.size n (List.replicate (4 * (n + 6)) 0) (fun _ => 0) ∧ Chg (fun k => k = b) w w' := by
  obtain ⟨L, hL⟩ : ∃ L, 4 * (n + 6) = L := ⟨_, rfl⟩
  have hmk := make_int L (by omega)
  obtain ⟨Z, hZ⟩ : ∃ Z, madeCells #[Value.int .i64 0] L = Z := ⟨_, rfl⟩
  rw [hZ] at hmk
  have hw1 : wrap64 (4 * ((n + 6 : Nat) : Int)) = (L : Int) := by unfold wrap64; omega
  have hw2 : 4 * ((n : Int) + 6) = (L : Int) := by omega
  have hw3 : wrap64 (4 * ((n : Int) + 6)) = (L : Int) := by unfold wrap64; omega
  have M0 : w.cell? ⟨b, 0, none⟩ = some (.int .i64 (n : Int)) := blk_cell h 0
  have M1 : w.cell? ⟨b, 1, none⟩ = some sv := blk_cell h 1
  have M2 : w.cell? ⟨b, 2, none⟩ = some k0 := blk_cell h 2
  have M3 : w.cell? ⟨b, 3, none⟩ = some k1 := blk_cell h 3
  have M4 : w.cell? ⟨b, 4, none⟩ = some k2 := blk_cell h 4
  have M5 : w.cell? ⟨b, 5, none⟩ = some k3 := blk_cell h 5
  have F := fun j => blk_frozen h j
  have F1 := F 1
  have F2 := F 2
  have F3 := F 3
  have F4 := F 4
  have F5 := F 5
  have hbl : b < w.heap.size := blk_lt h
  have HH := Aside0.mk (And.intro h (And.intro hL (And.intro hZ hn)))
  clear h hL hZ F
  go_enter Tryd.func73, Tryd.ntmps73
  go_wp2_with (go_at_call 50; refine (VBits_any n (by omega) _).mono ?_; rintro e w1 ⟨rfl, rfl⟩)
  go_end0
  have e1 := blk_set HH.out.1 1 (.slice (some ⟨w.heap.size, 0, none⟩) L L)
  have e2 := blk_set e1 2 (.int .i64 0)
  have e3 := blk_set e2 3 (.int .i64 0)
  have e4 := blk_set e3 4 (.int .i64 0)
  have e5 := blk_set e4 5 (.int .i64 0)
  have c0 : Chg (fun k => k = b) w w := Chg.refl _ w
  have c1 := c0.set_ (p := ⟨b, 1, none⟩) (fun _ => rfl) (.slice (some ⟨w.heap.size, 0, none⟩) L L)
  have c2 := c1.set_ (p := ⟨b, 2, none⟩) (fun _ => rfl) (.int .i64 0)
  have c3 := c2.set_ (p := ⟨b, 3, none⟩) (fun _ => rfl) (.int .i64 0)
  have c4 := c3.set_ (p := ⟨b, 4, none⟩) (fun _ => rfl) (.int .i64 0)
  have c5 := c4.set_ (p := ⟨b, 5, none⟩) (fun _ => rfl) (.int .i64 0)
  obtain ⟨W5, hW5⟩ : ∃ W5, (((((w.setCell ⟨b, 1, none⟩ (.slice (some ⟨w.heap.size, 0, none⟩) L L)).setCell ⟨b, 2, none⟩ (.int .i64 0)).setCell ⟨b, 3, none⟩ (.int .i64 0)).setCell ⟨b, 4, none⟩ (.int .i64 0)).setCell ⟨b, 5, none⟩ (.int .i64 0)) = W5 := ⟨_, rfl⟩
  have hsz : W5.heap.size = w.heap.size := by rw [← hW5]; simp
  rw [hW5] at e5 c5 ⊢
  have ha : bufA n w.heap.size L (fun _ => 0) = ((((((#[.int .i64 (n : Int), sv, k0, k1, k2, k3] : Array Value).setIfInBounds 1 (.slice (some ⟨w.heap.size, 0, none⟩) L L)).setIfInBounds 2 (.int .i64 0)).setIfInBounds 3 (.int .i64 0)).setIfInBounds 4 (.int .i64 0)).setIfInBounds 5 (.int .i64 0)) := rfl
  have g0 := heap_alloc_new W5 (.cells Z 3)
  rw [hsz] at g0
  refine ⟨rfl, ⟨?_, ?_, by simp, HH.out.2.2.2⟩, c5.alloc _⟩
  · rw [HH.out.2.1, ha]
    exact blk_alloc e5 _
  · rw [HH.out.2.1]
    unfold numA
    rw [← made_arr, HH.out.2.2.1]
    exact g0
set_option maxRecDepth 100000 in
theorem New_any (n : Nat) (hn : n ≤ 4096) (w : World) :
    Calls Tryd.prog 47 #[.int .i64 (n : Int)] w fun e w' => e = .returned (.tuple #[.pointer (some ⟨w.heap.size, 0, none⟩), .int .i64 0]) ∧ IsBuf w' w.heap.size (w.heap.size + 1) n (List.replicate (4 * (n + 6)) 0) (fun _ => 0) ∧ Below w.heap.size w w' := by
  have h0 : ¬ (n : Int) < 0 := by omega
  have h1 : ¬ (4096 : Int) < (n : Int) := by omega
  have d0 : decide ((n : Int) < 0) = false := decide_eq_false h0
  have d1 : decide ((4096 : Int) < (n : Int)) = false := decide_eq_false h1
  have d2 : decide (4096 < n) = false := decide_eq_false (by omega)
  have HN := Aside0.mk hn
  clear hn
  go_enter Tryd.func47, Tryd.ntmps47
  go_wp2_with fail
  refine (Reset_any w.heap.size n _ _ _ _ _ _ (heap_alloc_new w _) HN.out).mono ?_; rintro e w1 ⟨rfl, hI, hC⟩; have HI := Aside0.mk (And.intro hI hC); clear hI hC
  go_wp2_with fail
  go_ret2
  have hI := HI.out.1
  rw [World.size_alloc] at hI
  exact ⟨rfl, hI, (below_alloc (Below.refl _ _) _).trans (HI.out.2.below (by simp) (fun i hi => by omega))⟩
/-- A row that is not empty: where it lies. -/
theorem row_formK {k : IntKind} {xs : List Int} {A : Option Addr} {n : Nat} {w : World} (hC : (Kd.int k).C w A n xs) (hn : 0 < n) :
    ∃ b o, A = some ⟨b, o, none⟩ ∧ ∀ j, j < n → w.cell? ⟨b, o + j, none⟩ = some (.int k (xs.getD j 0)) := by
  obtain ⟨ad, hA, h0⟩ := Kd.at_int hC 0 (by omega) (by omega)
  obtain ⟨b, o, sp⟩ := ad
  have hsp : sp = none := by
    cases sp with
    | none => rfl
    | some q =>
      have h0' : w.cell? ⟨b, o, some q⟩ = some (.int k (rd xs 0)) := h0
      unfold World.cell? at h0'
      split at h0' <;> simp_all
  subst hsp
  refine ⟨b, o, hA, fun j hj => ?_⟩
  obtain ⟨ad2, hA2, h2⟩ := Kd.at_int hC (j : Int) (by omega) (by omega)
  rw [hA] at hA2
  cases hA2
  rw [Int.toNat_natCast] at h2
  have e : (⟨b, o, none⟩ : Addr).add j = ⟨b, o + j, none⟩ := by
    unfold Addr.add
    split <;> simp_all
  rw [e] at h2
  exact h2
/-- The numbers behind a version's first steps. -/
def addv (xs : List Int) (v : Nat) (p : List Nat) : Nat → List Int
  | 0 => xs
  | t + 1 => (addv xs v p t).set (place v t) (sadd ((addv xs v p t).getD (place v t) 0) (sg (p.getD t 0)))
theorem addv_len (xs : List Int) (v : Nat) (p : List Nat) : ∀ t, (addv xs v p t).length = xs.length
  | 0 => rfl
  | t + 1 => by unfold addv; rw [List.length_set, addv_len xs v p t]
/-- A count more. -/
def bump (cs : Nat → Nat) (v : Nat) : Nat → Nat := fun i => if i = v then cs v + 1 else cs i
theorem bufA_get (n sb L : Nat) (cs : Nat → Nat) {v : Nat} (hv : v < 4) : (bufA n sb L cs)[2 + v]? = some (.int .i64 (cs v : Nat)) := by
  match v, hv with
  | 0, _ => rfl
  | 1, _ => rfl
  | 2, _ => rfl
  | 3, _ => rfl
theorem bufA_bump (n sb L : Nat) (cs : Nat → Nat) {v : Nat} (hv : v < 4) : (bufA n sb L cs).setIfInBounds (2 + v) (.int .i64 ((cs v : Nat) + 1)) = bufA n sb L (bump cs v) := by
  match v, hv with
  | 0, _ => rfl
  | 1, _ => rfl
  | 2, _ => rfl
  | 3, _ => rfl
theorem ints_getD (p : List Nat) (t : Nat) : (ints p).getD t 0 = (p.getD t 0 : Nat) := by
  unfold ints
  rw [List.getD_eq_getElem?_getD, List.getD_eq_getElem?_getD, List.getElem?_map]
  cases p[t]? <;> rfl
theorem bits_right {p : List Nat} (hp : Bits p) : (!decide (∃ x ∈ ints p, (1 : Int) < x)) = true := by
  have : ¬ ∃ x ∈ ints p, (1 : Int) < x := fun ⟨x, hx, h⟩ => by
    obtain ⟨y, hy, rfl⟩ := List.mem_map.1 hx
    have := hp y hy
    omega
  rw [decide_eq_false this]
  rfl
set_option maxHeartbeats 3200000 in
set_option maxRecDepth 100000 in
theorem Add_ok (w : World) (b sb n : Nat) (xs : List Int) (cs : Nat → Nat) (hI : IsBuf w b sb n xs cs) (v : Nat) (hv : v < 4) (hcs : cs v ≤ 1000000) (p : List Nat) (hp : Bits p) (hpl : p.length = n + 6) (A : Option Addr) (c : Nat) (hC : (Kd.int .u8).C w A (n + 6) (ints p)) (hc : n + 6 ≤ c) :
    Calls Tryd.prog 25 #[.pointer (some ⟨b, 0, none⟩), .int .i64 (v : Int), .slice A (n + 6) c] w fun e w' => e = .returned (.int .i64 0) ∧ IsBuf w' b sb n (addv xs v p (n + 6)) (bump cs v) ∧ Chg (fun k => k = b ∨ k = sb) w w' := by
  obtain ⟨L, hL⟩ : ∃ L, n + 6 = L := ⟨_, rfl⟩
  have hle := hI.le
  have hright := BRight_any (ints p) A L c w (by rw [← hL]; exact hC) (by omega) (by omega)
  rw [bits_right hp] at hright
  obtain ⟨pb, po, hA, hpc⟩ := row_formK hC (by omega)
  subst hA
  have hpc2 : ∀ j, j < L → w.cell? ⟨pb, po + j, none⟩ = some (.int .u8 (p.getD j 0 : Nat)) := fun j hj => by rw [← ints_getD]; exact hpc j (by omega)
  have hpb : pb ≠ b ∧ pb ≠ sb := by
    have h0 := hpc 0 (by omega)
    refine ⟨fun e => ?_, fun e => ?_⟩
    · subst e
      rw [blk_cell hI.blk] at h0
      unfold bufA at h0
      match hq : po + 0, h0 with
      | 0, h0 => simp at h0
      | 1, h0 => simp at h0
      | 2, h0 => simp at h0
      | 3, h0 => simp at h0
      | 4, h0 => simp at h0
      | 5, h0 => simp at h0
      | q + 6, h0 => simp at h0
    · subst e
      rw [blk_cell hI.row] at h0
      by_cases hq : po + 0 < xs.length
      · rw [numA_get _ _ hq] at h0
        simp at h0
      · rw [Array.getElem?_eq_none (by rw [numA_size]; omega)] at h0
        simp at h0
  have HI := Aside0.mk (And.intro hI (And.intro hpc2 (And.intro hpb (And.intro hright (And.intro hcs hL)))))
  rw [hL] at hc ⊢
  have hL4102 : L ≤ 4102 := by omega
  have M0 : w.cell? ⟨b, 0, none⟩ = some (.int .i64 (n : Int)) := blk_cell hI.blk 0
  have d1 : ¬ (v : Int) < 0 := by omega
  have d2 : ¬ (4 : Int) ≤ (v : Int) := by omega
  have d3 : decide ((v : Int) < 0) = false := decide_eq_false d1
  have d4 : decide ((4 : Int) ≤ (v : Int)) = false := decide_eq_false d2
  have d5 : decide (4 ≤ v) = false := decide_eq_false (by omega)
  clear hI hcs hp hpl hC hpc hpc2 hpb hright hL hle
  go_enter Tryd.func25, Tryd.ntmps25
  go_upto_region 5 with (go_at_call 48; refine HI.out.2.2.2.1.mono ?_; rintro e w1 ⟨rfl, q1, hw1⟩; have HW1 := Aside0.mk hw1; clear hw1)
  have M1 : w1.cell? ⟨b, 0, none⟩ = some (.int .i64 (n : Int)) := by rw [HW1.out]; exact M0
  have hLn : ((n + 6 : Nat) : Int) = (L : Int) := by have := HI.out.2.2.2.2.2; omega
  have hLn2 : (n : Int) + 6 = (L : Int) := by omega
  have hbe : ((L : Int) != (L : Int)) = false := by simp
  go_upto_region 7 with (go_at_call 50; refine (VBits_any n (by have := HI.out.2.2.2.2.2; omega) _).mono ?_; rintro e w2 ⟨rfl, rfl⟩)
  go_upto_region 10 with (go_at_call 51; refine (Places_any v L hv (by omega) _).mono ?_; rintro e w2 ⟨u2, rfl, hR2, hB2⟩; have H2 := Aside0.mk (And.intro hR2 hB2); clear hR2 hB2)
  obtain ⟨A2, c2, e2, hc2, hC2⟩ := Kd.R_reads H2.out.1
  rw [places_len] at e2 hc2 hC2
  obtain ⟨qb, qo, hA2, hqc⟩ := row_formK hC2 (by omega)
  subst hA2
  have hqb : w1.heap.size ≤ qb := (Kd.R_bound H2.out.1).1 qb (by rw [e2]; rfl) |>.2.1
  subst e2
  have hw1s : w1.heap.size = w.heap.size := by rw [HW1.out]; rfl
  have hB12 : Below w.heap.size w w2 := by
    have h := H2.out.2
    rw [HW1.out] at h
    exact (pw_below_drewN (Below.refl _ _) q1).trans h
  have hI2 := HI.out.1.below hB12
  have hqbn : qb ≠ b ∧ qb ≠ sb := by
    have h1 := blk_lt HI.out.1.blk
    have h2 := blk_lt HI.out.1.row
    omega
  have hpc2 : ∀ j, j < L → w2.cell? ⟨pb, po + j, none⟩ = some (.int .u8 (p.getD j 0 : Nat)) := fun j hj => below_cell hB12 (HI.out.2.1 j hj)
  have hqc2 : ∀ j, j < L → w2.cell? ⟨qb, qo + j, none⟩ = some (.int .i64 (place v j : Nat)) := fun j hj => by
    have h := hqc j hj
    rw [show (places v L).getD j 0 = ((place v j : Nat) : Int) by unfold places; rw [List.getD_eq_getElem?_getD, List.getElem?_map, List.getElem?_range hj]; rfl] at h
    exact h
  have H3 := Aside0.mk (And.intro hI2 (And.intro hqbn (And.intro hpc2 (And.intro hqc2 hB12))))
  clear hC2 hqc hqb hw1s hB12 hI2 hqbn hpc2 hqc2 M0 M1 hc2 d1 d2 d3 d4 d5 hbe hLn
  have hv4 : (v : Int) < 4 := by omega
  go_wp2_with fail
  go_loopw [47] (fun i wr => ∃ t : Nat, i = .int .i64 t ∧ t ≤ L ∧ wr.heap[sb]? = some (.cells (numA (addv xs v p t)) 3 (0, 0)) ∧ Chg (fun k => k = sb) w2 wr) (fun i _ => L - (intOf i).toNat)
  case atStart => exact ⟨0, rfl, Nat.zero_le _, H3.out.1.row, Chg.refl _ _⟩
  case round =>
    obtain ⟨t, rfl, ht, hrow, hchg⟩ := hrel
    have HR := Aside0.mk (And.intro hrow hchg)
    have hbk := hchg.keeps H3.out.1.blk H3.out.1.ne
    by_cases htL : t < L
    · have hlt : (t : Int) < (L : Int) := by omega
      have M1 : wr.cell? ⟨b, 1, none⟩ = some (.slice (some ⟨sb, 0, none⟩) (4 * (n + 6)) (4 * (n + 6))) := blk_cell hbk 1
      obtain ⟨K, hK⟩ : ∃ K, 4 * (n + 6) = K := ⟨_, rfl⟩
      rw [hK] at M1
      obtain ⟨pl, hpl⟩ : ∃ pl, place v t = pl := ⟨_, rfl⟩
      have hplK : pl < K := by have := place_lt (v := v) htL; omega
      have hplK2 : (pl : Int) < (K : Int) := by omega
      obtain ⟨o, ho⟩ : ∃ o, p.getD t 0 = o := ⟨_, rfl⟩
      obtain ⟨old, hold⟩ : ∃ old, (addv xs v p t).getD pl 0 = old := ⟨_, rfl⟩
      have k1 : wr.cell? ⟨pb, po + t, none⟩ = some (.int .u8 (o : Nat)) := by
        rw [← ho]
        exact (hchg.cell (p := ⟨pb, po + t, none⟩) (lies_lt (H3.out.2.2.1 t htL)) HI.out.2.2.1.2).trans (H3.out.2.2.1 t htL)
      have k2 : wr.cell? ⟨qb, qo + t, none⟩ = some (.int .i64 (pl : Nat)) := by
        rw [← hpl]
        exact (hchg.cell (p := ⟨qb, qo + t, none⟩) (lies_lt (H3.out.2.2.2.1 t htL)) H3.out.2.1.2).trans (H3.out.2.2.2.1 t htL)
      have k3 : wr.cell? ⟨sb, pl, none⟩ = some (.int .i64 old) := by
        rw [blk_cell hrow, numA_get _ _ (by rw [addv_len, H3.out.1.len]; omega), hold]
      have f3 : wr.frozen? ⟨sb, pl, none⟩ = false := blk_frozen hrow pl
      have hnx : addv xs v p (t + 1) = (addv xs v p t).set pl (sadd old (sg o)) := by
        show (addv xs v p t).set (place v t) (sadd ((addv xs v p t).getD (place v t) 0) (sg (p.getD t 0))) = _
        rw [hpl, hold, ho]
      have HN := Aside0.mk hnx
      clear hrow hchg hbk hK hpl ho hold hnx hplK
      go_upto_region 13 with fail
      go_region_law (first | (go_simp; go_at_call 53; refine (Of_any o _).mono ?_; rintro e w5 ⟨rfl, rfl⟩) | (go_simp; go_at_call 52; refine (Add_soft old (sg o) _).mono ?_; rintro e w5 ⟨rfl, rfl⟩))
      all_goals go_wp2_with fail
      all_goals (refine ⟨⟨t + 1, by go_num, by omega, ?_, (HR.out.2.set_ (p := ⟨sb, pl, none⟩) (fun _ => rfl) _).drew⟩, by simp only [intOf]; omega⟩)
      all_goals (rw [HN.out, ← numA_set]; exact blk_set HR.out.1 pl _)
    · have hlt : ¬ (t : Int) < (L : Int) := by omega
      obtain rfl : t = L := by omega
      have k1 : wr.cell? ⟨b, 2 + v, none⟩ = some (.int .i64 (cs v : Nat)) := (blk_cell hbk (2 + v)).trans (bufA_get n sb _ cs hv)
      have f1 : wr.frozen? ⟨b, 2 + v, none⟩ = false := blk_frozen hbk (2 + v)
      obtain ⟨q, hq⟩ : ∃ q, cs v = q := ⟨_, rfl⟩
      rw [hq] at k1
      have hw : IntKind.i64.wrap ((q : Int) + 1) = (q : Int) + 1 := IntWalk.i64_in _ (by have := HI.out.2.2.2.2.1; omega)
      have HB := Aside0.mk (And.intro hbk hq)
      clear hrow hchg hbk hq
      go_upto_region 15 with fail
      go_region_law (fail)
      go_wp2_with fail
      go_ret
      have hset := blk_set HB.out.1 (2 + v) (.int .i64 ((cs v : Nat) + 1))
      rw [bufA_bump n sb _ cs hv, HB.out.2] at hset
      have hn := H3.out.1.ne
      refine ⟨rfl, ⟨hset, blk_far HR.out.1 (p := ⟨b, 2 + v, none⟩) (fun e => hn e.symm) _, by rw [addv_len]; exact H3.out.1.len, H3.out.1.le⟩, ?_⟩
      have c1 : Chg (fun k => k = b ∨ k = sb) w w2 := Chg.of_below H3.out.2.2.2.2 _
      have c2 := c1.trans HR.out.2 (fun i hi h => Or.inr h)
      exact (c2.set_ (p := ⟨b, 2 + v, none⟩) (fun _ => Or.inl rfl) _).drew
end Go.Proofs.YtnejnnfjbhpigaaDoor.Vit
