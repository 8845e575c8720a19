/- Contracts for the law CombineAdds: the document's buffer (New, DocAdd), Right, soft.Add of the document; the combiner's refusals; no buffer at all. Each theorem says its own conditions. -/
import Derived.Test.YtnejnnfjbhpigaaDoorWp
import Derived.BigRegion
import Derived.Deep.CutRange
import Derived.Deep.RegionHeld3
namespace Go.Proofs.YtnejnnfjbhpigaaDoor.Vit
open Go.RowKit Go.Proofs.YtnejnnfjbhpigaaDoorW.PrintWords Go.Proofs.YtnejnnfjbhpigaaDoorW.PrintLast Go.Proofs.YtnejnnfjbhpigaaDoorW.PrintMore Go.Proofs.YtnejnnfjbhpigaaDoor.Mem
attribute [local go_sem] max2_int min2_int max_two min_two max_three min_three max_four min_four   -- for this text's walks alone
set_option linter.unusedVariables false
set_option linter.unusedSimpArgs false

theorem Add8_any (a b : Int) (w : World) : Calls Tryd.prog 66 #[.int .i64 a, .int .i64 b] w fun e w' => e = .returned (.int .i64 (sadd a b)) ∧ w = w' := by
  obtain ⟨x, hx⟩ : ∃ x, clip a = x := ⟨_, rfl⟩
  obtain ⟨y, hy⟩ : ∃ y, clip b = y := ⟨_, rfl⟩
  have h1 := clip_in a
  have h2 := clip_in b
  rw [hx] at h1
  rw [hy] at h2
  have hw : IntKind.i64.wrap (x + y) = x + y := IntWalk.i64_in _ (by omega)
  have c1 := fun W => Clip8_any a W
  have c2 := fun W => Clip8_any b W
  have c3 := fun W => Clip8_any (x + y) W
  rw [hx] at c1
  rw [hy] at c2
  have HC := Aside0.mk (And.intro c1 (And.intro c2 c3))
  have hs : clip (x + y) = sadd a b := by unfold sadd; rw [hx, hy]
  rw [← hs]
  clear c1 c2 c3 hx hy hs
  go_enter Tryd.func66, Tryd.ntmps66
  go_upto_region 1 with fail
  refine wp_region_lit ?_
  refine wpList_plain rfl (fun _ hK => ?_)
  go_simp
  refine hK _ _ ?_
  clear hK
  refine wpList_step (fun K hK => ?_)
  go_simp
  go_at_call 92
  refine (HC.out.1 _).mono ?_
  rintro e w1 ⟨rfl, rfl⟩
  refine hK _ _ ?_
  clear hK K
  refine wpList_plain rfl (fun _ hK => ?_)
  go_simp
  refine hK _ _ ?_
  clear hK
  refine wpList_step (fun K hK => ?_)
  go_simp
  go_at_call 92
  refine (HC.out.2.1 _).mono ?_
  rintro e w1 ⟨rfl, rfl⟩
  refine hK _ _ ?_
  clear hK K
  refine wpList_plain rfl (fun _ hK => ?_)
  go_simp
  refine hK _ _ ?_
  clear hK
  refine wpList_step (fun K hK => ?_)
  go_simp
  go_at_call 92
  refine (HC.out.2.2 _).mono ?_
  rintro e w1 ⟨rfl, rfl⟩
  refine hK _ _ ?_
  clear hK K
  refine wpList_plain rfl (fun _ hK => ?_)
  go_simp
  refine hK _ _ ?_
  clear hK
  refine wpList_nil ?_
  go_wp2_with fail
  go_ret
  exact ⟨rfl, rfl⟩
theorem Right1_any (xs : List Int) (A : Option Addr) (n c : Nat) (w : World) (hC : (Kd.int .u8).C w A n xs) (hn : n ≤ 140737488355328) :
    Calls Tryd.prog 37 #[.slice A n c] w fun e w' => e = .returned (.bool (!decide (∃ x ∈ xs, 1 < x))) ∧ ∃ q, w' = w.drewN q := by
  have hl : xs.length = n := Kd.C_len hC
  have HC := Aside0.mk (And.intro hC hl)
  clear hC hl
  go_enter Tryd.func37, Tryd.ntmps37
  go_wp2_with fail
  go_loopw [3] (fun i wr => ∃ t : Nat, i = .int .i64 t ∧ t ≤ n ∧ (∃ q, wr = w.drewN q) ∧ Aside0 (∀ x, x ∈ xs.take t → x ≤ 1)) (fun i _ => n - (intOf i).toNat)
  case atStart => exact ⟨0, rfl, Nat.zero_le _, ⟨0, rfl⟩, ⟨fun x hx => absurd hx (by simp)⟩⟩
  case round =>
    obtain ⟨t, rfl, ht, ⟨q, hwq⟩, hR⟩ := hrel
    have HWQ := Aside0.mk hwq
    by_cases htn : t < n
    · have hlt : (t : Int) < (n : Int) := by omega
      obtain ⟨ad, hA, hx⟩ := Kd.at_int HC.out.1 (t : Int) (by omega) hlt
      cases hA
      have htl : t < xs.length := by have := HC.out.2; omega
      rw [rd_at htl, Int.toNat_natCast] at hx
      obtain ⟨x, hxx⟩ : ∃ x, xs[t] = x := ⟨_, rfl⟩
      rw [hxx] at hx
      have hx : wr.cell? (ad.add t) = some (.int .u8 x) := by rw [hwq]; exact hx
      have HG := Aside0.mk hxx
      clear hxx hwq
      by_cases hq : 1 < x
      · have HQ := Aside0.mk hq
        go_wp2_with fail
        go_ret
        refine ⟨congrArg (fun b => Ending.returned (Value.bool b)) ?_, q, HWQ.out⟩
        rw [decide_eq_true ⟨x, by rw [← HG.out]; exact List.getElem_mem htl, HQ.out⟩]
        rfl
      · have HQ := Aside0.mk (show x ≤ 1 by omega)
        go_wp2_with fail
        refine ⟨⟨t + 1, by go_num, by omega, ⟨_, HWQ.out⟩, ⟨?_⟩⟩, by simp only [intOf]; omega⟩
        intro y hy
        rw [List.take_add_one, List.getElem?_eq_getElem htl, HG.out] at hy
        rcases List.mem_append.1 hy with h | h
        · exact hR.out y h
        · have : y = x := by simpa using h
          rw [this]
          exact HQ.out
    · have hlt : ¬ (t : Int) < (n : Int) := by omega
      obtain rfl : t = n := by omega
      clear hwq
      go_wp2_with fail
      go_ret
      refine ⟨congrArg (fun b => Ending.returned (Value.bool b)) ?_, q, HWQ.out⟩
      rw [decide_eq_false (fun ⟨x, hx, h⟩ => by have := hR.out x (by rw [List.take_of_length_le (by have := HC.out.2; omega)]; exact hx); omega)]
      rfl
/-- The document's buffer. -/
structure IsRef (w : World) (b sb n : Nat) (xs : List Int) (cs : Nat → Nat) : Prop where
  blk : w.heap[b]? = some (.cells (bufA n sb (4 * (n + 6)) cs) 84 (0, 0))
  row : w.heap[sb]? = some (.cells (numA xs) 3 (0, 0))
  len : xs.length = 4 * (n + 6)
  le : n ≤ 4096
theorem IsRef.ne {w : World} {b sb n : Nat} {xs : List Int} {cs : Nat → Nat} (h : IsRef w b sb n xs cs) : b ≠ sb := blk_ne h.blk h.row (by decide)
theorem IsRef.below {w w' : World} {b sb n : Nat} {xs : List Int} {cs : Nat → Nat} (h : IsRef w b sb n xs cs) (hB : Below w.heap.size w w') : IsRef w' b sb n xs cs := ⟨below_cell_blk hB h.blk, below_cell_blk hB h.row, h.len, h.le⟩
theorem IsRef.chg {w w' : World} {S : Nat → Prop} {b sb n : Nat} {xs : List Int} {cs : Nat → Nat} (h : IsRef w b sb n xs cs) (hB : Chg S w w') (h1 : ¬ S b) (h2 : ¬ S sb) : IsRef w' b sb n xs cs := ⟨hB.keeps h.blk h1, hB.keeps h.row h2, h.len, h.le⟩
theorem IsRef.C {w : World} {b sb n : Nat} {xs : List Int} {cs : Nat → Nat} (h : IsRef w b sb n xs cs) : (Kd.int .i64).C w (some ⟨sb, 0, none⟩) (4 * (n + 6)) xs := by
  have h1 := C_block xs (by have := h.len; have := h.le; omega) h.row
  rw [h.len] at h1
  exact h1
set_option maxRecDepth 100000 in
theorem New13_any (n : Nat) (hn : n ≤ 4096) (w : World) :
    Calls Tryd.prog 36 #[.int .i64 (n : Int)] w fun e w' => e = .returned (.pointer (some ⟨w.heap.size + 1, 0, none⟩)) ∧ IsRef w' (w.heap.size + 1) w.heap.size n (List.replicate (4 * (n + 6)) 0) (fun _ => 0) ∧ Below w.heap.size w w' := by
  obtain ⟨L, hL⟩ : ∃ L, 4 * (n + 6) = L := ⟨_, rfl⟩
  have hmk := make_int L (by omega)
  obtain ⟨Z, hZ⟩ : ∃ Z, madeCells #[Value.int .i64 0] L = Z := ⟨_, rfl⟩
  rw [hZ] at hmk
  have hw0 : wrap64 ((n : Int) + 6) = (n : Int) + 6 := wrap64_in _ (by omega) (by omega)
  have hw2 : 4 * ((n : Int) + 6) = (L : Int) := by omega
  have hb1 : (L : Int) ≤ 9223372036854775807 := by omega
  have hw3 : wrap64 (L : Int) = (L : Int) := wrap64_in _ (by omega) hb1
  have HH := Aside0.mk (And.intro hL (And.intro hZ hn))
  clear hL hZ hn hb1
  go_enter Tryd.func36, Tryd.ntmps36
  go_wp2_with fail
  go_ret
  have g0 : (w.alloc (.cells Z 3)).heap[w.heap.size]? = some (.cells Z 3 (0, 0)) := heap_alloc_new w _
  refine ⟨?_, ⟨?_, ?_, by simp, HH.out.2.2⟩, below_alloc (below_alloc (Below.refl _ _) _) _⟩
  · simp
  · rw [HH.out.1]
    have h := heap_alloc_new (w.alloc (.cells Z 3)) (.cells (bufA n w.heap.size L (fun _ => 0)) 84)
    rw [World.size_alloc] at h
    exact h
  · rw [HH.out.1]
    unfold numA
    rw [← made_arr, HH.out.2.1]
    exact blk_alloc g0 _
end Go.Proofs.YtnejnnfjbhpigaaDoor.Vit

namespace Go.Proofs.YtnejnnfjbhpigaaDoor.Vit
open Go.RowKit Go.Proofs.YtnejnnfjbhpigaaDoorW.PrintWords Go.Proofs.YtnejnnfjbhpigaaDoorW.PrintLast Go.Proofs.YtnejnnfjbhpigaaDoorW.PrintMore Go.Proofs.YtnejnnfjbhpigaaDoor.Mem
attribute [local go_sem] max2_int min2_int max_two min_two max_three min_three max_four min_four   -- for this text's walks alone
set_option linter.unusedVariables false
set_option linter.unusedSimpArgs false

set_option maxHeartbeats 3200000 in
set_option maxRecDepth 100000 in
theorem DocAdd_any (w : World) (b sb n : Nat) (xs : List Int) (cs : Nat → Nat) (hI : IsRef w b sb n xs cs) (v : Nat) (hv : v < 4) (hcs : cs v ≤ 1000000) (p : List Nat) (A : Option Addr) (c : Nat) (hC : (Kd.int .u8).C w A (n + 6) (ints p)) (hpl : p.length = n + 6) :
    Calls Tryd.prog 39 #[.pointer (some ⟨b, 0, none⟩), .int .i64 (v : Int), .slice A (n + 6) c] w fun e w' => e = .returned (.tuple #[]) ∧ IsRef w' b sb n (addv xs v p (n + 6)) (bump cs v) ∧ Chg (fun k => k = b ∨ k = sb) w w' := by
  obtain ⟨L, hL⟩ : ∃ L, n + 6 = L := ⟨_, rfl⟩
  have hle := hI.le
  obtain ⟨pb, po, hA, hpc⟩ := row_formK hC (by omega)
  subst hA
  have hpc2 : ∀ j, j < L → w.cell? ⟨pb, po + j, none⟩ = some (.int .u8 (p.getD j 0 : Nat)) := fun j hj => by rw [← ints_getD]; exact hpc j (by omega)
  have hpb : pb ≠ sb := by
    have h0 := hpc 0 (by omega)
    intro e
    subst e
    rw [blk_cell hI.row] at h0
    by_cases hq : po + 0 < xs.length
    · rw [numA_get _ _ hq] at h0
      simp at h0
    · rw [Array.getElem?_eq_none (by rw [numA_size]; omega)] at h0
      simp at h0
  have HI := Aside0.mk (And.intro hI (And.intro hpc2 (And.intro hpb (And.intro hcs hL))))
  rw [hL]
  have hL4102 : L ≤ 4102 := by omega
  have hv4 : (v : Int) < 4 := by omega
  clear hI hcs hpl hC hpc hpc2 hpb hL hle
  go_enter Tryd.func39, Tryd.ntmps39
  go_wp2_with fail
  go_loopw [6, 7] (fun i _ wr => ∃ t : Nat, i = .int .i64 t ∧ t ≤ L ∧ wr.heap[sb]? = some (.cells (numA (addv xs v p t)) 3 (0, 0)) ∧ Chg (fun k => k = sb) w wr) (fun i _ _ => L - (intOf i).toNat)
  case atStart => exact ⟨0, rfl, Nat.zero_le _, HI.out.1.row, Chg.refl _ _⟩
  case round =>
    obtain ⟨t, rfl, ht, hrow, hchg⟩ := hrel
    have HR := Aside0.mk (And.intro hrow hchg)
    have hbk := hchg.keeps HI.out.1.blk HI.out.1.ne
    by_cases htL : t < L
    · have hlt : (t : Int) < (L : Int) := by omega
      have M1 : wr.cell? ⟨b, 1, none⟩ = some (.slice (some ⟨sb, 0, none⟩) (4 * (n + 6)) (4 * (n + 6))) := blk_cell hbk 1
      obtain ⟨K, hK⟩ : ∃ K, 4 * (n + 6) = K := ⟨_, rfl⟩
      rw [hK] at M1
      obtain ⟨s, hs⟩ : ∃ s, strm v t = s := ⟨_, rfl⟩
      obtain ⟨pl, hpl⟩ : ∃ pl, place v t = pl := ⟨_, rfl⟩
      have hs4 : s < 4 := by rw [← hs]; exact strm_lt v t
      have hplK : pl < K := by have h1 := place_lt (v := v) htL; have h2 := HI.out.2.2.2.2; omega
      have hplK2 : (pl : Int) < (K : Int) := by omega
      have hm3 : 4 * (t : Int) + (s : Int) = (pl : Int) := by rw [← hpl, ← hs]; unfold place; omega
      obtain ⟨o, ho⟩ : ∃ o, p.getD t 0 = o := ⟨_, rfl⟩
      obtain ⟨old, hold⟩ : ∃ old, (addv xs v p t).getD pl 0 = old := ⟨_, rfl⟩
      have k1 : wr.cell? ⟨pb, po + t, none⟩ = some (.int .u8 (o : Nat)) := by
        rw [← ho]
        exact (hchg.cell (p := ⟨pb, po + t, none⟩) (lies_lt (HI.out.2.1 t htL)) HI.out.2.2.1).trans (HI.out.2.1 t htL)
      have k3 : wr.cell? ⟨sb, pl, none⟩ = some (.int .i64 old) := by
        rw [blk_cell hrow, numA_get _ _ (by rw [addv_len, HI.out.1.len]; omega), hold]
      have f3 : wr.frozen? ⟨sb, pl, none⟩ = false := blk_frozen hrow pl
      have hnx : addv xs v p (t + 1) = (addv xs v p t).set pl (sadd old (sg o)) := by
        show (addv xs v p t).set (place v t) (sadd ((addv xs v p t).getD (place v t) 0) (sg (p.getD t 0))) = _
        rw [hpl, hold, ho]
      have hst := fun W => Stream10_any v t hv W
      rw [hs] at hst
      have HN := Aside0.mk (And.intro hnx hst)
      have hb1 : -9223372036854775808 ≤ 4 * (t : Int) ∧ 4 * (t : Int) ≤ 9223372036854775807 := by omega
      have hb2 : -9223372036854775808 ≤ (pl : Int) ∧ (pl : Int) ≤ 9223372036854775807 := by omega
      have hm1 : wrap64 (4 * (t : Int)) = 4 * (t : Int) := wrap64_in _ hb1.1 hb1.2
      have hm4 : wrap64 (pl : Int) = (pl : Int) := wrap64_in _ hb2.1 hb2.2
      clear hrow hchg hbk hK hpl ho hold hnx hplK hst hs hs4 hb1 hb2
      go_upto_region 4 with (go_at_call 61; refine (HN.out.2 _).mono ?_; rintro e w1 ⟨rfl, rfl⟩)
      go_region_law (first | (go_simp; go_at_call 67; refine (Of8_any o _).mono ?_; rintro e w5 ⟨rfl, rfl⟩) | (go_simp; go_at_call 66; refine (Add8_any old (sg o) _).mono ?_; rintro e w5 ⟨rfl, rfl⟩))
      all_goals clear hm1 hm4
      all_goals go_wp2_with fail
      all_goals (refine ⟨⟨t + 1, by go_num, by omega, ?_, (HR.out.2.set_ (p := ⟨sb, pl, none⟩) (fun _ => rfl) _).drew⟩, by simp only [intOf]; omega⟩)
      all_goals (rw [HN.out.1, ← numA_set]; exact blk_set HR.out.1 pl _)
    · have hlt : ¬ (t : Int) < (L : Int) := by omega
      obtain rfl : t = L := by omega
      have k1 : wr.cell? ⟨b, 2 + v, none⟩ = some (.int .i64 (cs v : Nat)) := (blk_cell hbk (2 + v)).trans (bufA_get n sb _ cs hv)
      have f1 : wr.frozen? ⟨b, 2 + v, none⟩ = false := blk_frozen hbk (2 + v)
      obtain ⟨q, hq⟩ : ∃ q, cs v = q := ⟨_, rfl⟩
      rw [hq] at k1
      have hw : IntKind.i64.wrap ((q : Int) + 1) = (q : Int) + 1 := IntWalk.i64_in _ (by have := HI.out.2.2.2.1; omega)
      have HB := Aside0.mk (And.intro hbk hq)
      clear hrow hchg hbk hq
      go_upto_region 5 with fail
      go_region_law (fail)
      go_wp2_with fail
      go_end0
      have hset := blk_set HB.out.1 (2 + v) (.int .i64 ((cs v : Nat) + 1))
      rw [bufA_bump n sb _ cs hv, HB.out.2] at hset
      have hn := HI.out.1.ne
      refine ⟨rfl, ⟨hset, blk_far HR.out.1 (p := ⟨b, 2 + v, none⟩) (fun e => hn e.symm) _, by rw [addv_len]; exact HI.out.1.len, HI.out.1.le⟩, ?_⟩
      have c1 : Chg (fun k => k = b ∨ k = sb) w wr := HR.out.2.mono (fun i hi => Or.inr hi)
      exact (c1.set_ (p := ⟨b, 2 + v, none⟩) (fun _ => Or.inl rfl) _).drew
end Go.Proofs.YtnejnnfjbhpigaaDoor.Vit

namespace Go.Proofs.YtnejnnfjbhpigaaDoor.Vit
open Go.RowKit Go.Proofs.YtnejnnfjbhpigaaDoorW.PrintWords Go.Proofs.YtnejnnfjbhpigaaDoorW.PrintLast Go.Proofs.YtnejnnfjbhpigaaDoorW.PrintMore Go.Proofs.YtnejnnfjbhpigaaDoor.Mem
attribute [local go_sem] max2_int min2_int max_two min_two max_three min_three max_four min_four   -- for this text's walks alone
set_option linter.unusedVariables false
set_option linter.unusedSimpArgs false

theorem nil_reset (w : World) : Calls Tryd.prog 73 #[.pointer none] w fun e w' => e = .returned (.tuple #[]) ∧ w = w' := by
  go_enter Tryd.func73, Tryd.ntmps73
  go_wp2_with fail
  go_end0
  exact ⟨rfl, rfl⟩
theorem nil_decode (w : World) : Calls Tryd.prog 27 #[.pointer none] w fun e w' => e = .returned (.tuple #[.slice none 0 0, .int .i64 1]) ∧ w = w' := by
  go_enter Tryd.func27, Tryd.ntmps27
  go_wp2_with fail
  go_ret2
  exact ⟨rfl, rfl⟩
set_option maxRecDepth 100000 in
theorem nil_add (v : Int) (s : Value) (w : World) : Calls Tryd.prog 25 #[.pointer none, .int .i64 v, s] w fun e w' => e = .returned (.int .i64 1) ∧ w = w' := by
  go_enter Tryd.func25, Tryd.ntmps25
  go_wp2_with fail
  go_ret
  exact ⟨rfl, rfl⟩
theorem New_bad (n : Int) (hn : n < 0 ∨ 4096 < n) (w : World) : Calls Tryd.prog 47 #[.int .i64 n] w fun e w' => e = .returned (.tuple #[.pointer none, .int .i64 1]) ∧ w = w' := by
  by_cases h0 : n < 0
  · have d0 : decide (n < 0) = true := decide_eq_true h0
    go_enter Tryd.func47, Tryd.ntmps47
    go_wp2_with fail
    go_ret2
    exact ⟨rfl, rfl⟩
  · have h1 : 4096 < n := by omega
    have d0 : decide (n < 0) = false := decide_eq_false h0
    have d1 : decide (4096 < n) = true := decide_eq_true h1
    clear hn
    go_enter Tryd.func47, Tryd.ntmps47
    go_wp2_with fail
    go_ret2
    exact ⟨rfl, rfl⟩
set_option maxRecDepth 100000 in
theorem Add_arg (w : World) (b : Nat) (v : Int) (hv : v < 0 ∨ 3 < v) (s : Value) :
    Calls Tryd.prog 25 #[.pointer (some ⟨b, 0, none⟩), .int .i64 v, s] w fun e w' => e = .returned (.int .i64 1) ∧ w = w' := by
  by_cases h0 : v < 0
  · have d0 : decide (v < 0) = true := decide_eq_true h0
    go_enter Tryd.func25, Tryd.ntmps25
    go_wp2_with fail
    go_ret
    exact ⟨rfl, rfl⟩
  · have h1 : (4 : Int) ≤ v := by omega
    have d0 : decide (v < 0) = false := decide_eq_false h0
    have d1 : decide ((4 : Int) ≤ v) = true := decide_eq_true h1
    clear hv
    go_enter Tryd.func25, Tryd.ntmps25
    go_wp2_with fail
    go_ret
    exact ⟨rfl, rfl⟩
set_option maxRecDepth 100000 in
theorem Add_bad (w : World) (b sb n : Nat) (xs : List Int) (cs : Nat → Nat) (hI : IsBuf w b sb n xs cs) (v : Nat) (hv : v < 4) (p : List Int) (A : Option Addr) (m c : Nat) (hC : (Kd.int .u8).C w A m p) (hc : m ≤ c) (hm : m ≤ 1000000) (hbad : (∃ x ∈ p, 1 < x) ∨ m ≠ n + 6) :
    Calls Tryd.prog 25 #[.pointer (some ⟨b, 0, none⟩), .int .i64 (v : Int), .slice A m c] w fun e w' => e = .returned (.int .i64 (if ∃ x ∈ p, 1 < x then 5 else 13)) ∧ ∃ q, w' = w.drewN q := by
  have hright := BRight_any p A m c w hC hc (by omega)
  have hle := hI.le
  have M0 : w.cell? ⟨b, 0, none⟩ = some (.int .i64 (n : Int)) := blk_cell hI.blk 0
  have d1 : ¬ (v : Int) < 0 := by omega
  have d2 : ¬ (4 : Int) ≤ (v : Int) := by omega
  have d3 : decide ((v : Int) < 0) = false := decide_eq_false d1
  have d4 : decide ((4 : Int) ≤ (v : Int)) = false := decide_eq_false d2
  have d5 : decide (4 ≤ v) = false := decide_eq_false (by omega)
  by_cases hx : ∃ x ∈ p, 1 < x
  · rw [decide_eq_true hx] at hright
    rw [if_pos hx]
    have HR := Aside0.mk hright
    clear hright hx hbad hI
    go_enter Tryd.func25, Tryd.ntmps25
    go_wp2_with (go_at_call 48; refine HR.out.mono ?_; rintro e w1 ⟨rfl, q1, hw1⟩; have HW1 := Aside0.mk hw1; clear hw1)
    go_ret
    exact ⟨rfl, q1, HW1.out⟩
  · rw [decide_eq_false hx] at hright
    rw [if_neg hx]
    have hmn : m ≠ n + 6 := hbad.resolve_left hx
    have hne : ((m : Int) != ((n : Int) + 6)) = true := by
      simp
      omega
    have hne2 : ((m : Int) != ((n + 6 : Nat) : Int)) = true := by
      simp
      omega
    have HR := Aside0.mk hright
    clear hright hx hbad hI hmn
    go_enter Tryd.func25, Tryd.ntmps25
    go_upto_region 5 with (go_at_call 48; refine HR.out.mono ?_; rintro e w1 ⟨rfl, q1, hw1⟩; have HW1 := Aside0.mk hw1; clear hw1)
    have M1 : w1.cell? ⟨b, 0, none⟩ = some (.int .i64 (n : Int)) := by rw [HW1.out]; exact M0
    go_wp2_with (go_at_call 50; refine (VBits_any n (by omega) _).mono ?_; rintro e w2 ⟨rfl, rfl⟩)
    go_ret
    exact ⟨rfl, q1, HW1.out⟩
end Go.Proofs.YtnejnnfjbhpigaaDoor.Vit

namespace Go.Proofs.YtnejnnfjbhpigaaDoor.Vit
open Go.RowKit Go.Proofs.YtnejnnfjbhpigaaDoorW.PrintWords Go.Proofs.YtnejnnfjbhpigaaDoorW.PrintLast Go.Proofs.YtnejnnfjbhpigaaDoorW.PrintMore Go.Proofs.YtnejnnfjbhpigaaDoor.Mem
attribute [local go_sem] max2_int min2_int max_two min_two max_three min_three max_four min_four   -- for this text's walks alone
set_option linter.unusedVariables false
set_option linter.unusedSimpArgs false

theorem neq4_same (a b c d : Int) (W : World) : (binOp .neq 37 (.agg #[.int .i64 a, .int .i64 b, .int .i64 c, .int .i64 d]) (.agg #[.int .i64 a, .int .i64 b, .int .i64 c, .int .i64 d])).run Tryd.prog W = .ok (.bool false) W := by
  obtain ⟨i0, hi, _⟩ := Option.map_eq_some_iff.1 info3
  have hc : Tryd.prog.cellsOf 3 = 1 := by kernel_rfl
  rw [run_neq_struct, run_equalIn_array W 9999 _ _ (Tryd.underlying37) hi, hc]
  have hr : List.range 4 = [0, 1, 2, 3] := rfl
  rw [hr]
  simp [Op.eqItems, go_sem, Tryd.underlying3]
theorem addv_in (xs : List Int) (v : Nat) (p : List Nat) (h : ∀ x ∈ xs, -31 ≤ x ∧ x ≤ 31) : ∀ t, ∀ x ∈ addv xs v p t, -31 ≤ x ∧ x ≤ 31
  | 0 => h
  | t + 1 => fun x hx => by
    unfold addv at hx
    rcases List.mem_or_eq_of_mem_set hx with h1 | h1
    · exact addv_in xs v p h t x h1
    · rw [h1]
      exact clip_in _
/-- A list, made as long as need be by noughts. -/
def padl (xs : List Int) (n : Nat) : List Nat := few1 xs n ++ zs (n - (few1 xs n).length)
theorem padl_len (xs : List Int) (n : Nat) : (padl xs n).length = n := by
  unfold padl
  rw [List.length_append, zs_len, few1_len]
  omega
theorem padl_bits (xs : List Int) (n : Nat) : Bits (padl xs n) := (few1_bits _ _).append (zs_bits _)
theorem ints_bits {p : List Int} (h0 : ∀ x ∈ p, 0 ≤ x) (h1 : ¬ ∃ x ∈ p, 1 < x) : ∃ l : List Nat, p = ints l ∧ Bits l := by
  refine ⟨p.map Int.toNat, ?_, fun b hb => ?_⟩
  · unfold ints
    rw [List.map_map]
    have : ∀ x ∈ p, ((fun n : Nat => (n : Int)) ∘ Int.toNat) x = x := fun x hx => by
      have := h0 x hx
      simp
      omega
    rw [List.map_congr_left this, List.map_id']
  · obtain ⟨x, hx, rfl⟩ := List.mem_map.1 hb
    have := Classical.byContradiction fun h => h1 ⟨x, hx, Int.not_le.1 h⟩
    omega
/-- The combiner's buffer and the document's, behind what came. -/
structure Both (n b z s7 : Nat) (A1 : Option Addr) (m : List Nat) (w wr : World) (k sb br sr : Nat) (X : List Int) (cs : Nat → Nat) : Prop where
  one : IsBuf wr b sb n X cs
  two : IsRef wr br sr n X cs
  apart : sb ≠ sr
  far : (sb < s7 ∨ z ≤ sb) ∧ z ≤ br ∧ z ≤ sr
  few : ∀ i, cs i ≤ k
  inn : ∀ x ∈ X, -31 ≤ x ∧ x ≤ 31
  list : (Kd.int .u8).C wr A1 n (ints m)
  below : Below w.heap.size w wr
  low : w.heap.size ≤ b ∧ w.heap.size ≤ sb
theorem Both.full {n b z s7 k sb br sr : Nat} {A1 : Option Addr} {m : List Nat} {w wr w' : World} {X : List Int} {cs : Nat → Nat} (h : Both n b z s7 A1 m w wr k sb br sr X cs) (hB : Below wr.heap.size wr w') : Both n b z s7 A1 m w w' k sb br sr X cs :=
  ⟨h.one.below hB, h.two.below hB, h.apart, h.far, h.few, h.inn, Kd.C_below h.list hB, h.below.trans (hB.mono h.below.size), h.low⟩
/-- A version comes to both. -/
theorem Both.add {n b z s7 k sb br sr v : Nat} {p : List Nat} {A1 : Option Addr} {m : List Nat} {w wr w1 w2 w3 : World} {X : List Int} {cs : Nat → Nat} (h : Both n b z s7 A1 m w wr k sb br sr X cs) (hA : ∀ ad, A1 = some ad → s7 ≤ ad.block ∧ ad.block < z) (hb : b < s7) (hz : w.heap.size ≤ z)
    (hI : IsBuf w1 b sb n (addv X v p (n + 6)) (bump cs v)) (hc : Chg (fun k => k = b ∨ k = sb) wr w1) (hB : Below w1.heap.size w1 w2)
    (hR : IsRef w3 br sr n (addv X v p (n + 6)) (bump cs v)) (hc2 : Chg (fun k => k = br ∨ k = sr) w2 w3) : Both n b z s7 A1 m w w3 (k + 1) sb br sr (addv X v p (n + 6)) (bump cs v) := by
  have hbb : b ≠ br := fun e => by
    have h1 := h.one.blk
    have h2 := h.two.blk
    rw [e] at h1
    rw [h1] at h2
    injection h2 with h2
    injection h2 with _ h2
    exact absurd h2 (by decide)
  have hbs : b ≠ sr := fun e => absurd h.one.blk (by rw [e, h.two.row]; intro h; injection h with h; injection h with _ h; exact absurd h (by decide))
  have hsb : sb ≠ br := fun e => absurd h.one.row (by rw [e, h.two.blk]; intro h; injection h with h; injection h with _ h; exact absurd h (by decide))
  have hl1 : (Kd.int .u8).C w1 A1 n (ints m) := C_chg h.list hc (fun ad had e => by have := hA ad had; have := h.far.1; omega)
  have hB1 : Below w.heap.size w w1 := h.below.trans (hc.below h.below.size (fun i hi => by have := h.low; omega))
  have hB2 := hB1.trans (hB.mono hB1.size)
  refine ⟨(hI.below hB).chg hc2 (by omega) (by have := h.apart; omega), hR, h.apart, h.far, bump_le h.few v, addv_in _ _ _ h.inn _, C_chg (Kd.C_below hl1 hB) hc2 (fun ad had e => by have := hA ad had; have := h.far; omega), hB2.trans (hc2.below hB2.size (fun i hi => by have := h.far; omega)), h.low⟩
end Go.Proofs.YtnejnnfjbhpigaaDoor.Vit

namespace Go.Proofs.YtnejnnfjbhpigaaDoor.Vit
open Go.RowKit Go.Proofs.YtnejnnfjbhpigaaDoorW.PrintWords Go.Proofs.YtnejnnfjbhpigaaDoorW.PrintLast Go.Proofs.YtnejnnfjbhpigaaDoorW.PrintMore Go.Proofs.YtnejnnfjbhpigaaDoor.Mem
attribute [local go_sem] max2_int min2_int max_two min_two max_three min_three max_four min_four   -- for this text's walks alone
set_option linter.unusedVariables false
set_option linter.unusedSimpArgs false

theorem Both.more {n b z s7 k sb br sr : Nat} {A1 : Option Addr} {m : List Nat} {w wr : World} {X : List Int} {cs : Nat → Nat} (h : Both n b z s7 A1 m w wr k sb br sr X cs) : Both n b z s7 A1 m w wr (k + 1) sb br sr X cs :=
  ⟨h.one, h.two, h.apart, h.far, fun i => Nat.le_succ_of_le (h.few i), h.inn, h.list, h.below, h.low⟩
theorem Both.ref {n b z s7 k sb br sr : Nat} {A1 : Option Addr} {m : List Nat} {w wr w1 w2 : World} {X : List Int} {cs : Nat → Nat} (h : Both n b z s7 A1 m w wr k sb br sr X cs) (hc : Chg (fun k => k = b ∨ k = sb) wr w1) (hB : Below w1.heap.size w1 w2) : IsRef w2 br sr n X cs := by
  have hbb : b ≠ br := fun e => absurd h.one.blk (by rw [e, h.two.blk]; intro h; injection h with h; injection h with _ h; exact absurd h (by decide))
  have hbs : b ≠ sr := fun e => absurd h.one.blk (by rw [e, h.two.row]; intro h; injection h with h; injection h with _ h; exact absurd h (by decide))
  have hsb : sb ≠ br := fun e => absurd h.one.row (by rw [e, h.two.blk]; intro h; injection h with h; injection h with _ h; exact absurd h (by decide))
  exact (h.two.chg hc (by omega) (by have := h.apart; omega)).below hB
theorem rem60 {a : Int} (h0 : 0 ≤ a) (h1 : a ≤ 4096) : ∃ N : Nat, N ≤ 60 ∧ ((60 < a ∧ a ≤ 4096) → a.tmod 60 = (N : Int)) ∧ (¬ (60 < a ∧ a ≤ 4096) → a = (N : Int)) := by
  by_cases h : 60 < a ∧ a ≤ 4096
  · refine ⟨(a.tmod 60).toNat, ?_, fun _ => ?_, fun e => absurd h e⟩ <;> (rw [Int.tmod_eq_emod_of_nonneg h0]; omega)
  · exact ⟨a.toNat, by omega, fun e => absurd e h, fun _ => by omega⟩
end Go.Proofs.YtnejnnfjbhpigaaDoor.Vit
