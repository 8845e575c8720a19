/- Contracts for the law CombineAdds: the document's buffer (New, DocAdd), Right, soft.Add of the document; the combiner's refusals; no buffer at all. Each theorem says its own conditions. -/
import Derived.Test.YticiilolmkbncaaDoorWf
namespace Go.Proofs.YticiilolmkbncaaDoor.Vit
open Go.RowKit Go.Proofs.YticiilolmkbncaaDoorW.PrintWords Go.Proofs.YticiilolmkbncaaDoorW.PrintLast Go.Proofs.YticiilolmkbncaaDoorW.PrintMore Go.Proofs.YticiilolmkbncaaDoor.Mem
attribute [local go_sem] max2_int min2_int max_two min_two max_three min_three max_four min_four   -- for this text's walks alone
set_option linter.unusedVariables false
set_option linter.unusedSimpArgs false

theorem Add8_any (a b : Int) (w : World) : Calls Tryd.prog 60 #[.int .i64 a, .int .i64 b] w fun e w' => e = .returned (.int .i64 (sadd a b)) ∧ w = w' := by
  obtain ⟨x, hx⟩ : ∃ x, clip a = x := ⟨_, rfl⟩
  obtain ⟨y, hy⟩ : ∃ y, clip b = y := ⟨_, rfl⟩
  have h1 := clip_in a
  have h2 := clip_in b
  rw [hx] at h1
  rw [hy] at h2
  have hw : IntKind.i64.wrap (x + y) = x + y := IntWalk.i64_in _ (by omega)
  have c1 := fun W => Clip8_any a W
  have c2 := fun W => Clip8_any b W
  have c3 := fun W => Clip8_any (x + y) W
  rw [hx] at c1
  rw [hy] at c2
  have HC := Aside0.mk (And.intro c1 (And.intro c2 c3))
  have hs : clip (x + y) = sadd a b := by unfold sadd; rw [hx, hy]
  rw [← hs]
  clear c1 c2 c3 hx hy hs
  go_enter Tryd.func60, Tryd.ntmps60
  go_upto_region 1 with fail
  refine wp_region_lit ?_
  refine wpList_plain rfl (fun _ hK => ?_)
  go_simp
  refine hK _ _ ?_
  clear hK
  refine wpList_step (fun K hK => ?_)
  go_simp
  go_at_call 48
  refine (HC.out.1 _).mono ?_
  rintro e w1 ⟨rfl, rfl⟩
  refine hK _ _ ?_
  clear hK K
  refine wpList_plain rfl (fun _ hK => ?_)
  go_simp
  refine hK _ _ ?_
  clear hK
  refine wpList_step (fun K hK => ?_)
  go_simp
  go_at_call 48
  refine (HC.out.2.1 _).mono ?_
  rintro e w1 ⟨rfl, rfl⟩
  refine hK _ _ ?_
  clear hK K
  refine wpList_plain rfl (fun _ hK => ?_)
  go_simp
  refine hK _ _ ?_
  clear hK
  refine wpList_step (fun K hK => ?_)
  go_simp
  go_at_call 48
  refine (HC.out.2.2 _).mono ?_
  rintro e w1 ⟨rfl, rfl⟩
  refine hK _ _ ?_
  clear hK K
  refine wpList_plain rfl (fun _ hK => ?_)
  go_simp
  refine hK _ _ ?_
  clear hK
  refine wpList_nil ?_
  go_wp2_with fail
  go_ret
  exact ⟨rfl, rfl⟩
theorem Right1_any (xs : List Int) (A : Option Addr) (n c : Nat) (w : World) (hC : (Kd.int .u8).C w A n xs) (hn : n ≤ 140737488355328) :
    Calls Tryd.prog 39 #[.slice A n c] w fun e w' => e = .returned (.bool (!decide (∃ x ∈ xs, 1 < x))) ∧ ∃ q, w' = w.drewN q := by
  have hl : xs.length = n := Kd.C_len hC
  have HC := Aside0.mk (And.intro hC hl)
  clear hC hl
  go_enter Tryd.func39, Tryd.ntmps39
  go_wp2_with fail
  go_loopw [3] (fun i wr => ∃ t : Nat, i = .int .i64 t ∧ t ≤ n ∧ (∃ q, wr = w.drewN q) ∧ Aside0 (∀ x, x ∈ xs.take t → x ≤ 1)) (fun i _ => n - (intOf i).toNat)
  case atStart => exact ⟨0, rfl, Nat.zero_le _, ⟨0, rfl⟩, ⟨fun x hx => absurd hx (by simp)⟩⟩
  case round =>
    obtain ⟨t, rfl, ht, ⟨q, hwq⟩, hR⟩ := hrel
    have HWQ := Aside0.mk hwq
    by_cases htn : t < n
    · have hlt : (t : Int) < (n : Int) := by omega
      obtain ⟨ad, hA, hx⟩ := Kd.at_int HC.out.1 (t : Int) (by omega) hlt
      cases hA
      have htl : t < xs.length := by have := HC.out.2; omega
      rw [rd_at htl, Int.toNat_natCast] at hx
      obtain ⟨x, hxx⟩ : ∃ x, xs[t] = x := ⟨_, rfl⟩
      rw [hxx] at hx
      have hx : wr.cell? (ad.add t) = some (.int .u8 x) := by rw [hwq]; exact hx
      have HG := Aside0.mk hxx
      clear hxx hwq
      by_cases hq : 1 < x
      · have HQ := Aside0.mk hq
        go_wp2_with fail
        go_ret
        refine ⟨congrArg (fun b => Ending.returned (Value.bool b)) ?_, q, HWQ.out⟩
        rw [decide_eq_true ⟨x, by rw [← HG.out]; exact List.getElem_mem htl, HQ.out⟩]
        rfl
      · have HQ := Aside0.mk (show x ≤ 1 by omega)
        go_wp2_with fail
        refine ⟨⟨t + 1, by go_num, by omega, ⟨_, HWQ.out⟩, ⟨?_⟩⟩, by simp only [intOf]; omega⟩
        intro y hy
        rw [List.take_add_one, List.getElem?_eq_getElem htl, HG.out] at hy
        rcases List.mem_append.1 hy with h | h
        · exact hR.out y h
        · have : y = x := by simpa using h
          rw [this]
          exact HQ.out
    · have hlt : ¬ (t : Int) < (n : Int) := by omega
      obtain rfl : t = n := by omega
      clear hwq
      go_wp2_with fail
      go_ret
      refine ⟨congrArg (fun b => Ending.returned (Value.bool b)) ?_, q, HWQ.out⟩
      rw [decide_eq_false (fun ⟨x, hx, h⟩ => by have := hR.out x (by rw [List.take_of_length_le (by have := HC.out.2; omega)]; exact hx); omega)]
      rfl
/-- The document's buffer. -/
structure IsRef (w : World) (b sb n : Nat) (xs : List Int) (cs : Nat → Nat) : Prop where
  blk : w.heap[b]? = some (.cells (bufA n sb (4 * (n + 6)) cs) 67 (0, 0))
  row : w.heap[sb]? = some (.cells (numA xs) 3 (0, 0))
  len : xs.length = 4 * (n + 6)
  le : n ≤ 4096
theorem IsRef.ne {w : World} {b sb n : Nat} {xs : List Int} {cs : Nat → Nat} (h : IsRef w b sb n xs cs) : b ≠ sb := blk_ne h.blk h.row (by decide)
theorem IsRef.below {w w' : World} {b sb n : Nat} {xs : List Int} {cs : Nat → Nat} (h : IsRef w b sb n xs cs) (hB : Below w.heap.size w w') : IsRef w' b sb n xs cs := ⟨below_cell_blk hB h.blk, below_cell_blk hB h.row, h.len, h.le⟩
theorem IsRef.chg {w w' : World} {S : Nat → Prop} {b sb n : Nat} {xs : List Int} {cs : Nat → Nat} (h : IsRef w b sb n xs cs) (hB : Chg S w w') (h1 : ¬ S b) (h2 : ¬ S sb) : IsRef w' b sb n xs cs := ⟨hB.keeps h.blk h1, hB.keeps h.row h2, h.len, h.le⟩
theorem IsRef.C {w : World} {b sb n : Nat} {xs : List Int} {cs : Nat → Nat} (h : IsRef w b sb n xs cs) : (Kd.int .i64).C w (some ⟨sb, 0, none⟩) (4 * (n + 6)) xs := by
  have h1 := C_block xs (by have := h.len; have := h.le; omega) h.row
  rw [h.len] at h1
  exact h1
set_option maxRecDepth 100000 in
theorem New13_any (n : Nat) (hn : n ≤ 4096) (w : World) :
    Calls Tryd.prog 38 #[.int .i64 (n : Int)] w fun e w' => e = .returned (.pointer (some ⟨w.heap.size + 1, 0, none⟩)) ∧ IsRef w' (w.heap.size + 1) w.heap.size n (List.replicate (4 * (n + 6)) 0) (fun _ => 0) ∧ Below w.heap.size w w' := by
  obtain ⟨L, hL⟩ : ∃ L, 4 * (n + 6) = L := ⟨_, rfl⟩
  have hmk := make_int L (by omega)
  obtain ⟨Z, hZ⟩ : ∃ Z, madeCells #[Value.int .i64 0] L = Z := ⟨_, rfl⟩
  rw [hZ] at hmk
  have hw0 : wrap64 ((n : Int) + 6) = (n : Int) + 6 := wrap64_in _ (by omega) (by omega)
  have hw2 : 4 * ((n : Int) + 6) = (L : Int) := by omega
  have hb1 : (L : Int) ≤ 9223372036854775807 := by omega
  have hw3 : wrap64 (L : Int) = (L : Int) := wrap64_in _ (by omega) hb1
  have HH := Aside0.mk (And.intro hL (And.intro hZ hn))
  clear hL hZ hn hb1
  go_enter Tryd.func38, Tryd.ntmps38
  go_wp2_with fail
  go_ret
  have g0 : (w.alloc (.cells Z 3)).heap[w.heap.size]? = some (.cells Z 3 (0, 0)) := heap_alloc_new w _
  refine ⟨?_, ⟨?_, ?_, by simp, HH.out.2.2⟩, below_alloc (below_alloc (Below.refl _ _) _) _⟩
  · simp
  · rw [HH.out.1]
    have h := heap_alloc_new (w.alloc (.cells Z 3)) (.cells (bufA n w.heap.size L (fun _ => 0)) 67)
    rw [World.size_alloc] at h
    exact h
  · rw [HH.out.1]
    unfold numA
    rw [← made_arr, HH.out.2.1]
    exact blk_alloc g0 _
end Go.Proofs.YticiilolmkbncaaDoor.Vit
