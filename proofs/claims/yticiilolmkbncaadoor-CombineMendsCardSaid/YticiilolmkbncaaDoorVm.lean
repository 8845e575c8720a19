/- Contracts of the document's coder (shuttleref06): each theorem says its own conditions. -/
import Derived.Test.YticiilolmkbncaaDoorVl
namespace Go.Proofs.YticiilolmkbncaaDoor.Vit
open Go.RowKit Go.Proofs.YticiilolmkbncaaDoorW.PrintWords Go.Proofs.YticiilolmkbncaaDoorW.PrintLast Go.Proofs.YticiilolmkbncaaDoorW.PrintMore Go.Proofs.YticiilolmkbncaaDoor.Mem
attribute [local go_sem] max2_int min2_int max_two min_two max_three min_three max_four min_four   -- for this text's walks alone
set_option linter.unusedVariables false
set_option linter.unusedSimpArgs false

/-- The taps, from the newest bit on. -/
def tapL : List Nat := [1, 0, 0, 1, 1, 1, 1, 1, 0, 1, 0, 1, 1, 1, 1, 1, 0, 1, 1, 0, 1, 1, 1, 1, 1, 0, 0, 1]
def tapT (j k : Nat) : Nat := tapL.getD (7 * j + k) 0
def tapV : Array Value := (tapL.map fun n : Nat => Value.int .u8 n).toArray
def tapR (j : Nat) : Array Value := ((List.range 7).map fun k => Value.int .u8 (tapT j k : Nat)).toArray
theorem info110 : (Tryd.prog.info? 110).map (·.size) = some 28 := by kernel_rfl
theorem tapV_one : tapV.all (·.oneCell') = true := by kernel_rfl
/-- A whole row, written over a block. -/
theorem whole_row {w : World} {b t : Nat} {C G : Array Value} (h : w.heap[b]? = some (.cells C t (0, 0))) (hs : G.size = C.size) : (w.setCells b 0 G.toList).heap[b]? = some (.cells G t (0, 0)) := by
  obtain ⟨A', h1, h2, h3⟩ := setCells_row G.toList 0 w _ h (by rw [Array.length_toList, hs]; omega)
  have hAA : A' = G := by
    apply Array.toList_inj.1
    rw [h3]
    simp only [List.take_zero, List.nil_append, Nat.zero_add]
    rw [List.drop_of_length_le (by rw [Array.length_toList, Array.length_toList, hs]; exact Nat.le_refl _), List.append_nil]
  rw [hAA] at h1
  exact h1
theorem taps_any (w : World) : Calls Tryd.prog 65 #[] w fun e w' => e = .returned (.agg tapV) ∧ Below w.heap.size w w' := by
  go_enter Tryd.func65, Tryd.ntmps65
  go_upto_region 1 with fail
  obtain ⟨Z, hZ⟩ : ∃ Z : Array Value, #[.int .u8 0, .int .u8 0, .int .u8 0, .int .u8 0, .int .u8 0, .int .u8 0, .int .u8 0, .int .u8 0, .int .u8 0, .int .u8 0, .int .u8 0, .int .u8 0, .int .u8 0, .int .u8 0, .int .u8 0, .int .u8 0, .int .u8 0, .int .u8 0, .int .u8 0, .int .u8 0, .int .u8 0, .int .u8 0, .int .u8 0, .int .u8 0, .int .u8 0, .int .u8 0, .int .u8 0, .int .u8 0] = Z := ⟨_, rfl⟩
  have hZs : tapV.size = Z.size := by rw [← hZ]; rfl
  rw [hZ]
  have HZ := Aside0.mk hZs
  clear hZ hZs
  refine wp_region_lit ?_
  refine wpList_plain rfl (fun _ hK => ?_)
  go_simp
  refine hK _ _ ?_
  clear hK
  refine wpList_plain rfl (fun _ hK => ?_)
  go_simp
  refine hK _ _ ?_
  clear hK
  refine wpList_plain rfl (fun _ hK => ?_)
  go_simp
  refine hK _ _ ?_
  clear hK
  refine wpList_plain rfl (fun _ hK => ?_)
  go_simp
  refine hK _ _ ?_
  clear hK
  refine wpList_plain rfl (fun _ hK => ?_)
  go_simp
  refine hK _ _ ?_
  clear hK
  refine wpList_store_mid rfl 110 _ _ rfl w.heap.size 0 tapV rfl rfl (there_of_row (heap_alloc_new w _) (by rw [HZ.out]; omega)) info110 tapV_one ?_
  refine wpList_nil ?_
  obtain ⟨W, hW⟩ : ∃ W, (World.setCells (w.alloc (.cells Z 110)) w.heap.size 0 tapV.toList) = W := ⟨_, rfl⟩
  change Exit.then _ _ .normal _ (World.setCells (w.alloc (.cells Z 110)) w.heap.size 0 tapV.toList)
  have h1 := whole_row (heap_alloc_new w (.cells Z 110)) HZ.out
  have hB : Below w.heap.size w W := by rw [← hW]; exact below_setCells (Nat.le_refl _) _ _ _ (below_alloc (Below.refl _ _) _)
  rw [hW] at h1 ⊢
  have HW := Aside0.mk (And.intro h1 hB)
  clear hW h1 hB
  go_wp2_with fail
  have hld : (loadVar 110 ⟨w.heap.size, 0, none⟩).run Tryd.prog W = .ok (.agg tapV) W :=
    run_loadVar_row W w.heap.size 110 110 tapV (0, 0) _ HW.out.1 Tryd.underlying110 rfl info110
  refine bodyPost_ret (v := .agg tapV) (by simp [results, Tryd.results65, asAddr, hld, Act.put]) rfl ⟨rfl, HW.out.2⟩
/-- A bit of a list, so many ahead of a step. -/
def bitAt (m : List Nat) (i k : Nat) : Nat := if k ≤ i then m.getD (i - k) 0 else 0
def bitv (m : List Nat) (i j : Nat) : Nat → Nat
  | 0 => 0
  | k + 1 => (bitv m i j k + tapT j k * bitAt m i k) % 2
theorem bitv_le (m : List Nat) (i j : Nat) : ∀ k, bitv m i j k ≤ 1
  | 0 => by simp [bitv]
  | k + 1 => by unfold bitv; omega
theorem tapT_le (j k : Nat) : tapT j k ≤ 1 := by
  unfold tapT
  by_cases h : 7 * j + k < 28
  · have : (List.range 28).all (fun i => decide (tapL.getD i 0 ≤ 1)) = true := by decide
    exact of_decide_eq_true (List.all_eq_true.1 this _ (List.mem_range.2 h))
  · rw [List.getD_eq_getElem?_getD, List.getElem?_eq_none (by simp [tapL]; omega)]
    exact Nat.zero_le _
theorem xor_tab : (List.range 2).all (fun n => (List.range 2).all fun t => (List.range 2).all fun b => Go.bits .xor .u8 (n : Int) (Go.bits .and .u8 (t : Int) (b : Int)) == (((n + t * b) % 2 : Nat) : Int)) = true := by kernel_rfl
theorem xor_is {n t b : Nat} (hn : n ≤ 1) (ht : t ≤ 1) (hb : b ≤ 1) : Go.bits .xor .u8 (n : Int) (Go.bits .and .u8 (t : Int) (b : Int)) = (((n + t * b) % 2 : Nat) : Int) := by
  have h1 := List.all_eq_true.1 xor_tab n (List.mem_range.2 (by omega))
  have h2 := List.all_eq_true.1 h1 t (List.mem_range.2 (by omega))
  have h3 := List.all_eq_true.1 h2 b (List.mem_range.2 (by omega))
  exact eq_of_beq h3
/-- Bits as bytes. -/
def ints (m : List Nat) : List Int := m.map fun n : Nat => (n : Int)
theorem ints_len (m : List Nat) : (ints m).length = m.length := by simp [ints]

set_option maxHeartbeats 3200000 in
theorem Bit_any (m : List Nat) (hm : Bits m) (A : Option Addr) (c i j : Nat) (w : World) (hC : (Kd.int .u8).C w A m.length (ints m)) (hc : m.length ≤ c) (hl : m.length ≤ 140737488355328) (hi : i ≤ 140737488355338) (hj : j < 4) :
    Calls Tryd.prog 51 #[.slice A m.length c, .int .i64 (i : Int), .int .i64 (j : Int)] w fun e w' => e = .returned (.int .u8 (bitv m i j 7 : Nat)) ∧ Below w.heap.size w w' := by
  have HC := Aside0.mk hC
  clear hC
  go_enter Tryd.func51, Tryd.ntmps51
  go_upto_region 1 with fail
  refine wp_region_lit ?_
  refine wpList_step (fun K hK => ?_)
  go_simp
  go_at_call 65
  refine (taps_any _).mono ?_
  rintro e w1 ⟨rfl, hB1⟩
  have HB1 := Aside0.mk hB1
  clear hB1
  refine hK _ _ ?_
  clear hK K
  refine wpList_plain rfl (fun _ hK => ?_)
  go_simp
  refine hK _ _ ?_
  clear hK
  obtain ⟨Z, hZ⟩ : ∃ Z : Array Value, #[.int .u8 0, .int .u8 0, .int .u8 0, .int .u8 0, .int .u8 0, .int .u8 0, .int .u8 0, .int .u8 0, .int .u8 0, .int .u8 0, .int .u8 0, .int .u8 0, .int .u8 0, .int .u8 0, .int .u8 0, .int .u8 0, .int .u8 0, .int .u8 0, .int .u8 0, .int .u8 0, .int .u8 0, .int .u8 0, .int .u8 0, .int .u8 0, .int .u8 0, .int .u8 0, .int .u8 0, .int .u8 0] = Z := ⟨_, rfl⟩
  have hZs : tapV.size = Z.size := by rw [← hZ]; rfl
  rw [hZ]
  have HZ := Aside0.mk hZs
  clear hZ hZs
  refine wpList_store_mid rfl 110 _ _ rfl w1.heap.size 0 tapV rfl rfl (there_of_row (heap_alloc_new w1 _) (by rw [HZ.out]; omega)) info110 tapV_one ?_
  refine wpList_nil ?_
  obtain ⟨W, hW⟩ : ∃ W, (World.setCells (w1.alloc (.cells Z 110)) w1.heap.size 0 tapV.toList) = W := ⟨_, rfl⟩
  change Exit.then _ _ .normal _ (World.setCells (w1.alloc (.cells Z 110)) w1.heap.size 0 tapV.toList)
  have h1 := whole_row (heap_alloc_new w1 (.cells Z 110)) HZ.out
  have hB : Below w.heap.size w W := by rw [← hW]; exact below_setCells HB1.out.size _ _ _ (below_alloc HB1.out _)
  rw [hW] at h1 ⊢
  have HW := Aside0.mk (And.intro h1 hB)
  clear hW h1 hB
  go_wp2_with fail
  go_loopw [8, 9] (fun v kk wr => ∃ k : Nat, v = .int .u8 (bitv m i j k : Nat) ∧ kk = .int .i64 k ∧ k ≤ 7 ∧ Below W.heap.size W wr) (fun _ kk _ => 7 - (intOf kk).toNat)
  case atStart => exact ⟨0, rfl, rfl, by omega, Below.refl _ _⟩
  case round =>
    obtain ⟨k, rfl, rfl, hk, hB⟩ := hrel
    have HBR := Aside0.mk hB
    have hT : wr.cell? ⟨w1.heap.size, j * 7 + k, none⟩ = (tapV)[j * 7 + k]? := blk_cell (below_cell_blk hB HW.out.1) _
    have hble := bitv_le m i j k
    have htle := tapT_le j k
    obtain ⟨x, hx⟩ : ∃ x, bitv m i j k = x := ⟨_, rfl⟩
    obtain ⟨y, hy⟩ : ∃ y, tapT j k = y := ⟨_, rfl⟩
    have hnext : bitv m i j (k + 1) = (x + y * bitAt m i k) % 2 := by rw [← hx, ← hy]; rfl
    have HN := Aside0.mk hnext
    rw [hx] at hble ⊢
    by_cases hk7 : k < 7
    · have c1 : (k : Int) < 7 := by omega
      have hty : wr.cell? ⟨w1.heap.size, j * 7 + k, none⟩ = some (.int .u8 (y : Int)) := by
        rw [hT, ← hy]
        unfold tapV tapT
        rw [List.getElem?_toArray, List.getElem?_map, show j * 7 + k = 7 * j + k by omega, List.getD_eq_getElem?_getD]
        have hlt : 7 * j + k < tapL.length := by show _ < 28; omega
        rw [List.getElem?_eq_getElem hlt]
        rfl
      rw [hy] at htle
      have hsub : wrap64 ((i : Int) - (k : Int)) = (i : Int) - (k : Int) := by unfold wrap64; omega
      have hsub2 : IntKind.i64.wrap ((i : Int) - (k : Int)) = (i : Int) - (k : Int) := IntWalk.i64_in _ (by omega)
      have cj : (j : Int) < 4 := by omega
      clear hB hT hx hy hnext hk
      by_cases hle : k ≤ i
      · have c2 : 0 ≤ (i : Int) - (k : Int) := by omega
        by_cases hlt : i - k < m.length
        · have c3 : (i : Int) - (k : Int) < (m.length : Int) := by omega
          obtain ⟨ad, hA, hcell⟩ := Kd.at_int HC.out _ c2 c3
          cases hA
          have hb1 : bitAt m i k ≤ 1 := by
            unfold bitAt
            rw [if_pos hle, List.getD_eq_getElem?_getD, List.getElem?_eq_getElem hlt]
            exact hm _ (List.getElem_mem hlt)
          have hrd : rd (ints m) ((i : Int) - (k : Int)) = (bitAt m i k : Int) := by
            unfold rd bitAt ints
            rw [if_pos hle, show ((i : Int) - (k : Int)).toNat = i - k by omega, List.getD_eq_getElem?_getD, List.getD_eq_getElem?_getD, List.getElem?_map, List.getElem?_eq_getElem hlt]
            rfl
          obtain ⟨b, hb⟩ : ∃ b, bitAt m i k = b := ⟨_, rfl⟩
          rw [hrd, hb] at hcell
          have hcell := below_cell HBR.out (below_cell HW.out.2 hcell)
          have hxor := xor_is hble htle (hb ▸ hb1)
          have hcell2 := hcell
          rw [show ((i : Int) - (k : Int)).toNat = i - k by omega] at hcell2
          have HX := Aside0.mk (And.intro hb hxor)
          clear hb hxor hb1 hrd
          go_wp2_with fail
          go_quiet (fail)
          go_wp2_with fail
          refine ⟨⟨k + 1, ?_, by go_num, by omega, ?_⟩, by simp only [intOf]; omega⟩
          · rw [HN.out, HX.out.1, ← HX.out.2]
          · exact pw_below_drewN HBR.out _
        · have c3 : ¬ (i : Int) - (k : Int) < (m.length : Int) := by omega
          go_wp2_with fail
          refine ⟨⟨k + 1, ?_, by go_num, by omega, HBR.out⟩, by simp only [intOf]; omega⟩
          rw [HN.out, show bitAt m i k = 0 from by unfold bitAt; rw [if_pos hle, List.getD_eq_getElem?_getD, List.getElem?_eq_none (by omega)]; rfl, Nat.mul_zero, Nat.add_zero, Nat.mod_eq_of_lt (by omega)]
      · have c2 : ¬ 0 ≤ (i : Int) - (k : Int) := by omega
        go_wp2_with fail
        refine ⟨⟨k + 1, ?_, by go_num, by omega, HBR.out⟩, by simp only [intOf]; omega⟩
        rw [HN.out, show bitAt m i k = 0 from by unfold bitAt; rw [if_neg hle], Nat.mul_zero, Nat.add_zero, Nat.mod_eq_of_lt (by omega)]
    · have c1 : ¬ (k : Int) < 7 := by omega
      obtain rfl : k = 7 := by omega
      clear hB hT hy hnext hk
      rw [← hx]
      clear hx
      go_wp2_with fail
      go_ret
      exact ⟨rfl, HW.out.2.trans (HBR.out.mono HW.out.2.size)⟩
end Go.Proofs.YticiilolmkbncaaDoor.Vit
