/- Contracts of the document's coder (shuttleref06): each theorem says its own conditions. -/
import Derived.Test.YtnejnnfjbhpigaaDoorVj
import Derived.RegionTactic
import Derived.ChangeAlike
namespace Go.Proofs.YtnejnnfjbhpigaaDoor.Vit
open Go.RowKit Go.Proofs.YtnejnnfjbhpigaaDoorW.PrintWords Go.Proofs.YtnejnnfjbhpigaaDoorW.PrintLast Go.Proofs.YtnejnnfjbhpigaaDoorW.PrintMore Go.Proofs.YtnejnnfjbhpigaaDoor.Mem
attribute [local go_sem] max2_int min2_int max_two min_two max_three min_three max_four min_four   -- for this text's walks alone
set_option linter.unusedVariables false
set_option linter.unusedSimpArgs false

/-- The taps, from the newest bit on. -/
def tapL : List Nat := [1, 0, 0, 1, 1, 1, 1, 1, 0, 1, 0, 1, 1, 1, 1, 1, 0, 1, 1, 0, 1, 1, 1, 1, 1, 0, 0, 1]
def tapT (j k : Nat) : Nat := tapL.getD (7 * j + k) 0
def tapV : Array Value := (tapL.map fun n : Nat => Value.int .u8 n).toArray
def tapR (j : Nat) : Array Value := ((List.range 7).map fun k => Value.int .u8 (tapT j k : Nat)).toArray
theorem info110 : (Tryd.prog.info? 137).map (·.size) = some 28 := by kernel_rfl
theorem tapV_one : tapV.all (·.oneCell') = true := by kernel_rfl
/-- A whole row, written over a block. -/
theorem whole_row {w : World} {b t : Nat} {C G : Array Value} (h : w.heap[b]? = some (.cells C t (0, 0))) (hs : G.size = C.size) : (w.setCells b 0 G.toList).heap[b]? = some (.cells G t (0, 0)) := by
  obtain ⟨A', h1, h2, h3⟩ := setCells_row G.toList 0 w _ h (by rw [Array.length_toList, hs]; omega)
  have hAA : A' = G := by
    apply Array.toList_inj.1
    rw [h3]
    simp only [List.take_zero, List.nil_append, Nat.zero_add]
    rw [List.drop_of_length_le (by rw [Array.length_toList, Array.length_toList, hs]; exact Nat.le_refl _), List.append_nil]
  rw [hAA] at h1
  exact h1
theorem taps_any (w : World) : Calls Tryd.prog 91 #[] w fun e w' => e = .returned (.agg tapV) ∧ Below w.heap.size w w' := by
  go_enter Tryd.func91, Tryd.ntmps91
  go_upto_region 1 with fail
  obtain ⟨Z, hZ⟩ : ∃ Z : Array Value, #[.int .u8 0, .int .u8 0, .int .u8 0, .int .u8 0, .int .u8 0, .int .u8 0, .int .u8 0, .int .u8 0, .int .u8 0, .int .u8 0, .int .u8 0, .int .u8 0, .int .u8 0, .int .u8 0, .int .u8 0, .int .u8 0, .int .u8 0, .int .u8 0, .int .u8 0, .int .u8 0, .int .u8 0, .int .u8 0, .int .u8 0, .int .u8 0, .int .u8 0, .int .u8 0, .int .u8 0, .int .u8 0] = Z := ⟨_, rfl⟩
  have hZs : tapV.size = Z.size := by rw [← hZ]; rfl
  rw [hZ]
  have HZ := Aside0.mk hZs
  clear hZ hZs
  refine wp_region_lit ?_
  refine wpList_plain rfl (fun _ hK => ?_)
  go_simp
  refine hK _ _ ?_
  clear hK
  refine wpList_plain rfl (fun _ hK => ?_)
  go_simp
  refine hK _ _ ?_
  clear hK
  refine wpList_plain rfl (fun _ hK => ?_)
  go_simp
  refine hK _ _ ?_
  clear hK
  refine wpList_plain rfl (fun _ hK => ?_)
  go_simp
  refine hK _ _ ?_
  clear hK
  refine wpList_plain rfl (fun _ hK => ?_)
  go_simp
  refine hK _ _ ?_
  clear hK
  refine wpList_store_mid rfl 137 _ _ rfl w.heap.size 0 tapV rfl rfl (there_of_row (heap_alloc_new w _) (by rw [HZ.out]; omega)) info110 tapV_one ?_
  refine wpList_nil ?_
  obtain ⟨W, hW⟩ : ∃ W, (World.setCells (w.alloc (.cells Z 137)) w.heap.size 0 tapV.toList) = W := ⟨_, rfl⟩
  change Exit.then _ _ .normal _ (World.setCells (w.alloc (.cells Z 137)) w.heap.size 0 tapV.toList)
  have h1 := whole_row (heap_alloc_new w (.cells Z 137)) HZ.out
  have hB : Below w.heap.size w W := by rw [← hW]; exact below_setCells (Nat.le_refl _) _ _ _ (below_alloc (Below.refl _ _) _)
  rw [hW] at h1 ⊢
  have HW := Aside0.mk (And.intro h1 hB)
  clear hW h1 hB
  go_wp2_with fail
  have hld : (loadVar 137 ⟨w.heap.size, 0, none⟩).run Tryd.prog W = .ok (.agg tapV) W :=
    run_loadVar_row W w.heap.size 137 137 tapV (0, 0) _ HW.out.1 Tryd.underlying137 rfl info110
  refine bodyPost_ret (v := .agg tapV) (by simp [results, Tryd.results91, asAddr, hld, Act.put]) rfl ⟨rfl, HW.out.2⟩
/-- A bit of a list, so many ahead of a step. -/
def bitAt (m : List Nat) (i k : Nat) : Nat := if k ≤ i then m.getD (i - k) 0 else 0
def bitv (m : List Nat) (i j : Nat) : Nat → Nat
  | 0 => 0
  | k + 1 => (bitv m i j k + tapT j k * bitAt m i k) % 2
theorem bitv_le (m : List Nat) (i j : Nat) : ∀ k, bitv m i j k ≤ 1
  | 0 => by simp [bitv]
  | k + 1 => by unfold bitv; omega
theorem tapT_le (j k : Nat) : tapT j k ≤ 1 := by
  unfold tapT
  by_cases h : 7 * j + k < 28
  · have : (List.range 28).all (fun i => decide (tapL.getD i 0 ≤ 1)) = true := by decide
    exact of_decide_eq_true (List.all_eq_true.1 this _ (List.mem_range.2 h))
  · rw [List.getD_eq_getElem?_getD, List.getElem?_eq_none (by simp [tapL]; omega)]
    exact Nat.zero_le _
theorem xor_tab : (List.range 2).all (fun n => (List.range 2).all fun t => (List.range 2).all fun b => Go.bits .xor .u8 (n : Int) (Go.bits .and .u8 (t : Int) (b : Int)) == (((n + t * b) % 2 : Nat) : Int)) = true := by kernel_rfl
theorem xor_is {n t b : Nat} (hn : n ≤ 1) (ht : t ≤ 1) (hb : b ≤ 1) : Go.bits .xor .u8 (n : Int) (Go.bits .and .u8 (t : Int) (b : Int)) = (((n + t * b) % 2 : Nat) : Int) := by
  have h1 := List.all_eq_true.1 xor_tab n (List.mem_range.2 (by omega))
  have h2 := List.all_eq_true.1 h1 t (List.mem_range.2 (by omega))
  have h3 := List.all_eq_true.1 h2 b (List.mem_range.2 (by omega))
  exact eq_of_beq h3
/-- Bits as bytes. -/
def ints (m : List Nat) : List Int := m.map fun n : Nat => (n : Int)
theorem ints_len (m : List Nat) : (ints m).length = m.length := by simp [ints]

set_option maxHeartbeats 3200000 in
theorem Bit_any (m : List Nat) (hm : Bits m) (A : Option Addr) (c i j : Nat) (w : World) (hC : (Kd.int .u8).C w A m.length (ints m)) (hc : m.length ≤ c) (hl : m.length ≤ 140737488355328) (hi : i ≤ 140737488355338) (hj : j < 4) :
    Calls Tryd.prog 62 #[.slice A m.length c, .int .i64 (i : Int), .int .i64 (j : Int)] w fun e w' => e = .returned (.int .u8 (bitv m i j 7 : Nat)) ∧ Below w.heap.size w w' := by
  have HC := Aside0.mk hC
  clear hC
  go_enter Tryd.func62, Tryd.ntmps62
  go_upto_region 1 with fail
  refine wp_region_lit ?_
  refine wpList_step (fun K hK => ?_)
  go_simp
  go_at_call 91
  refine (taps_any _).mono ?_
  rintro e w1 ⟨rfl, hB1⟩
  have HB1 := Aside0.mk hB1
  clear hB1
  refine hK _ _ ?_
  clear hK K
  refine wpList_plain rfl (fun _ hK => ?_)
  go_simp
  refine hK _ _ ?_
  clear hK
  obtain ⟨Z, hZ⟩ : ∃ Z : Array Value, #[.int .u8 0, .int .u8 0, .int .u8 0, .int .u8 0, .int .u8 0, .int .u8 0, .int .u8 0, .int .u8 0, .int .u8 0, .int .u8 0, .int .u8 0, .int .u8 0, .int .u8 0, .int .u8 0, .int .u8 0, .int .u8 0, .int .u8 0, .int .u8 0, .int .u8 0, .int .u8 0, .int .u8 0, .int .u8 0, .int .u8 0, .int .u8 0, .int .u8 0, .int .u8 0, .int .u8 0, .int .u8 0] = Z := ⟨_, rfl⟩
  have hZs : tapV.size = Z.size := by rw [← hZ]; rfl
  rw [hZ]
  have HZ := Aside0.mk hZs
  clear hZ hZs
  refine wpList_store_mid rfl 137 _ _ rfl w1.heap.size 0 tapV rfl rfl (there_of_row (heap_alloc_new w1 _) (by rw [HZ.out]; omega)) info110 tapV_one ?_
  refine wpList_nil ?_
  obtain ⟨W, hW⟩ : ∃ W, (World.setCells (w1.alloc (.cells Z 137)) w1.heap.size 0 tapV.toList) = W := ⟨_, rfl⟩
  change Exit.then _ _ .normal _ (World.setCells (w1.alloc (.cells Z 137)) w1.heap.size 0 tapV.toList)
  have h1 := whole_row (heap_alloc_new w1 (.cells Z 137)) HZ.out
  have hB : Below w.heap.size w W := by rw [← hW]; exact below_setCells HB1.out.size _ _ _ (below_alloc HB1.out _)
  rw [hW] at h1 ⊢
  have HW := Aside0.mk (And.intro h1 hB)
  clear hW h1 hB
  go_wp2_with fail
  go_loopw [8, 9] (fun v kk wr => ∃ k : Nat, v = .int .u8 (bitv m i j k : Nat) ∧ kk = .int .i64 k ∧ k ≤ 7 ∧ Below W.heap.size W wr) (fun _ kk _ => 7 - (intOf kk).toNat)
  case atStart => exact ⟨0, rfl, rfl, by omega, Below.refl _ _⟩
  case round =>
    obtain ⟨k, rfl, rfl, hk, hB⟩ := hrel
    have HBR := Aside0.mk hB
    have hT : wr.cell? ⟨w1.heap.size, j * 7 + k, none⟩ = (tapV)[j * 7 + k]? := blk_cell (below_cell_blk hB HW.out.1) _
    have hble := bitv_le m i j k
    have htle := tapT_le j k
    obtain ⟨x, hx⟩ : ∃ x, bitv m i j k = x := ⟨_, rfl⟩
    obtain ⟨y, hy⟩ : ∃ y, tapT j k = y := ⟨_, rfl⟩
    have hnext : bitv m i j (k + 1) = (x + y * bitAt m i k) % 2 := by rw [← hx, ← hy]; rfl
    have HN := Aside0.mk hnext
    rw [hx] at hble ⊢
    by_cases hk7 : k < 7
    · have c1 : (k : Int) < 7 := by omega
      have hty : wr.cell? ⟨w1.heap.size, j * 7 + k, none⟩ = some (.int .u8 (y : Int)) := by
        rw [hT, ← hy]
        unfold tapV tapT
        rw [List.getElem?_toArray, List.getElem?_map, show j * 7 + k = 7 * j + k by omega, List.getD_eq_getElem?_getD]
        have hlt : 7 * j + k < tapL.length := by show _ < 28; omega
        rw [List.getElem?_eq_getElem hlt]
        rfl
      rw [hy] at htle
      have hsub : wrap64 ((i : Int) - (k : Int)) = (i : Int) - (k : Int) := by unfold wrap64; omega
      have hsub2 : IntKind.i64.wrap ((i : Int) - (k : Int)) = (i : Int) - (k : Int) := IntWalk.i64_in _ (by omega)
      have cj : (j : Int) < 4 := by omega
      clear hB hT hx hy hnext hk
      by_cases hle : k ≤ i
      · have c2 : 0 ≤ (i : Int) - (k : Int) := by omega
        by_cases hlt : i - k < m.length
        · have c3 : (i : Int) - (k : Int) < (m.length : Int) := by omega
          obtain ⟨ad, hA, hcell⟩ := Kd.at_int HC.out _ c2 c3
          cases hA
          have hb1 : bitAt m i k ≤ 1 := by
            unfold bitAt
            rw [if_pos hle, List.getD_eq_getElem?_getD, List.getElem?_eq_getElem hlt]
            exact hm _ (List.getElem_mem hlt)
          have hrd : rd (ints m) ((i : Int) - (k : Int)) = (bitAt m i k : Int) := by
            unfold rd bitAt ints
            rw [if_pos hle, show ((i : Int) - (k : Int)).toNat = i - k by omega, List.getD_eq_getElem?_getD, List.getD_eq_getElem?_getD, List.getElem?_map, List.getElem?_eq_getElem hlt]
            rfl
          obtain ⟨b, hb⟩ : ∃ b, bitAt m i k = b := ⟨_, rfl⟩
          rw [hrd, hb] at hcell
          have hcell := below_cell HBR.out (below_cell HW.out.2 hcell)
          have hxor := xor_is hble htle (hb ▸ hb1)
          have hcell2 := hcell
          rw [show ((i : Int) - (k : Int)).toNat = i - k by omega] at hcell2
          have HX := Aside0.mk (And.intro hb hxor)
          clear hb hxor hb1 hrd
          go_wp2_with fail
          go_quiet (fail)
          go_wp2_with fail
          refine ⟨⟨k + 1, ?_, by go_num, by omega, ?_⟩, by simp only [intOf]; omega⟩
          · rw [HN.out, HX.out.1, ← HX.out.2]
          · exact pw_below_drewN HBR.out _
        · have c3 : ¬ (i : Int) - (k : Int) < (m.length : Int) := by omega
          go_wp2_with fail
          refine ⟨⟨k + 1, ?_, by go_num, by omega, HBR.out⟩, by simp only [intOf]; omega⟩
          rw [HN.out, show bitAt m i k = 0 from by unfold bitAt; rw [if_pos hle, List.getD_eq_getElem?_getD, List.getElem?_eq_none (by omega)]; rfl, Nat.mul_zero, Nat.add_zero, Nat.mod_eq_of_lt (by omega)]
      · have c2 : ¬ 0 ≤ (i : Int) - (k : Int) := by omega
        go_wp2_with fail
        refine ⟨⟨k + 1, ?_, by go_num, by omega, HBR.out⟩, by simp only [intOf]; omega⟩
        rw [HN.out, show bitAt m i k = 0 from by unfold bitAt; rw [if_neg hle], Nat.mul_zero, Nat.add_zero, Nat.mod_eq_of_lt (by omega)]
    · have c1 : ¬ (k : Int) < 7 := by omega
      obtain rfl : k = 7 := by omega
      clear hB hT hy hnext hk
      rw [← hx]
      clear hx
      go_wp2_with fail
      go_ret
      exact ⟨rfl, HW.out.2.trans (HBR.out.mono HW.out.2.size)⟩
end Go.Proofs.YtnejnnfjbhpigaaDoor.Vit

namespace Go.Proofs.YtnejnnfjbhpigaaDoor.Vit
open Go.RowKit Go.Proofs.YtnejnnfjbhpigaaDoorW.PrintWords Go.Proofs.YtnejnnfjbhpigaaDoorW.PrintLast Go.Proofs.YtnejnnfjbhpigaaDoorW.PrintMore Go.Proofs.YtnejnnfjbhpigaaDoor.Mem
attribute [local go_sem] max2_int min2_int max_two min_two max_three min_three max_four min_four   -- for this text's walks alone
set_option linter.unusedVariables false
set_option linter.unusedSimpArgs false

/-- The first bits of a list's code. -/
def cl (m : List Nat) (n : Nat) : List Nat := (List.range n).map fun t => bitv m (t / 4) (t % 4) 7
theorem cl_next (m : List Nat) (n : Nat) : cl m (n + 1) = cl m n ++ [bitv m (n / 4) (n % 4) 7] := by
  unfold cl
  rw [List.range_succ, List.map_append]
  rfl
theorem cl_len (m : List Nat) (n : Nat) : (cl m n).length = n := by simp [cl]
theorem ints_append (a b : List Nat) : ints (a ++ b) = ints a ++ ints b := by simp [ints]

set_option maxHeartbeats 3200000 in
theorem Code_cl (m : List Nat) (hm : Bits m) (A : Option Addr) (c : Nat) (w : World) (hC : (Kd.int .u8).C w A m.length (ints m)) (hc : m.length ≤ c) (hl : m.length ≤ 1099511627776) :
    Calls Tryd.prog 31 #[.slice A m.length c] w fun e w' =>
      ∃ v, e = .returned v ∧ (Kd.int .u8).R 5 w' w.heap.size (fun _ => True) v (ints (cl m (4 * (m.length + 6)))) ∧ Below w.heap.size w w' := by
  have HBit := Aside0.mk (fun i j W (hW : (Kd.int .u8).C W A m.length (ints m)) hi hj => Bit_any m hm A c i j W hW hc (by omega) hi hj)
  have HC := Aside0.mk hC
  clear hC hm
  go_enter Tryd.func31, Tryd.ntmps31
  go_wp2_with fail
  go_loopw [3, 4] (fun o s wr => ∃ i : Nat, s = .int .i64 i ∧ i ≤ m.length + 6 ∧ (Kd.int .u8).R 5 wr w.heap.size (fun _ => True) o (ints (cl m (4 * i))) ∧ Below w.heap.size w wr) (fun _ s _ => m.length + 6 - (intOf s).toNat)
  case atStart => exact ⟨0, rfl, by omega, Kd.R_nil _ _ _ _ _, Below.refl _ _⟩
  case round =>
    obtain ⟨i, rfl, hi, hR, hB⟩ := hrel
    have HR := Aside0.mk (And.intro hR hB)
    have hw1 : wrap64 ((m.length : Int) + 6) = (m.length : Int) + 6 := by unfold wrap64; omega
    clear hR hB
    by_cases hlt : i < m.length + 6
    · have hlt' : (i : Int) < (m.length : Int) + 6 := by omega
      go_upto_block 1 with fail
      go_cut [3, 5] (fun o _ wx => (Kd.int .u8).R 5 wx w.heap.size (fun _ => True) o (ints (cl m (4 * (i + 1)))) ∧ Below w.heap.size w wx)
      case first =>
        go_wp2_with fail
        go_loopw [3, 5] (fun o s w2 => ∃ j : Nat, s = .int .i64 j ∧ j ≤ 4 ∧ (Kd.int .u8).R 5 w2 w.heap.size (fun _ => True) o (ints (cl m (4 * i + j))) ∧ Below w.heap.size w w2) (fun _ s _ => 4 - (intOf s).toNat)
        case atStart => exact ⟨0, rfl, by omega, HR.out.1, HR.out.2⟩
        case round =>
          obtain ⟨j, rfl, hj, hR2, hB2⟩ := hrel
          have HR2 := Aside0.mk (And.intro hR2 hB2)
          clear hR2 hB2
          by_cases hj4 : j < 4
          · have hlj : (j : Int) < 4 := by omega
            obtain ⟨P, hP⟩ : ∃ P, bitv m i j 7 = P := ⟨_, rfl⟩
            have hbit := fun W hW => HBit.out i j W hW (by omega) hj4
            rw [hP] at hbit
            have HP := Aside0.mk (And.intro hP hbit)
            clear hP hbit
            go_wp2_with (first | (go_at_call 62; refine (HP.out.2 _ (Kd.C_below HC.out (by exact HR2.out.2))).mono ?_; rintro e w5 ⟨rfl, hB5⟩; have HB5 := Aside0.mk hB5; clear hB5) | ((with_reducible refine gate_builtin (b := .append) (xs := #[.tmp 17, .tmp 22]) rfl ?_); at_builtin; refine Kd.R_append (Kd.int .u8) (w0 := w) w.heap.size rfl (.tmp 17) (.tmp 22) 22 5 (.int .u8 0) 1 rfl Tryd.underlying22 info5 rfl (by decide) (by omega) u3 (ints (cl m (4 * i + j))) (P : Int) [.int .u8 P] (fun _ => True) (fun _ => False) rfl rfl ?aP (fun _ hk => hk.elim) ?aF ?aO ?aB ?aS ?aL ?_; (case aP => exact rfl); (case aB => exact HR2.out.2.trans (HB5.out.mono (below_size HR2.out.2))); (case aF => exact (fun _ _ => trivial)); (case aO => exact Kd.R_below HR2.out.1 HB5.out); (case aS => exact Nat.le_trans (below_size HR2.out.2) HB5.out.size); (case aL => rw [ints_len, cl_len]; omega); intro v1 w7 ho hb hg hat; have HN := Aside0.mk (And.intro ho hb); clear ho hb hg hat))
            refine ⟨⟨j + 1, by go_num, by omega, ?_, HN.out.2⟩, by simp only [intOf]; omega⟩
            have e : ints (cl m (4 * i + (j + 1))) = ints (cl m (4 * i + j)) ++ [(P : Int)] := by
              rw [← Nat.add_assoc, cl_next, ints_append, show (4 * i + j) / 4 = i by omega, show (4 * i + j) % 4 = j by omega, HP.out.1]
              rfl
            rw [e]
            exact HN.out.1
          · have hlj : ¬ (j : Int) < 4 := by omega
            obtain rfl : j = 4 := by omega
            go_wp2_with fail
            go_meet
            exact ⟨HR2.out.1, HR2.out.2⟩
      case rest =>
        obtain ⟨hR3, hB3⟩ := hcut
        have HR3 := Aside0.mk (And.intro hR3 hB3)
        clear hR3 hB3
        go_wp2_with fail
        exact ⟨⟨i + 1, by go_num, by omega, HR3.out.1, HR3.out.2⟩, by simp only [intOf]; omega⟩
    · have hlt' : ¬ (i : Int) < (m.length : Int) + 6 := by omega
      obtain rfl : i = m.length + 6 := by omega
      go_wp2_with fail
      go_ret
      exact ⟨_, rfl, HR.out.1, HR.out.2⟩

/-- Seven bits, by the taps. -/
def foldb (j : Nat) (g : Nat → Nat) : Nat → Nat
  | 0 => 0
  | k + 1 => (foldb j g k + tapT j k * g k) % 2
theorem bitv_fold (m : List Nat) (i j : Nat) : ∀ k, bitv m i j k = foldb j (bitAt m i) k
  | 0 => rfl
  | k + 1 => by unfold bitv foldb; rw [bitv_fold m i j k]
theorem foldb_congr (j : Nat) {g h : Nat → Nat} : ∀ n, (∀ k, k < n → g k = h k) → foldb j g n = foldb j h n
  | 0, _ => rfl
  | n + 1, e => by unfold foldb; rw [foldb_congr j n (fun k hk => e k (by omega)), e n (by omega)]
theorem fold_tab : (List.range 128).all (fun x => (List.range 4).all fun j => foldb j (fun k => x / 2 ^ (6 - k) % 2) 7 == ob x j) = true := by kernel_rfl
theorem fold_ob (x j : Nat) (hx : x < 128) (hj : j < 4) : foldb j (fun k => x / 2 ^ (6 - k) % 2) 7 = ob x j :=
  eq_of_beq (List.all_eq_true.1 (List.all_eq_true.1 fold_tab x (List.mem_range.2 hx)) j (List.mem_range.2 hj))
theorem bitAt_le {m : List Nat} (hm : Bits m) (i k : Nat) : bitAt m i k ≤ 1 := by
  unfold bitAt
  split
  · rw [List.getD_eq_getElem?_getD]
    by_cases h : i - k < m.length
    · rw [List.getElem?_eq_getElem h]
      exact hm _ (List.getElem_mem h)
    · rw [List.getElem?_eq_none (by omega)]
      exact Nat.zero_le _
  · exact Nat.zero_le _
theorem bitAt_next (m : List Nat) (i k : Nat) : bitAt m (i + 1) (k + 1) = bitAt m i k := by
  unfold bitAt
  by_cases h : k ≤ i
  · rw [if_pos h, if_pos (by omega), show i + 1 - (k + 1) = i - k by omega]
  · rw [if_neg h, if_neg (by omega)]
/-- The state ahead of a step. -/
def stt (m : List Nat) (i : Nat) : Nat := 32 * bitAt m i 1 + 16 * bitAt m i 2 + 8 * bitAt m i 3 + 4 * bitAt m i 4 + 2 * bitAt m i 5 + bitAt m i 6
theorem stt_zero (m : List Nat) : stt m 0 = 0 := by simp [stt, bitAt]
theorem stt_next {m : List Nat} (hm : Bits m) (i : Nat) : stt m (i + 1) = (stt m i + 64 * bitAt m i 0) / 2 := by
  unfold stt
  rw [bitAt_next m i 0, bitAt_next m i 1, bitAt_next m i 2, bitAt_next m i 3, bitAt_next m i 4, bitAt_next m i 5]
  have := bitAt_le hm i 6
  omega
theorem bitv_ob {m : List Nat} (hm : Bits m) (i j : Nat) (hj : j < 4) : bitv m i j 7 = ob (stt m i + 64 * bitAt m i 0) j := by
  have h0 := bitAt_le hm i 0
  have h1 := bitAt_le hm i 1
  have h2 := bitAt_le hm i 2
  have h3 := bitAt_le hm i 3
  have h4 := bitAt_le hm i 4
  have h5 := bitAt_le hm i 5
  have h6 := bitAt_le hm i 6
  rw [← fold_ob _ j (by unfold stt; omega) hj, bitv_fold]
  refine foldb_congr j 7 (fun k hk => ?_)
  unfold stt
  match k, hk with
  | 0, _ => show _ = _ / 64 % 2; omega
  | 1, _ => show _ = _ / 32 % 2; omega
  | 2, _ => show _ = _ / 16 % 2; omega
  | 3, _ => show _ = _ / 8 % 2; omega
  | 4, _ => show _ = _ / 4 % 2; omega
  | 5, _ => show _ = _ / 2 % 2; omega
  | 6, _ => show _ = _ / 1 % 2; omega
theorem getD_tail (m : List Nat) (r i : Nat) : (m ++ zs r).getD i 0 = m.getD i 0 := by
  rw [List.getD_eq_getElem?_getD, List.getD_eq_getElem?_getD, List.getElem?_append]
  split
  · rfl
  · rename_i h
    rw [List.getElem?_eq_none (l := m) (by omega)]
    unfold zs
    rw [List.getElem?_replicate]
    split <;> rfl
theorem cl_pcode {m : List Nat} (hm : Bits m) : ∀ i, i ≤ m.length + 6 → cl m (4 * i) ++ pcode (stt m i) ((m ++ zs 6).drop i) = pcode 0 (m ++ zs 6)
  | 0, _ => by rw [stt_zero]; rfl
  | i + 1, hi => by
    rw [← cl_pcode hm i (by omega), show 4 * (i + 1) = 4 * i + 1 + 1 + 1 + 1 by omega, cl_next, cl_next, cl_next, cl_next]
    have hlt : i < (m ++ zs 6).length := by rw [List.length_append, zs_len]; omega
    have hb : (m ++ zs 6)[i] = bitAt m i 0 := by
      unfold bitAt
      rw [if_pos (Nat.zero_le _), Nat.sub_zero, ← getD_tail m 6 i, List.getD_eq_getElem?_getD, List.getElem?_eq_getElem hlt]
      rfl
    rw [List.drop_eq_getElem_cons hlt, hb]
    simp only [pcode, List.append_assoc, List.cons_append, List.nil_append]
    rw [← stt_next hm, show 4 * i / 4 = i by omega, show 4 * i % 4 = 0 by omega, show (4 * i + 1) / 4 = i by omega, show (4 * i + 1) % 4 = 1 by omega, show (4 * i + 1 + 1) / 4 = i by omega, show (4 * i + 1 + 1) % 4 = 2 by omega, show (4 * i + 1 + 1 + 1) / 4 = i by omega, show (4 * i + 1 + 1 + 1) % 4 = 3 by omega,
      bitv_ob hm i 0 (by omega), bitv_ob hm i 1 (by omega), bitv_ob hm i 2 (by omega), bitv_ob hm i 3 (by omega)]
/-- The code of a list. -/
def code (m : List Nat) : List Nat := pcode 0 (m ++ zs 6)
theorem code_len (m : List Nat) : (code m).length = 4 * (m.length + 6) := by unfold code; rw [pcode_len, List.length_append, zs_len]
theorem code_bits (m : List Nat) : Bits (code m) := pcode_bits _ _
theorem Code_any (m : List Nat) (hm : Bits m) (A : Option Addr) (c : Nat) (w : World) (hC : (Kd.int .u8).C w A m.length (ints m)) (hc : m.length ≤ c) (hl : m.length ≤ 1099511627776) :
    Calls Tryd.prog 31 #[.slice A m.length c] w fun e w' =>
      ∃ v, e = .returned v ∧ (Kd.int .u8).R 5 w' w.heap.size (fun _ => True) v (ints (code m)) ∧ Below w.heap.size w w' := by
  have h := cl_pcode hm (m.length + 6) (Nat.le_refl _)
  rw [List.drop_eq_nil_of_le (by rw [List.length_append, zs_len]; exact Nat.le_refl _)] at h
  have e : cl m (4 * (m.length + 6)) = code m := by
    rw [← List.append_nil (cl m _)]
    exact h
  have k := Code_cl m hm A c w hC hc hl
  rw [e] at k
  exact k
end Go.Proofs.YtnejnnfjbhpigaaDoor.Vit

namespace Go.Proofs.YtnejnnfjbhpigaaDoor.Vit
open Go.RowKit Go.Proofs.YtnejnnfjbhpigaaDoorW.PrintWords Go.Proofs.YtnejnnfjbhpigaaDoorW.PrintLast Go.Proofs.YtnejnnfjbhpigaaDoorW.PrintMore Go.Proofs.YtnejnnfjbhpigaaDoor.Mem
attribute [local go_sem] max2_int min2_int max_two min_two max_three min_three max_four min_four   -- for this text's walks alone
set_option linter.unusedVariables false
set_option linter.unusedSimpArgs false

theorem clip_sg (o : Nat) : clip (sg o) = sg o := by
  unfold sg clip
  split <;> rfl
theorem clip_ok {x : Int} (h : -31 ≤ x ∧ x ≤ 31) : clip x = x := by unfold clip; omega
/-- What the decoder tells of numbers within the bounds. -/
theorem decOf_is {xs : List Int} {n : Nat} (hl : xs.length = 4 * (n + 6)) (hn : n ≤ 4096) (hb : ∀ x ∈ xs, -31 ≤ x ∧ x ≤ 31) :
    decOf xs = (ints (bw (fun j => xs.getD j 0) n (n + 6) n 0 0), cv (fun j => xs.getD j 0) n (n + 6) 0 0, 0) := by
  unfold decOf
  rw [if_neg (by omega), if_neg (fun ⟨x, hx, hne⟩ => hne (clip_ok (hb x hx)).symm), hl, show 4 * (n + 6) / 4 = n + 6 by omega, show n + 6 - 6 = n by omega, way_is]
  rfl
/-- What the decoder tells of a code of which fewer than six bits are turned. -/
theorem decOf_mends {l t : List Nat} (hn : l.length ≤ 4096) (hb : Bits l) (ht : Bits t) (htl : t.length = 4 * (l.length + 6)) (hd : apart t (code l) < 6) :
    decOf (t.map sg) = (ints l, (4 * (l.length + 6) : Nat) - 2 * (apart t (code l) : Int), 0) := by
  rw [decOf_is (n := l.length) (by rw [List.length_map, htl]) hn (fun x hx => by
    obtain ⟨c, _, rfl⟩ := List.mem_map.1 hx
    unfold sg
    split <;> decide)]
  obtain ⟨h1, h2⟩ := best_mends (f := fun j => (t.map sg).getD j 0) hn l t rfl hb ht htl hd (fun _ => rfl)
  rw [h1, h2]
  rfl
theorem Of8_any (o : Nat) (w : World) : Calls Tryd.prog 67 #[.int .u8 (o : Int)] w fun e w' => e = .returned (.int .i64 (sg o)) ∧ w = w' := by
  by_cases h : o = 0
  · subst h
    go_enter Tryd.func67, Tryd.ntmps67
    go_wp2_with fail
    go_ret
    exact ⟨rfl, rfl⟩
  · have hz : (((o : Int)) == 0) = false := by simpa using h
    have hs : sg o = -1 := if_neg h
    rw [hs]
    go_enter Tryd.func67, Tryd.ntmps67
    go_wp2_with fail
    go_ret
    exact ⟨rfl, rfl⟩
/-- A block's numbers, read as a row. -/
theorem C_block {k : IntKind} {W : World} {b t : Nat} (xs : List Int) (hl : xs.length ≤ 9223372036854775807) (h : W.heap[b]? = some (.cells (xs.map (Value.int k)).toArray t (0, 0))) : (Kd.int k).C W (some ⟨b, 0, none⟩) xs.length xs := by
  refine ⟨rfl, hl, fun _ => ⟨_, rfl, fun j p hj => ⟨[.int k p], rfl, rfl, fun i u hu => ?_⟩⟩⟩
  match i, hu with
  | 0, hu =>
    obtain rfl : Value.int k p = u := by simpa using hu
    have e : (⟨b, 0, none⟩ : Addr).add (j * (Kd.int k).sz + 0) = ⟨b, j, none⟩ := by
      show (⟨b, 0, none⟩ : Addr).add (j * 1 + 0) = _
      unfold Addr.add
      split <;> simp_all
    rw [e, blk_cell h]
    simp [hj]
  | i + 1, hu => simp at hu
theorem info3 : (Tryd.prog.info? 3).map (fun i => (i.zero, i.size, i.bytes)) = some (some (.int .i64 0), 1, 8) := by kernel_rfl
end Go.Proofs.YtnejnnfjbhpigaaDoor.Vit

namespace Go.Proofs.YtnejnnfjbhpigaaDoor.Vit
open Go.RowKit Go.Proofs.YtnejnnfjbhpigaaDoorW.PrintWords Go.Proofs.YtnejnnfjbhpigaaDoorW.PrintLast Go.Proofs.YtnejnnfjbhpigaaDoorW.PrintMore Go.Proofs.YtnejnnfjbhpigaaDoor.Mem
attribute [local go_sem] max2_int min2_int max_two min_two max_three min_three max_four min_four   -- for this text's walks alone
set_option linter.unusedVariables false
set_option linter.unusedSimpArgs false

theorem make_int (L : Nat) (hL : L ≤ 1099511627776) : ∀ W : World, (Instr.makeSlice 30 (.int .i64 (L : Int)) (.int .i64 (L : Int))).run Tryd.prog W = .ok (.slice (some ⟨W.heap.size, 0, none⟩) L L) (W.alloc (.cells (madeCells #[.int .i64 0] L) 3)) := by
  have h := print_make_int (P := Tryd.prog) 30 3 (.int .i64 0) 8 Tryd.underlying30 info3 rfl (by decide) (L : Int) (by omega) (by omega)
  rwa [Int.toNat_natCast] at h
theorem make_byte (L : Nat) (hL : L ≤ 1099511627776) : ∀ W : World, (Instr.makeSlice 22 (.int .i64 (L : Int)) (.int .i64 (L : Int))).run Tryd.prog W = .ok (.slice (some ⟨W.heap.size, 0, none⟩) L L) (W.alloc (.cells (madeCells #[.int .u8 0] L) 5)) := by
  have h := print_make_int (P := Tryd.prog) 22 5 (.int .u8 0) 1 Tryd.underlying22 info5 rfl (by decide) (L : Int) (by omega) (by omega)
  rwa [Int.toNat_natCast] at h
theorem made_C {k : IntKind} {W : World} {b e L : Nat} (hL : L ≤ 1099511627776) (h : W.heap[b]? = some (.cells (madeCells #[.int k 0] L) e (0, 0))) : (Kd.int k).C W (some ⟨b, 0, none⟩) L (List.replicate L 0) := by
  have e1 : madeCells #[Value.int k 0] L = ((List.replicate L (0 : Int)).map (Value.int k)).toArray := by
    apply Array.toList_inj.1
    simp [madeCells]
    apply List.ext_getElem?
    intro i
    by_cases hi : i < L
    · rw [List.getElem?_map, List.getElem?_range hi, List.getElem?_replicate, if_pos hi]
      simp [Nat.mod_one]
    · rw [List.getElem?_eq_none (by simp; omega), List.getElem?_eq_none (by simp; omega)]
  rw [e1] at h
  have := C_block (List.replicate L 0) (by simp; omega) h
  rwa [List.length_replicate] at this

theorem decOf_zero {n : Nat} (hn : n ≤ 4096) : decOf (List.replicate (4 * (n + 6)) 0) = (ints (zs n), 0, 0) := by
  rw [decOf_is (n := n) (by simp) hn (fun x hx => by have := List.eq_of_mem_replicate hx; omega)]
  obtain ⟨h1, h2⟩ := best_zero (f := fun j => (List.replicate (4 * (n + 6)) (0 : Int)).getD j 0) hn (fun j => by
    show (List.replicate (4 * (n + 6)) (0 : Int)).getD j 0 = 0
    rw [List.getD_eq_getElem?_getD, List.getElem?_replicate]
    split <;> rfl)
  rw [h1, h2]
theorem ints_zs (n : Nat) : ints (zs n) = List.replicate n 0 := by simp [ints, zs]

end Go.Proofs.YtnejnnfjbhpigaaDoor.Vit
