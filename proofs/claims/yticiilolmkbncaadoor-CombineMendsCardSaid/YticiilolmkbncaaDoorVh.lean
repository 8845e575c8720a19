/- Contracts of the decoder's way (trace): each theorem says its own conditions. -/
import Derived.Test.YticiilolmkbncaaDoorVg
namespace Go.Proofs.YticiilolmkbncaaDoor.Vit
open Go.RowKit Go.Proofs.YticiilolmkbncaaDoorW.PrintWords Go.Proofs.YticiilolmkbncaaDoorW.PrintLast Go.Proofs.YticiilolmkbncaaDoorW.PrintMore Go.Proofs.YticiilolmkbncaaDoor.Mem
attribute [local go_sem] max2_int min2_int max_two min_two max_three min_three max_four min_four   -- for this text's walks alone
set_option linter.unusedVariables false
set_option linter.unusedSimpArgs false

/-- The bit that the best way takes at a step, in a state: of several by 0. -/
def pick (f : Nat → Int) (n steps t s : Nat) : Nat := if stp none40 (ge f t s 0) (cv f n steps (t + 1) (s / 2)) = cv f n steps t s then 0 else 1
/-- The state in which the best way is. -/
def sta (f : Nat → Int) (n steps : Nat) : Nat → Nat
  | 0 => 0
  | t + 1 => (sta f n steps t + 64 * pick f n steps t (sta f n steps t)) / 2
theorem pick_le (f : Nat → Int) (n steps t s : Nat) : pick f n steps t s ≤ 1 := by unfold pick; split <;> omega
theorem sta_lt (f : Nat → Int) (n steps : Nat) : ∀ t, sta f n steps t < 64
  | 0 => by unfold sta; omega
  | t + 1 => by
    have h1 := sta_lt f n steps t
    have h2 := pick_le f n steps t (sta f n steps t)
    unfold sta
    omega
/-- The bits of the best way. -/
def way (f : Nat → Int) (n steps k : Nat) : List Int := (List.range k).map fun t => (pick f n steps t (sta f n steps t) : Int)
theorem way_next (f : Nat → Int) (n steps k : Nat) : way f n steps (k + 1) = way f n steps k ++ [(pick f n steps k (sta f n steps k) : Int)] := by
  unfold way
  rw [List.range_succ, List.map_append]
  rfl
theorem way_len (f : Nat → Int) (n steps k : Nat) : (way f n steps k).length = k := by simp [way]

theorem BestAt.later {f : Nat → Int} {lb lo gb cb n steps t k : Nat} {w W : World} {G A : Array Value} (hl : ∀ j, j < 4 * steps → w.cell? ⟨lb, lo + j, none⟩ = some (.int .i64 (f j))) (hg : w.heap[gb]? = some (.cells G 76 (0, 0))) (hG : IsGraph G 64)
    (hA : w.heap[cb]? = some (.cells A 84 (0, 0))) (hM : MidV A (cv f n steps) steps 0 64) (hB : Below w.heap.size w W) (ht : t < steps) : BestAt f lb lo gb cb n steps t k W := by
  refine ⟨fun j hj => below_cell hB (hl j hj), ⟨G, (hB.block _ (Array.getElem?_eq_some_iff.1 hg).1).trans hg, hG⟩, fun s hs => below_cell hB ?_⟩
  rw [blk_cell hA, show (t + 1) * 64 + s = 64 * (t + 1) + s by omega]
  exact hM.2.1 (t + 1) (by omega) (by omega) s hs
theorem col_cell {f : Nat → Int} {cb n steps t k : Nat} {w W : World} {A : Array Value} (hA : w.heap[cb]? = some (.cells A 84 (0, 0))) (hM : MidV A (cv f n steps) steps 0 64) (hB : Below w.heap.size w W) (ht : t < steps) (hk : k < 64) :
    W.cell? ⟨cb, t * 64 + k, none⟩ = some (.int .i64 (cv f n steps t k)) := by
  refine below_cell hB ?_
  rw [blk_cell hA, show t * 64 + k = 64 * t + k by omega]
  by_cases h0 : t = 0
  · subst h0; exact hM.2.2 k hk
  · exact hM.2.1 t (by omega) (by omega) k hk
theorem below_cell_blk {w W : World} (hB : Below w.heap.size w W) {b : Nat} {o : Obj} (h : w.heap[b]? = some o) : W.heap[b]? = some o := (hB.block b (Array.getElem?_eq_some_iff.1 h).1).trans h
theorem cell_of_grown {w w1 : World} {a : Addr} {v : Value} {row : Option Nat} (h : w.cell? a = some v) (hg : w.grownBy w1 row) (hne : some a.block ≠ row) : w1.cell? a = some v :=
  (World.cell?_of_block (w := w) (hg.block a.block (lies_lt h) hne)).trans h
theorem info5 : (Tryd.prog.info? 5).map (fun i => (i.zero, i.size, i.bytes)) = some (some (.int .u8 0), 1, 1) := by kernel_rfl
/-- A loop's state in trace. -/
def TraceRel (w : World) (f : Nat → Int) (n steps t : Nat) (v : Value) (wr : World) : Prop :=
  t ≤ n ∧ (Kd.int .u8).R 5 wr w.heap.size (fun _ => True) v (way f n steps t) ∧ Below w.heap.size w wr

set_option maxHeartbeats 3200000 in
set_option maxRecDepth 100000 in
theorem trace_any (f : Nat → Int) (hf : ∀ j, -1000 ≤ f j ∧ f j ≤ 1000) (n steps L lb lo c gb cb : Nat) (G A : Array Value) (hL : L = 4 * steps) (hLc : L ≤ c) (hn : n < steps) (hs : steps ≤ 4102) (w : World)
    (hl : ∀ j, j < 4 * steps → w.cell? ⟨lb, lo + j, none⟩ = some (.int .i64 (f j))) (hg : w.heap[gb]? = some (.cells G 76 (0, 0))) (hG : IsGraph G 64) (hA : w.heap[cb]? = some (.cells A 84 (0, 0))) (hM : MidV A (cv f n steps) steps 0 64) :
    Calls Tryd.prog 47 #[.slice (some ⟨lb, lo, none⟩) L c, .int .i64 (n : Int), .pointer (some ⟨gb, 0, none⟩), .slice (some ⟨cb, 0, none⟩) (steps + 1) (steps + 1)] w fun e w' =>
      ∃ v, e = .returned v ∧ (Kd.int .u8).R 5 w' w.heap.size (fun _ => True) v (way f n steps n) ∧ Below w.heap.size w w' := by
  subst hL
  have HH := Aside0.mk (And.intro hl (And.intro hg (And.intro hG (And.intro hA (And.intro hM hf)))))
  clear hl hg hG hA hM hf
  go_enter Tryd.func47, Tryd.ntmps47
  go_wp2_with fail
  go_loopw [9, 10, 14] (fun o s i wr => ∃ t : Nat, i = .int .i64 t ∧ s = .int .i64 (sta f n steps t : Nat) ∧ TraceRel w f n steps t o wr) (fun _ _ i _ => n - (intOf i).toNat)
  case atStart =>
    exact ⟨0, rfl, rfl, Nat.zero_le _, Kd.R_nil _ _ _ _ _, Below.refl _ _⟩
  case round =>
    obtain ⟨t, rfl, rfl, hR⟩ := hrel
    have HR := Aside0.mk hR
    by_cases htn : t < n
    · have hlt : (t : Int) < (n : Int) := by omega
      have hsl := sta_lt f n steps t
      obtain ⟨x, hx⟩ : ∃ x, sta f n steps t = x := ⟨_, rfl⟩
      rw [hx] at hsl
      have HX := Aside0.mk hx
      rw [hx]
      have hxl : (x : Int) < 64 := by omega
      have hBw := hR.2.2
      have hgw := (hBw.block gb (Array.getElem?_eq_some_iff.1 HH.out.2.1).1).trans HH.out.2.1
      have E := fun j hj v hv => graph_cell hgw HH.out.2.2.1 x hsl j hj v hv
      have E0 := E 0 (by omega) _ rfl
      have E1 := E 1 (by omega) _ rfl
      have E2 := E 2 (by omega) _ rfl
      have E3 := E 3 (by omega) _ rfl
      have E4 := E 4 (by omega) _ rfl
      have E5 := E 5 (by omega) _ rfl
      have E6 := E 6 (by omega) _ rfl
      rw [Nat.add_zero] at E0
      have HGW := Aside0.mk hgw
      clear E hgw hBw hx hR
      go_upto_region 7 with fail
      obtain ⟨W0, hW0⟩ : ∃ W0, wr.alloc (.cells #[.int .i64 (x : Int), .int .i64 ((x : Int) / 2), .int .u8 0, .int .u8 (ob x 0 : Nat), .int .u8 (ob x 1 : Nat), .int .u8 (ob x 2 : Nat), .int .u8 (ob x 3 : Nat)] 73) = W0 := ⟨_, rfl⟩
      have hB0 : Below w.heap.size w W0 := by rw [← hW0]; exact below_alloc HR.out.2.2 _
      have hsz : W0.heap.size = wr.heap.size + 1 := by rw [← hW0]; simp
      rw [hW0]
      have HW0 := Aside0.mk (And.intro hW0 (And.intro hB0 hsz))
      clear hW0 hB0 hsz
      obtain ⟨S1, hS1⟩ : ∃ S1, stp none40 (ge f t x 0) (cv f n steps (t + 1) (x / 2)) = S1 := ⟨_, rfl⟩
      obtain ⟨C1, hC1⟩ : ∃ C1, cv f n steps t x = C1 := ⟨_, rfl⟩
      have HSC := Aside0.mk (And.intro hS1 hC1)
      clear hS1 hC1
      go_cut [43] (fun s43 wx => s43 = .bool (decide (¬ S1 = C1)) ∧ Below W0.heap.size W0 wx)
      case first =>
        have q1 : (4 * (t : Int)).toNat = 4 * t := by omega
        have q2 : (0 : Int) ≤ 4 * (t : Int) := by omega
        have q3 : t ≤ steps := by omega
        have q5 : (0 : Int) ≤ (t : Int) + 1 := by omega
        have q4 : ¬ c = 4 * t := by omega
        have hmul : IntKind.i64.wrap (4 * (t : Int)) = 4 * (t : Int) := IntWalk.i64_in _ (by omega)
        have hadd : IntKind.i64.wrap ((t : Int) + 1) = (t : Int) + 1 := IntWalk.i64_in _ (by omega)
        have ht1 : (t : Int) < (steps : Int) + 1 := by omega
        have ht2 : (t : Int) + 1 < (steps : Int) + 1 := by omega
        have ht3 : (4 : Int) * t ≤ 4 * steps := by omega
        have hb1 : Below w.heap.size w W0.drew := pw_below_drewN HW0.out.2.1 1
        have HC := Aside0.mk (best_at1 (t := t) (n := n) (c1 := c - 4 * t) (c2 := 2) (len := 4 * steps - 4 * t) (W := W0.drew) HH.out.2.2.2.2.2 (BestAt.later (k := x) HH.out.1 HH.out.2.1 HH.out.2.2.1 HH.out.2.2.2.1 HH.out.2.2.2.2.1 hb1 (by omega)) (by omega) (by omega) hsl hs)
        have k0 := col_cell HH.out.2.2.2.1 HH.out.2.2.2.2.1 hb1 (show t < steps by omega) hsl
        have hc1 := HC.out
        rw [HSC.out.1] at hc1
        rw [HSC.out.2] at k0
        have HC1 := Aside0.mk hc1
        clear hb1 hc1
        go_region_held3 (fun w' => w'.cell? ⟨cb, t * 64 + x, none⟩ = some (.int .i64 C1)) (first | go_keep) (first | (go_at_call 63; refine HC1.out.mono ?_; rintro e w2 ⟨rfl, hB2⟩; have k2 := below_cell hB2 k0; have HB2 := Aside0.mk hB2; clear hB2))
        all_goals go_wp2_with fail
        all_goals go_meet
        all_goals (refine ⟨?_, (pw_below_drewN (Below.refl _ _) 1).trans HB2.out⟩)
        all_goals (by_cases hsc : S1 = C1 <;> simp [hsc])
      case rest =>
        obtain ⟨rfl, hBc⟩ := hcut
        have hwcb : wc.heap[wr.heap.size]? = some (.cells #[.int .i64 (x : Int), .int .i64 ((x : Int) / 2), .int .u8 0, .int .u8 (ob x 0 : Nat), .int .u8 (ob x 1 : Nat), .int .u8 (ob x 2 : Nat), .int .u8 (ob x 3 : Nat)] 73 (0, 0)) :=
          (hBc.block wr.heap.size (by rw [HW0.out.2.2]; omega)).trans (by rw [← HW0.out.1]; exact Array.getElem?_push_size)
        have hBw : Below w.heap.size w wc := HW0.out.2.1.trans (hBc.mono (below_size HW0.out.2.1))
        have hRc : (Kd.int .u8).R 5 wc w.heap.size (fun k => k ≠ wr.heap.size) u9 (way f n steps t) := by
          refine Kd.R_step (Kd.R_mono (Kd.R_bound HR.out.2.1) (fun k hk => Nat.ne_of_lt hk.2.2.1)) (fun k _ hk => ?_)
          exact (hBc.block k (by rw [HW0.out.2.2]; omega)).trans (by rw [← HW0.out.1]; exact Below.heap_alloc wr _ k hk)
        have HWC := Aside0.mk (And.intro hwcb (And.intro hBw hRc))
        clear hBc hBw hRc hwcb
        by_cases hsc : S1 = C1
        · have hd : decide (¬ S1 = C1) = false := by simp [hsc]
          have HP := Aside0.mk hsc
          rw [hd]
          clear hsc hd
          obtain ⟨WX, hWX⟩ : ∃ WX, wc = WX := ⟨_, rfl⟩
          have X1 : WX.cell? ⟨wr.heap.size, 1, none⟩ = some (.int .i64 ((x : Int) / 2)) := by rw [← hWX]; exact blk_cell HWC.out.1 1
          have X2 : WX.cell? ⟨wr.heap.size, 2, none⟩ = some (.int .u8 0) := by rw [← hWX]; exact blk_cell HWC.out.1 2
          have SX : wr.heap.size < WX.heap.size := by rw [← hWX]; exact blk_lt HWC.out.1
          have RX := HWC.out.2.2
          have BX := HWC.out.2.1
          rw [hWX] at RX BX
          rw [hWX]
          clear hWX
          obtain ⟨P, hP⟩ : ∃ P : Int, 0 = P := ⟨_, rfl⟩
          have HPV := Aside0.mk hP
          rw [hP] at X2
          clear hP
          have HX12 := Aside0.mk (And.intro X1 (And.intro X2 (And.intro SX (And.intro RX BX))))
          clear X1 SX RX BX
          go_wp2_with (first | ((with_reducible refine gate_builtin (b := .append) (xs := #[.tmp 50, .tmp 53]) rfl ?_); at_builtin; refine Kd.R_append (Kd.int .u8) (w0 := w) w.heap.size rfl (.tmp 50) (.tmp 53) 25 5 (.int .u8 0) 1 rfl Tryd.underlying25 info5 rfl (by decide) (by omega) u9 (way f n steps t) P [.int .u8 P] (fun k => k ≠ wr.heap.size) (fun _ => False) rfl rfl ?aP (fun _ hk => hk.elim) ?aF ?aO ?aB ?aS ?aL ?_; (case aP => exact rfl); (case aB => exact HX12.out.2.2.2.2); (case aF => exact (fun k hk => by have := HX12.out.2.2.1; omega)); (case aO => exact HX12.out.2.2.2.1); (case aS => exact below_size HX12.out.2.2.2.2); (case aL => rw [way_len]; omega); intro v1 w7 ho hb hg hat; have k1 := cell_of_grown HX12.out.1 hg (fun h => HX12.out.2.2.2.1.1 _ h.symm rfl); have HN := Aside0.mk (And.intro ho hb); clear ho hb hg hat))
          have hp : pick f n steps t x = 0 := by
            have h1 := HSC.out.1
            have h2 := HSC.out.2
            have h3 := HP.out
            unfold pick
            rw [h1, h2]
            simp [h3]
          have hst : sta f n steps (t + 1) = (x + 64 * 0) / 2 := by
            show (sta f n steps t + 64 * pick f n steps t (sta f n steps t)) / 2 = _
            rw [HX.out, hp]
          have hwy : way f n steps (t + 1) = way f n steps t ++ [P] := by
            rw [way_next, HX.out, hp, ← HPV.out]
            rfl
          refine ⟨⟨t + 1, by go_num, ?_, by omega, ?_, HN.out.2⟩, by simp only [intOf]; omega⟩
          · rw [hst]; congr 1
          · rw [hwy]; exact Kd.R_mono HN.out.1 (fun _ _ => trivial)
        · have hd : decide (¬ S1 = C1) = true := by simp [hsc]
          have HP := Aside0.mk hsc
          rw [hd]
          clear hsc hd
          have E := fun j hj v hv => graph_cell (below_cell_blk HWC.out.2.1 HH.out.2.1) HH.out.2.2.1 x hsl j hj v hv
          have E7 := E 7 (by omega) _ rfl
          have E8 := E 8 (by omega) _ rfl
          have E9 := E 9 (by omega) _ rfl
          have E10 := E 10 (by omega) _ rfl
          have E11 := E 11 (by omega) _ rfl
          have E12 := E 12 (by omega) _ rfl
          have E13 := E 13 (by omega) _ rfl
          have M := fun j => blk_cell (i := j) HWC.out.1
          have M0 : wc.cell? ⟨wr.heap.size, 0, none⟩ = _ := M 0
          have M1 : wc.cell? ⟨wr.heap.size, 1, none⟩ = _ := M 1
          have M2 : wc.cell? ⟨wr.heap.size, 2, none⟩ = _ := M 2
          have M3 : wc.cell? ⟨wr.heap.size, 3, none⟩ = _ := M 3
          have M4 : wc.cell? ⟨wr.heap.size, 4, none⟩ = _ := M 4
          have M5 : wc.cell? ⟨wr.heap.size, 5, none⟩ = _ := M 5
          have M6 : wc.cell? ⟨wr.heap.size, 6, none⟩ = _ := M 6
          have F := fun j => blk_frozen HWC.out.1 j
          have F0 : wc.frozen? ⟨wr.heap.size, 0, none⟩ = false := F 0
          have F1 : wc.frozen? ⟨wr.heap.size, 1, none⟩ = false := F 1
          have F2 : wc.frozen? ⟨wr.heap.size, 2, none⟩ = false := F 2
          have F3 : wc.frozen? ⟨wr.heap.size, 3, none⟩ = false := F 3
          have F4 : wc.frozen? ⟨wr.heap.size, 4, none⟩ = false := F 4
          have F5 : wc.frozen? ⟨wr.heap.size, 5, none⟩ = false := F 5
          have F6 : wc.frozen? ⟨wr.heap.size, 6, none⟩ = false := F 6
          clear E M F E0 E1 E2 E3 E4 E5 E6
          go_upto_region 9 with fail
          obtain ⟨WX, hWX⟩ : ∃ WX, ((((((wc.setCell ⟨wr.heap.size, 0, none⟩ (.int .i64 (x : Int))).setCell ⟨wr.heap.size, 1, none⟩ (.int .i64 (((x : Int) + 64) / 2))).setCell ⟨wr.heap.size, 2, none⟩ (.int .u8 1)).setCell ⟨wr.heap.size, 3, none⟩ (.int .u8 (ob (x + 64) 0 : Nat))).setCell ⟨wr.heap.size, 4, none⟩ (.int .u8 (ob (x + 64) 1 : Nat))).setCell ⟨wr.heap.size, 5, none⟩ (.int .u8 (ob (x + 64) 2 : Nat))).setCell ⟨wr.heap.size, 6, none⟩ (.int .u8 (ob (x + 64) 3 : Nat)) = WX := ⟨_, rfl⟩
          have X1 : WX.cell? ⟨wr.heap.size, 1, none⟩ = some (.int .i64 (((x : Int) + 64) / 2)) := by subst hWX; go_simp
          have X2 : WX.cell? ⟨wr.heap.size, 2, none⟩ = some (.int .u8 1) := by subst hWX; go_simp
          have SX : wr.heap.size < WX.heap.size := by rw [← hWX]; simpa using blk_lt HWC.out.1
          have RX : (Kd.int .u8).R 5 WX w.heap.size (fun k => k ≠ wr.heap.size) u9 (way f n steps t) := by
            rw [← hWX]
            exact Kd.R_far (Kd.R_far (Kd.R_far (Kd.R_far (Kd.R_far (Kd.R_far (Kd.R_far HWC.out.2.2 (fun _ h => h) _) (fun _ h => h) _) (fun _ h => h) _) (fun _ h => h) _) (fun _ h => h) _) (fun _ h => h) _) (fun _ h => h) _
          have BX : Below w.heap.size w WX := by
            have hle := below_size HR.out.2.2
            rw [← hWX]
            exact (((((((HWC.out.2.1).setCell hle _).setCell hle _).setCell hle _).setCell hle _).setCell hle _).setCell hle _).setCell hle _
          rw [hWX]
          clear hWX F0 F1 F2 F3 F4 F5 F6 M0 M1 M2 M3 M4 M5 M6 E7 E8 E9 E10 E11 E12 E13
          obtain ⟨P, hP⟩ : ∃ P : Int, 1 = P := ⟨_, rfl⟩
          have HPV := Aside0.mk hP
          rw [hP] at X2
          clear hP
          have HX12 := Aside0.mk (And.intro X1 (And.intro X2 (And.intro SX (And.intro RX BX))))
          clear X1 SX RX BX
          go_wp2_with (first | ((with_reducible refine gate_builtin (b := .append) (xs := #[.tmp 50, .tmp 53]) rfl ?_); at_builtin; refine Kd.R_append (Kd.int .u8) (w0 := w) w.heap.size rfl (.tmp 50) (.tmp 53) 25 5 (.int .u8 0) 1 rfl Tryd.underlying25 info5 rfl (by decide) (by omega) u9 (way f n steps t) P [.int .u8 P] (fun k => k ≠ wr.heap.size) (fun _ => False) rfl rfl ?aP (fun _ hk => hk.elim) ?aF ?aO ?aB ?aS ?aL ?_; (case aP => exact rfl); (case aB => exact HX12.out.2.2.2.2); (case aF => exact (fun k hk => by have := HX12.out.2.2.1; omega)); (case aO => exact HX12.out.2.2.2.1); (case aS => exact below_size HX12.out.2.2.2.2); (case aL => rw [way_len]; omega); intro v1 w7 ho hb hg hat; have k1 := cell_of_grown HX12.out.1 hg (fun h => HX12.out.2.2.2.1.1 _ h.symm rfl); have HN := Aside0.mk (And.intro ho hb); clear ho hb hg hat))
          have hp : pick f n steps t x = 1 := by
            have h1 := HSC.out.1
            have h2 := HSC.out.2
            have h3 := HP.out
            unfold pick
            rw [h1, h2]
            simp [h3]
          have hst : sta f n steps (t + 1) = (x + 64 * 1) / 2 := by
            show (sta f n steps t + 64 * pick f n steps t (sta f n steps t)) / 2 = _
            rw [HX.out, hp]
          have hwy : way f n steps (t + 1) = way f n steps t ++ [P] := by
            rw [way_next, HX.out, hp, ← HPV.out]
            rfl
          refine ⟨⟨t + 1, by go_num, ?_, by omega, ?_, HN.out.2⟩, by simp only [intOf]; omega⟩
          · rw [hst]; congr 1
          · rw [hwy]; exact Kd.R_mono HN.out.1 (fun _ _ => trivial)
    · have hge : ¬ (t : Int) < (n : Int) := by omega
      have htn2 : t = n := by have := hR.1; omega
      subst htn2
      clear hR
      go_wp2_with fail
      go_ret
      exact ⟨_, rfl, HR.out.2.1, HR.out.2.2⟩

end Go.Proofs.YticiilolmkbncaaDoor.Vit
