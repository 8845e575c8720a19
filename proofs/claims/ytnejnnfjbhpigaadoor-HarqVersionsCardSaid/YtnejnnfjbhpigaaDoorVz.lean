/- Contract of the document's decoder (shuttleref09.Decode): each theorem says its own conditions. -/
import Derived.Test.YtnejnnfjbhpigaaDoorVz0
import Derived.Deep.CutRange
import Derived.BigRegion
namespace Go.Proofs.YtnejnnfjbhpigaaDoor.Vit
open Go.RowKit Go.Proofs.YtnejnnfjbhpigaaDoorW.PrintWords Go.Proofs.YtnejnnfjbhpigaaDoorW.PrintLast Go.Proofs.YtnejnnfjbhpigaaDoorW.PrintMore Go.Proofs.YtnejnnfjbhpigaaDoor.Mem
attribute [local go_sem] max2_int min2_int max_two min_two max_three min_three max_four min_four   -- for this text's walks alone
set_option linter.unusedVariables false
set_option linter.unusedSimpArgs false

theorem far_none {v : Int} (h : v = none40 ∨ -1000000000 ≤ v ∧ v ≤ 1000000000) (hv : ¬ v = none40) : decide (-549755813888 < v) = true := by
  have := h.resolve_left hv
  exact decide_eq_true (by omega)
theorem at_none : decide (-549755813888 < none40) = false := by decide
theorem half0 {k T : Nat} (h : k / 2 = T) : (k + 64 * 0) / 2 = T := h
theorem half1 {k T : Nat} (h : (k + 64) / 2 = T) : (k + 64 * 1) / 2 = T := h
theorem max_if (a b : Int) : max a b = if a < b then b else a := by split <;> omega
theorem wrap64_in (x : Int) (h1 : -9223372036854775808 ≤ x) (h2 : x ≤ 9223372036854775807) : wrap64 x = x := by unfold wrap64; omega
theorem info86 : (Tryd.prog.info? 70).map (·.size) = some 14 := by kernel_rfl
theorem info83 : (Tryd.prog.info? 108).map (fun i => (i.zero, i.size, i.bytes)) = some (some (.agg (Array.replicate 64 (.int .i64 0))), 64, 512) := by kernel_rfl
theorem make83 (k : Nat) (hk : k ≤ 5000) : ∃ Z : Array Value, Z.size = 64 * (k + 1) ∧
    ∀ W : World, (Instr.makeSlice 107 (.int .i64 ((k : Int) + 1)) (.int .i64 ((k : Int) + 1))).run Tryd.prog W = .ok (.slice (some ⟨W.heap.size, 0, none⟩) (k + 1) (k + 1)) (W.alloc (.cells Z 108)) := by
  obtain ⟨i, hi, hz⟩ := Option.map_eq_some_iff.1 info83
  simp only [Prod.mk.injEq] at hz
  obtain ⟨h1, h2, h3⟩ := hz
  have := fun w => run_makeSlice (P := Tryd.prog) w 107 108 i _ Tryd.underlying107 hi h1 .i64 .i64 ((k : Int) + 1) ((k : Int) + 1) (by omega) (by omega) (by rw [h2]; omega) (by rw [h3]; omega) (by omega)
  refine ⟨_, ?_, this⟩
  rw [size_madeCells, h2]
  omega
theorem zero87 : Tryd.zeroCells71.size = 896 := by kernel_rfl
def half14 (k b : Nat) : Array Value := #[.int .i64 (k : Int), .int .i64 (((k : Int) + 64 * b) / 2), .int .u8 (b : Int), .int .u8 (ob (k + 64 * b) 0 : Nat), .int .u8 (ob (k + 64 * b) 1 : Nat), .int .u8 (ob (k + 64 * b) 2 : Nat), .int .u8 (ob (k + 64 * b) 3 : Nat)]
theorem edge_half (k b : Nat) : edgeA k b 4 = half14 k b := by
  unfold edgeA half14
  rw [show ((k : Int) + 64 * (b : Int)) / 2 = (k : Int) / 2 + 32 * (b : Int) by omega]
  simp
theorem step_row (k : Nat) (hk : k < 64) (W : World) :
    Calls Tryd.prog 34 #[.int .i64 (k : Int), .int .u8 0] W (fun e w' => e = .returned (.agg #[.int .i64 (k : Int), .int .i64 ((k : Int) / 2), .int .u8 0, .int .u8 (ob k 0 : Nat), .int .u8 (ob k 1 : Nat), .int .u8 (ob k 2 : Nat), .int .u8 (ob k 3 : Nat)]) ∧ Below W.heap.size W w') ∧
    Calls Tryd.prog 34 #[.int .i64 (k : Int), .int .u8 1] W (fun e w' => e = .returned (.agg #[.int .i64 (k : Int), .int .i64 (((k : Int) + 64) / 2), .int .u8 1, .int .u8 (ob (k + 64) 0 : Nat), .int .u8 (ob (k + 64) 1 : Nat), .int .u8 (ob (k + 64) 2 : Nat), .int .u8 (ob (k + 64) 3 : Nat)]) ∧ Below W.heap.size W w') := by
  have h0 := Step_any k 0 hk (by omega) W
  have h1 := Step_any k 1 hk (by omega) W
  have e0 : edgeA k 0 4 = #[.int .i64 (k : Int), .int .i64 ((k : Int) / 2), .int .u8 0, .int .u8 (ob k 0 : Nat), .int .u8 (ob k 1 : Nat), .int .u8 (ob k 2 : Nat), .int .u8 (ob k 3 : Nat)] := by
    unfold edgeA
    simp
  have e1 : edgeA k 1 4 = #[.int .i64 (k : Int), .int .i64 (((k : Int) + 64) / 2), .int .u8 1, .int .u8 (ob (k + 64) 0 : Nat), .int .u8 (ob (k + 64) 1 : Nat), .int .u8 (ob (k + 64) 2 : Nat), .int .u8 (ob (k + 64) 3 : Nat)] := by
    unfold edgeA
    rw [show ((k : Int) + 64) / 2 = (k : Int) / 2 + 32 by omega]
    simp
  rw [e0] at h0
  rw [e1] at h1
  exact ⟨h0, h1⟩

/-- A loop's state. -/
def Fill9 (w : World) (V : Nat → Nat → Int) (steps t k : Nat) (wr : World) : Prop :=
  k ≤ 64 ∧ (∃ A, wr.heap[w.heap.size]? = some (.cells A 108 (0, 0)) ∧ MidV A V steps t k) ∧ Below w.heap.size w wr
theorem Fill9.cell {w wr : World} {V : Nat → Nat → Int} {steps t k : Nat} (h : Fill9 w V steps t k wr) (u s : Nat) (hu : u ≤ steps) (hs : s < 64) : ∃ v, wr.cell? ⟨w.heap.size, u * 64 + s, none⟩ = some v := by
  obtain ⟨_, ⟨A, h1, h2⟩, _⟩ := h
  have hlt : u * 64 + s < A.size := by have := h2.1; omega
  exact ⟨_, (blk_cell h1 _).trans (Array.getElem?_eq_getElem hlt)⟩
theorem Fill9.frozen {w wr : World} {V : Nat → Nat → Int} {steps t k : Nat} (h : Fill9 w V steps t k wr) (o : Nat) : wr.frozen? ⟨w.heap.size, o, none⟩ = false := by
  obtain ⟨_, ⟨A, h1, _⟩, _⟩ := h
  rw [blk_frozen h1]
theorem Fill9.next {w wr : World} {V : Nat → Nat → Int} {steps t k : Nat} (h : Fill9 w V steps t k wr) (hk : k < 64) (ht : t ≤ steps) :
    Fill9 w V steps t (k + 1) (wr.setCell ⟨w.heap.size, t * 64 + k, none⟩ (.int .i64 (V t k))) := by
  obtain ⟨h0, ⟨A, h1, h2⟩, h3⟩ := h
  exact ⟨by omega, ⟨_, blk_set h1 _ _, h2.next hk ht⟩, h3.setCell (Nat.le_refl _) _⟩

theorem Fill9.below {w W w2 : World} {V : Nat → Nat → Int} {steps t k : Nat} (h : Fill9 w V steps t k W) (hB : Below W.heap.size W w2) : Fill9 w V steps t k w2 := by
  obtain ⟨h0, ⟨A, h1, h2⟩, h3⟩ := h
  exact ⟨h0, ⟨A, (hB.block _ (Array.getElem?_eq_some_iff.1 h1).1).trans h1, h2⟩, h3.trans (hB.mono h3.size)⟩
theorem Fill9.drew {w W : World} {V : Nat → Nat → Int} {steps t k : Nat} (h : Fill9 w V steps t k W) : Fill9 w V steps t k W.drew := by
  obtain ⟨h0, ⟨A, h1, h2⟩, h3⟩ := h
  exact ⟨h0, ⟨A, h1, h2⟩, pw_below_drewN h3 1⟩
theorem graph9 {w : World} {gb : Nat} {G : Array Value} (hg : w.heap[gb]? = some (.cells G 71 (0, 0))) (hG : IsGraph G 64) (k : Nat) (hk : k < 64) (j : Nat) (hj : j < 14) (v : Value) (hv : (row14 k)[j]? = some v) :
    w.cell? ⟨gb, k * 14 + j, none⟩ = some v := by
  rw [blk_cell hg, show k * 14 + j = 14 * k + j by omega]
  exact (hG.2 k hk j hj).trans hv
theorem cell9 {w W : World} {cb steps u s : Nat} {A : Array Value} {V : Nat → Nat → Int} (hA : w.heap[cb]? = some (.cells A 108 (0, 0))) (hM : MidV A V steps 0 64) (hB : Below w.heap.size w W) (hu : u ≤ steps) (hs : s < 64) : W.cell? ⟨cb, u * 64 + s, none⟩ = some (.int .i64 (V u s)) := by
  refine below_cell hB ?_
  rw [blk_cell hA, show u * 64 + s = 64 * u + s by omega]
  by_cases h0 : u = 0
  · subst h0; exact hM.2.2 s hs
  · exact hM.2.1 u (by omega) hu s hs
theorem near_none {v : Int} (h : v = none40 ∨ -1000000000 ≤ v ∧ v ≤ 1000000000) (hv : ¬ v = none40) : decide (v ≤ -549755813888) = false := by
  have := h.resolve_left hv
  exact decide_eq_false (by omega)
theorem pick_is {f : Nat → Int} {n steps t x T : Nat} {V1 G1 C1 : Int} (hT : x / 2 = T) (hV : cv f n steps (t + 1) T = V1) (hG : ge f t x 0 = G1) (hC : cv f n steps t x = C1) (hn : ¬ V1 = none40) (hin : V1 = none40 ∨ -1000000000 ≤ V1 ∧ V1 ≤ 1000000000) (hf : ∀ j, -1000 ≤ f j ∧ f j ≤ 1000) : pick f n steps t x = if G1 + V1 = C1 then 0 else 1 := by
  unfold pick
  have hb := hin.resolve_left hn
  have hg := ge_in hf t x 0
  rw [hG] at hg
  have e : max none40 (G1 + V1) = G1 + V1 := by
    have := n40
    omega
  rw [hT, hV, stp_some hn, hG, e, hC]
/-- One state's score, being reckoned. -/
def Cur9 (wb : World) (V : Nat → Nat → Int) (steps t k : Nat) (cur : Int) (wx : World) : Prop :=
  (∃ A : Array Value, wx.heap[wb.heap.size]? = some (.cells A 108 (0, 0)) ∧ MidV A V steps t k ∧ A[t * 64 + k]? = some (.int .i64 cur)) ∧ Below wb.heap.size wb wx
theorem MidV.put {A : Array Value} {V : Nat → Nat → Int} {steps t k : Nat} (h : MidV A V steps t k) (hk : k < 64) (ht : t ≤ steps) (cur : Int) : MidV (A.setIfInBounds (t * 64 + k) (.int .i64 cur)) V steps t k ∧ (A.setIfInBounds (t * 64 + k) (.int .i64 cur))[t * 64 + k]? = some (.int .i64 cur) := by
  obtain ⟨h1, h2, h3⟩ := h
  refine ⟨⟨by simpa using h1, fun u hu hu2 s hs => ?_, fun s hs => ?_⟩, Array.getElem?_setIfInBounds_self_of_lt (by omega)⟩
  · rw [Array.getElem?_setIfInBounds_ne (by omega)]
    exact h2 u hu hu2 s hs
  · rw [Array.getElem?_setIfInBounds_ne (by omega)]
    exact h3 s hs
theorem Cur9.start {wb wx : World} {V : Nat → Nat → Int} {steps t k : Nat} (h : Fill9 wb V steps t k wx) (hk : k < 64) (ht : t ≤ steps) (cur : Int) : Cur9 wb V steps t k cur (wx.setCell ⟨wb.heap.size, t * 64 + k, none⟩ (.int .i64 cur)) := by
  obtain ⟨_, ⟨A, h1, h2⟩, h3⟩ := h
  exact ⟨⟨_, blk_set h1 _ _, h2.put hk ht cur⟩, h3.setCell (Nat.le_refl _) _⟩
theorem Cur9.put {wb wx : World} {V : Nat → Nat → Int} {steps t k : Nat} {cur : Int} (h : Cur9 wb V steps t k cur wx) (hk : k < 64) (ht : t ≤ steps) (cur' : Int) : Cur9 wb V steps t k cur' (wx.setCell ⟨wb.heap.size, t * 64 + k, none⟩ (.int .i64 cur')) := by
  obtain ⟨⟨A, h1, h2, _⟩, h3⟩ := h
  exact ⟨⟨_, blk_set h1 _ _, h2.put hk ht cur'⟩, h3.setCell (Nat.le_refl _) _⟩
theorem Cur9.done {wb wx : World} {V : Nat → Nat → Int} {steps t k : Nat} {cur : Int} (h : Cur9 wb V steps t k cur wx) (hk : k < 64) (hc : cur = V t k) : Fill9 wb V steps t (k + 1) wx := by
  obtain ⟨⟨A, h1, ⟨h2, h4, h5⟩, h6⟩, h3⟩ := h
  refine ⟨by omega, ⟨A, h1, h2, h4, fun s hs => ?_⟩, h3⟩
  by_cases he : s = k
  · subst he
    rw [show 64 * t + s = t * 64 + s by omega, h6, hc]
  · exact h5 s (by omega)
theorem Cur9.below {wb wx w2 : World} {V : Nat → Nat → Int} {steps t k : Nat} {cur : Int} (h : Cur9 wb V steps t k cur wx) (hb : Below wx.heap.size wx w2) : Cur9 wb V steps t k cur w2 := by
  obtain ⟨⟨A, h1, h2⟩, h3⟩ := h
  exact ⟨⟨A, below_cell_blk hb h1, h2⟩, h3.trans (hb.mono h3.size)⟩
theorem Cur9.here {wb wx : World} {V : Nat → Nat → Int} {steps t k : Nat} {cur : Int} (h : Cur9 wb V steps t k cur wx) : wx.cell? ⟨wb.heap.size, t * 64 + k, none⟩ = some (.int .i64 cur) ∧ wx.frozen? ⟨wb.heap.size, t * 64 + k, none⟩ = false := by
  obtain ⟨⟨A, h1, h2, h6⟩, h3⟩ := h
  exact ⟨(blk_cell h1 _).trans h6, blk_frozen h1 _⟩
theorem Cur9.next {wb wx : World} {V : Nat → Nat → Int} {steps t k : Nat} {cur : Int} (h : Cur9 wb V steps t k cur wx) (ht : t < steps) (s : Nat) (hs : s < 64) : wx.cell? ⟨wb.heap.size, (t + 1) * 64 + s, none⟩ = some (.int .i64 (V (t + 1) s)) := by
  obtain ⟨⟨A, h1, ⟨h2, h4, h5⟩, h6⟩, h3⟩ := h
  rw [blk_cell h1, show (t + 1) * 64 + s = 64 * (t + 1) + s by omega]
  exact h4 (t + 1) (by omega) (by omega) s hs
/-- What a state scores by none, one, two of its edges. -/
def curv (f : Nat → Int) (n steps t k : Nat) : Nat → Int
  | 0 => none40
  | 1 => stp none40 (ge f t k 0) (cv f n steps (t + 1) (k / 2))
  | _ => cv f n steps t k
theorem curv_one (f : Nat → Int) (n steps t k : Nat) : curv f n steps t k 1 = stp (curv f n steps t k 0) (ge f t k 0) (cv f n steps (t + 1) (k / 2)) := by simp only [curv]
theorem curv_two {f : Nat → Int} {n steps t k : Nat} (ht : t < steps) (htn : t < n) : curv f n steps t k 2 = stp (curv f n steps t k 1) (ge f t k 1) (cv f n steps (t + 1) ((k + 64) / 2)) := by
  simp only [curv]
  exact cv_two ht htn
theorem gain_at {f : Nat → Int} (hf : ∀ j, -1000 ≤ f j ∧ f j ≤ 1000) {lb lo c steps t k i T : Nat} {w W : World} (hl : ∀ j, j < 4 * steps → w.cell? ⟨lb, lo + j, none⟩ = some (.int .i64 (f j))) (hB : Below w.heap.size w W) (ht : t < steps) (hc : 4 * steps ≤ c) (hT : (k + 64 * i) / 2 = T) :
    Calls Tryd.prog 68 #[.slice (some ⟨lb, lo + 4 * t, none⟩) 4 (c - 4 * t), .agg #[.int .i64 (k : Int), .int .i64 (T : Int), .int .u8 (i : Int), .int .u8 (ob (k + 64 * i) 0 : Nat), .int .u8 (ob (k + 64 * i) 1 : Nat), .int .u8 (ob (k + 64 * i) 2 : Nat), .int .u8 (ob (k + 64 * i) 3 : Nat)]] W fun e w' =>
      e = .returned (.int .i64 (ge f t k i)) ∧ Below W.heap.size W w' := by
  have hrow : (Kd.int .i64).C W (some ⟨lb, lo + 4 * t, none⟩) 4 [f (4 * t), f (4 * t + 1), f (4 * t + 2), f (4 * t + 3)] := by
    refine C_cells (k := .i64) [f (4 * t), f (4 * t + 1), f (4 * t + 2), f (4 * t + 3)] (by simp) (fun j p hj => ?_)
    match j, hj with
    | 0, hj => obtain rfl := Option.some.inj hj; exact below_cell hB (hl (4 * t) (by omega))
    | 1, hj => obtain rfl := Option.some.inj hj; rw [Nat.add_assoc]; exact below_cell hB (hl (4 * t + 1) (by omega))
    | 2, hj => obtain rfl := Option.some.inj hj; rw [Nat.add_assoc]; exact below_cell hB (hl (4 * t + 2) (by omega))
    | 3, hj => obtain rfl := Option.some.inj hj; rw [Nat.add_assoc]; exact below_cell hB (hl (4 * t + 3) (by omega))
    | j + 4, hj => simp at hj
  have h := gain9_any (some ⟨lb, lo + 4 * t, none⟩) (c - 4 * t) (f (4 * t)) (f (4 * t + 1)) (f (4 * t + 2)) (f (4 * t + 3)) k i W hrow (by omega) (hf _) (hf _) (hf _) (hf _)
  rw [edge_half] at h
  unfold half14 at h
  rw [show ((k : Int) + 64 * (i : Int)) / 2 = (T : Int) by omega] at h
  exact h
set_option maxHeartbeats 6400000 in
set_option maxRecDepth 100000 in
theorem Decode9_any (Y : List Int) (n : Nat) (hn : n ≤ 4096) (hY : Y.length = 4 * (n + 6)) (hin : ∀ y ∈ Y, -31 ≤ y ∧ y ≤ 31) (A : Option Addr) (c : Nat) (w : World) (hC : (Kd.int .i64).C w A Y.length Y) (hc : Y.length ≤ c) :
    Calls Tryd.prog 40 #[.slice A Y.length c] w fun e w' =>
      ∃ v, e = .returned (.tuple #[v, .int .i64 (bestS Y n)]) ∧ (Kd.int .u8).R 5 w' w.heap.size (fun _ => True) v (ints (bestL Y n)) ∧ Below w.heap.size w w' := by
  obtain ⟨lb, lo, hA, hcell⟩ := row_form hC (by omega)
  subst hA
  obtain ⟨f, hf⟩ : ∃ f : Nat → Int, (fun j => Y.getD j 0) = f := ⟨_, rfl⟩
  have hfx : ∀ j, Y.getD j 0 = f j := fun j => congrFun hf j
  have hf31 : ∀ j, -1000 ≤ f j ∧ f j ≤ 1000 := fun j => by have := in1000 hin j; rw [← hf]; exact this
  obtain ⟨K, hK⟩ : ∃ K, Y.length = K := ⟨_, rfl⟩
  rw [hK] at hY hc hcell ⊢
  obtain ⟨steps, hst⟩ : ∃ steps, n + 6 = steps := ⟨_, rfl⟩
  have hKs : K = 4 * steps := by omega
  obtain ⟨S0, hS0⟩ : ∃ S0, bestS Y n = S0 := ⟨_, rfl⟩
  obtain ⟨L0, hL0⟩ : ∃ L0, bestL Y n = L0 := ⟨_, rfl⟩
  have hS1 : cv f n steps 0 0 = S0 := by have h := hS0; unfold bestS at h; rw [hf, hst] at h; exact h
  have hL1 : way f n steps n = ints L0 := by have h := hL0; unfold bestL at h; rw [hf, hst] at h; rw [way_is, h]; unfold ints; exact Eq.refl _
  rw [hS0, hL0]
  have HSL := Aside0.mk (And.intro hS1 hL1)
  clear hS0 hL0 hS1 hL1
  have q1 : (K : Int).tdiv 4 = (steps : Int) := by rw [Int.tdiv_eq_ediv_of_nonneg (by omega)]; omega
  have q2 : wrap64 (steps : Int) = (steps : Int) := by unfold wrap64; omega
  have q3 : (steps : Int) - 6 = (n : Int) := by omega
  have q4 : wrap64 (n : Int) = (n : Int) := by unfold wrap64; omega
  have hcell2 : ∀ j, j < 4 * steps → w.cell? ⟨lb, lo + j, none⟩ = some (.int .i64 (f j)) := fun j hj => by rw [← hfx j]; exact hcell j (by omega)
  have HH := Aside0.mk (And.intro hcell2 (And.intro hf31 (And.intro HSL.out.1 (And.intro HSL.out.2 (And.intro hKs hst)))))
  have hs41 : steps ≤ 4102 := by omega
  subst hKs
  have hns : n < steps := by omega
  clear hcell hcell2 hf hfx hf31 hK hY hin hC hst
  go_enter Tryd.func40, Tryd.ntmps40
  go_wp2_with fail
  go_loopw [8] (fun kk wr => ∃ k : Nat, kk = .int .i64 k ∧ k ≤ 64 ∧ (∃ G : Array Value, wr.heap[w.heap.size]? = some (.cells G 71 (0, 0)) ∧ IsGraph G k) ∧ Below w.heap.size w wr) (fun kk _ => 64 - (intOf kk).toNat)
  case atStart =>
    exact ⟨0, rfl, by omega, ⟨_, heap_alloc_new w _, zero87, fun s hs => by omega⟩, below_alloc (Below.refl _ _) _⟩
  case round =>
    obtain ⟨k, rfl, hk, hG, hB⟩ := hrel
    have HG := Aside0.mk (And.intro hG hB)
    clear hG hB
    by_cases hlt : k < 64
    · have hlt' : (k : Int) < 64 := by omega
      go_upto_region 8 with fail
      refine wp_region_lit ?_
      refine wpList_plain rfl (fun _ hK => ?_)
      go_simp
      refine hK _ _ ?_
      clear hK
      refine wpList_plain rfl (fun _ hK => ?_)
      go_simp
      refine hK _ _ ?_
      clear hK
      refine wpList_step (fun K9 hK => ?_)
      go_simp
      go_at_call 34
      refine (step_row k hlt _).1.mono ?_
      rintro e w2 ⟨rfl, hB2⟩
      have H2 := Aside0.mk hB2
      clear hB2
      refine hK _ _ ?_
      clear hK K9
      refine wpList_plain rfl (fun _ hK => ?_)
      go_simp
      refine hK _ _ ?_
      clear hK
      refine wpList_step (fun K9 hK => ?_)
      go_simp
      go_at_call 34
      refine (step_row k hlt _).2.mono ?_
      rintro e w3 ⟨rfl, hB3⟩
      have H3 := Aside0.mk hB3
      clear hB3
      refine hK _ _ ?_
      clear hK K9
      refine wpList_plain rfl (fun _ hK => ?_)
      go_simp
      refine hK _ _ ?_
      clear hK
      obtain ⟨G, hG, hGk⟩ := HG.out.1
      have hG3 := below_cell_blk H3.out (below_cell_blk H2.out hG)
      have hth : w3.there w.heap.size (k * 14) 14 := there_of_row hG3 (by have := hGk.1; omega)
      have HG3 := Aside0.mk (And.intro hG3 (And.intro hGk hth))
      clear hG3 hth hG hGk
      refine wpList_plain rfl (fun _ hK => ?_)
      go_simp
      refine hK _ _ ?_
      clear hK
      refine wpList_store_mid rfl 70 _ _ rfl w.heap.size (k * 14) (row14 k).toArray rfl rfl HG3.out.2.2 info86 (row14_one k) ?_
      refine wpList_nil ?_
      obtain ⟨W, hW⟩ : ∃ W, (World.setCells w3 w.heap.size (k * 14) (row14 k)) = W := ⟨_, rfl⟩
      change Exit.inBlock 1 _ .normal _ (World.setCells w3 w.heap.size (k * 14) (row14 k))
      rw [hW]
      have HWW := Aside0.mk hW
      clear hW
      go_wp2_with fail
      refine ⟨⟨k + 1, by go_num, by omega, ?_, ?_⟩, by simp only [intOf]; omega⟩
      · obtain ⟨A', h1, h2, h3⟩ := setCells_row (row14 k) (k * 14) w3 _ HG3.out.1 (by rw [HG3.out.2.1.1]; show k * 14 + 14 ≤ 896; omega)
        rw [HWW.out] at h1
        exact ⟨A', h1, HG3.out.2.1.next hlt h2 h3⟩
      · rw [← HWW.out]
        exact below_setCells (Nat.le_refl _) _ _ _ (HG.out.2.trans ((H2.out.trans (H3.out.mono H2.out.size)).mono HG.out.2.size))
    · have hlt' : ¬ (k : Int) < 64 := by omega
      obtain rfl : k = 64 := by omega
      obtain ⟨Z, hZ, hmake⟩ := make83 steps (by omega)
      have HZ := Aside0.mk hZ
      clear hZ
      have q5 : wrap64 ((steps : Int) + 1) = (steps : Int) + 1 := by unfold wrap64; omega
      go_upto_region 10 with fail
      obtain ⟨wb, hwb⟩ : ∃ wb : World, wb = wr := ⟨wr, rfl⟩
      subst hwb
      have hst : (steps : Int) < (steps : Int) + 1 := by omega
      clear hlt hlt' hmake
      go_wp2_with fail
      go_loopw [10] (fun i wx => ∃ k : Nat, i = .int .i64 k ∧ Fill9 wb (fun _ _ => none40) steps steps k wx) (fun i _ => 64 - (intOf i).toNat)
      case atStart => exact ⟨0, rfl, by omega, ⟨Z, heap_alloc_new _ _, HZ.out, fun u h1 h2 => by omega, fun s hs => by omega⟩, below_alloc (Below.refl _ _) _⟩
      case round =>
        obtain ⟨k, rfl, hR⟩ := hrel
        have HR := Aside0.mk hR
        by_cases hk2 : k < 64
        · have hlt : (k : Int) < 64 := by omega
          obtain ⟨v, hv⟩ := hR.cell steps k (Nat.le_refl _) hk2
          have hfr := hR.frozen
          clear hR
          go_wp2_with fail
          exact ⟨⟨k + 1, by go_num, HR.out.next hk2 (Nat.le_refl _)⟩, by simp [intOf]; omega⟩
        · have hge : ¬ (k : Int) < 64 := by omega
          have hk64 : k = 64 := by have := hR.1; omega
          subst hk64
          obtain ⟨v, hv⟩ := hR.cell steps 0 (Nat.le_refl _) (by omega)
          rw [Nat.add_zero] at hv
          have hfr := hR.frozen
          clear hR
          have hsub : wrap64 ((steps : Int) - 1) = (steps : Int) - 1 := by unfold wrap64; omega
          go_wp2_with fail
          go_loopw [11] (fun i wx => ∃ m : Nat, m ≤ steps ∧ i = .int .i64 ((m : Int) - 1) ∧ Fill9 wb (cv f n steps) steps m 64 wx) (fun i _ => (intOf i + 1).toNat)
          case atStart =>
            obtain ⟨_, ⟨A, h1, h2⟩, h3⟩ := HR.out
            exact ⟨steps, Nat.le_refl _, by go_num, Nat.le_refl _, ⟨_, blk_set h1 _ _, h2.start⟩, h3.setCell (Nat.le_refl _) _⟩
          case round =>
            obtain ⟨m, hm, rfl, hR2⟩ := hrel
            have HR2 := Aside0.mk hR2
            clear HR hv hfr hR2 hsub
            by_cases hm0 : m = 0
            · subst hm0
              clear hm
              obtain ⟨wz, hwz⟩ : ∃ wz : World, wz = wr := ⟨wr, rfl⟩
              subst hwz
              have hBz : Below w.heap.size w wz := HG.out.2.trans (HR2.out.2.2.mono HG.out.2.size)
              have HBZ := Aside0.mk hBz
              clear hBz
              go_wp2_with fail
              go_loopw [15, 16, 17] (fun o s i wx => ∃ t : Nat, i = .int .i64 t ∧ s = .int .i64 (sta f n steps t : Nat) ∧ t ≤ n ∧ (Kd.int .u8).R 5 wx wz.heap.size (fun _ => True) o (way f n steps t) ∧ Below wz.heap.size wz wx) (fun _ _ i _ => n - (intOf i).toNat)
              case atStart => exact ⟨0, rfl, rfl, Nat.zero_le _, Kd.R_nil _ _ _ _ _, Below.refl _ _⟩
              case round =>
                obtain ⟨t, rfl, rfl, htn1, hRr, hRb⟩ := hrel
                have HR := Aside0.mk (And.intro hRr hRb)
                clear hRr hRb
                by_cases htn : t < n
                · have hlt : (t : Int) < (n : Int) := by omega
                  have htl : t < steps := by omega
                  have hsl := sta_lt f n steps t
                  obtain ⟨x, hx⟩ : ∃ x, sta f n steps t = x := ⟨_, rfl⟩
                  rw [hx] at hsl
                  have HX := Aside0.mk hx
                  rw [hx]
                  have hxl : (x : Int) < 64 := by omega
                  obtain ⟨G, hG, hGk⟩ := HG.out.1
                  have hGw := below_cell_blk HR.out.2 (below_cell_blk HR2.out.2.2 hG)
                  have E := fun j hj v hv => graph9 hGw hGk x hsl j hj v hv
                  have E0 : wr.cell? ⟨w.heap.size, x * 14, none⟩ = some (.int .i64 (x : Int)) := E 0 (by decide) _ rfl
                  have E1 : wr.cell? ⟨w.heap.size, x * 14 + 1, none⟩ = some (.int .i64 ((x / 2 : Nat) : Int)) := E 1 (by decide) _ rfl
                  have E2 : wr.cell? ⟨w.heap.size, x * 14 + 2, none⟩ = some (.int .u8 0) := E 2 (by decide) _ rfl
                  have E3 : wr.cell? ⟨w.heap.size, x * 14 + 3, none⟩ = some (.int .u8 (ob x 0 : Nat)) := E 3 (by decide) _ rfl
                  have E4 : wr.cell? ⟨w.heap.size, x * 14 + 4, none⟩ = some (.int .u8 (ob x 1 : Nat)) := E 4 (by decide) _ rfl
                  have E5 : wr.cell? ⟨w.heap.size, x * 14 + 5, none⟩ = some (.int .u8 (ob x 2 : Nat)) := E 5 (by decide) _ rfl
                  have E6 : wr.cell? ⟨w.heap.size, x * 14 + 6, none⟩ = some (.int .u8 (ob x 3 : Nat)) := E 6 (by decide) _ rfl
                  obtain ⟨T, hT⟩ : ∃ T, x / 2 = T := ⟨_, rfl⟩
                  rw [hT] at E1
                  have HTT := Aside0.mk (And.intro hT (show T < 64 by omega))
                  clear hT hG hGw E
                  go_upto_region 35 with fail
                  obtain ⟨W0, hW0⟩ : ∃ W0, wr.alloc (.cells #[.int .i64 (x : Int), .int .i64 (T : Int), .int .u8 0, .int .u8 (ob x 0 : Nat), .int .u8 (ob x 1 : Nat), .int .u8 (ob x 2 : Nat), .int .u8 (ob x 3 : Nat)] 69) = W0 := ⟨_, rfl⟩
                  have hbox : W0.heap[wr.heap.size]? = some (.cells #[.int .i64 (x : Int), .int .i64 (T : Int), .int .u8 0, .int .u8 (ob x 0 : Nat), .int .u8 (ob x 1 : Nat), .int .u8 (ob x 2 : Nat), .int .u8 (ob x 3 : Nat)] 69 (0, 0)) := by rw [← hW0]; exact heap_alloc_new wr _
                  have hB0 : Below wz.heap.size wz W0 := by rw [← hW0]; exact below_alloc HR.out.2 _
                  have hsz : W0.heap.size = wr.heap.size + 1 := by rw [← hW0]; simp
                  have hRw : (Kd.int .u8).R 5 W0 wz.heap.size (fun k => k ≠ wr.heap.size) u15 (way f n steps t) := by
                    refine Kd.R_step (Kd.R_mono (Kd.R_bound HR.out.1) (fun k hk => Nat.ne_of_lt hk.2.2.1)) (fun k _ hk => ?_)
                    rw [← hW0]
                    exact Below.heap_alloc wr _ k hk
                  rw [hW0]
                  obtain ⟨V1, hV1⟩ : ∃ V1, cv f n steps (t + 1) T = V1 := ⟨_, rfl⟩
                  obtain ⟨G1, hG1⟩ : ∃ G1, ge f t x 0 = G1 := ⟨_, rfl⟩
                  obtain ⟨C1, hC1⟩ : ∃ C1, cv f n steps t x = C1 := ⟨_, rfl⟩
                  have hV1in := cv_in (n := n) (u := t + 1) (s := T) HH.out.2.1 hs41
                  have hG1in := ge_in HH.out.2.1 t x 0
                  have hV1n : ¬ V1 = none40 := by
                    rw [← hV1, ← HH.out.2.2.2.2.2]
                    exact (cv_best HH.out.2.1 hn (n - (t + 1)) (t + 1) T (by omega) HTT.out.2).2.2.1
                  rw [hV1] at hV1in
                  rw [hG1] at hG1in
                  obtain ⟨A, hA1, hA2⟩ := HR2.out.2.1
                  have k1 : W0.cell? ⟨wb.heap.size, (t + 1) * 64 + T, none⟩ = some (.int .i64 V1) := by
                    rw [← hV1]
                    exact cell9 hA1 hA2 hB0 (by omega) HTT.out.2
                  have k2 : W0.cell? ⟨wb.heap.size, t * 64 + x, none⟩ = some (.int .i64 C1) := by
                    rw [← hC1]
                    exact cell9 hA1 hA2 hB0 (by omega) hsl
                  have hgv : IntKind.i64.wrap (G1 + V1) = G1 + V1 := IntWalk.i64_in _ (gv_in hV1in hG1in)
                  have hgn : ∀ W : World, Below w.heap.size w W → Calls Tryd.prog 68 #[.slice (some ⟨lb, lo + 4 * t, none⟩) 4 (c - 4 * t), .agg #[.int .i64 (x : Int), .int .i64 (T : Int), .int .u8 0, .int .u8 (ob x 0 : Nat), .int .u8 (ob x 1 : Nat), .int .u8 (ob x 2 : Nat), .int .u8 (ob x 3 : Nat)]] W fun e w' => e = .returned (.int .i64 G1) ∧ Below W.heap.size W w' := fun W hW => by
                    have h := gain_at (i := 0) (k := x) (T := T) (c := c) HH.out.2.1 HH.out.1 hW htl hc (by have := HTT.out.1; omega)
                    rw [hG1] at h
                    exact h
                  have hdec : decide (V1 ≤ -549755813888) = false := near_none hV1in hV1n
                  have HS := Aside0.mk (And.intro hV1 (And.intro hG1 (And.intro hC1 (And.intro hV1n (And.intro hbox (And.intro hB0 (And.intro hsz hRw)))))))
                  have HIN := Aside0.mk hV1in
                  have hw0 := HBZ.out.trans (hB0.mono HBZ.out.size)
                  have HW0 := Aside0.mk hw0
                  clear hV1 hG1 hC1 hV1n hW0 hV1in hG1in hA1 hA2 hsz hRw hw0 E0 E1 E2 E3 E4 E5 E6
                  refine reg35b htl hs41 hc hsl HTT.out.2 hbox k1 k2 hgv hdec (fun q => hgn _ (pw_below_drewN HW0.out q)) _ _ _ _ _ _ _ _ _ _ _ _ _ _ _ _ _ _ _ _ _ _ _ _ _ _ _ _ _ _ _ _ _ _ _ _ _ _ _ _ _ _ _ _ _ _ _ _ _ _ _ _ _ _ _ _ _ _ _ _ _ _ _ _ _ _ _ _ _ _ _ _ _ _ _ _ _ _ _ _ _ _ _ _ _ _ _ _ _ _ _ _ _ _ _ _ _ _ _ _ _ _ _ _ _ _ _ _ _ _ _ _ _ _ _ _ _ _ _ _ _ _ _ _ _ _ _ _ _ _ _ _ _ _ _ _ _ _ _ _ _ _ _ _ _ _ _ _ _ _ _ _ _ _ _ _ _ _ _ _ _ _ _ _ _ _ _ _ _ _ _ _ _ _ _ _ _ _ _ _ _ _ ?_
                  clear hgn hdec hgv k1 k2 hbox hB0
                  intro v134 v135 v136 v137 v138 v139 v140 v141 v142 v143 v144 v145 v146 v147 v148 v149 v150 v151 v152 v153 v154 v155 v156 v157 v158 v159 v160 v161 v162 v163 v164 v165 v166 v167 v168 v169 v170 v171 w2 hB2 h171
                  subst h171
                  have HB2 := Aside0.mk hB2
                  have hwcb := below_cell_blk hB2 HS.out.2.2.2.2.1
                  have hBw2 : Below wz.heap.size wz w2 := HS.out.2.2.2.2.2.1.trans (hB2.mono HS.out.2.2.2.2.2.1.size)
                  have hRc : (Kd.int .u8).R 5 w2 wz.heap.size (fun k => k ≠ wr.heap.size) u15 (way f n steps t) := Kd.R_below HS.out.2.2.2.2.2.2.2 hB2
                  have HWC := Aside0.mk (And.intro hwcb (And.intro hBw2 hRc))
                  clear hB2 hwcb hBw2 hRc
                  by_cases hsc : G1 + V1 = C1
                  · have hd : (G1 + V1 != C1) = false := by simp [hsc]
                    have HP := Aside0.mk hsc
                    rw [hd]
                    clear hsc hd
                    obtain ⟨WX, hWX⟩ : ∃ WX, w2 = WX := ⟨_, rfl⟩
                    have X1 : WX.cell? ⟨wr.heap.size, 1, none⟩ = some (.int .i64 (T : Int)) := by rw [← hWX]; exact blk_cell HWC.out.1 1
                    have X2 : WX.cell? ⟨wr.heap.size, 2, none⟩ = some (.int .u8 0) := by rw [← hWX]; exact blk_cell HWC.out.1 2
                    have SX : wr.heap.size < WX.heap.size := by rw [← hWX]; exact blk_lt HWC.out.1
                    have RX := HWC.out.2.2
                    have BX := HWC.out.2.1
                    rw [hWX] at RX BX
                    rw [hWX]
                    clear hWX
                    obtain ⟨P, hP⟩ : ∃ P : Int, 0 = P := ⟨_, rfl⟩
                    have HPV := Aside0.mk hP
                    rw [hP] at X2
                    clear hP
                    have HX12 := Aside0.mk (And.intro X1 (And.intro X2 (And.intro SX (And.intro RX BX))))
                    clear X1 SX RX BX
                    go_wp2_with (first | ((with_reducible refine gate_builtin (b := .append) (xs := #[.tmp 176, .tmp 179]) rfl ?_); at_builtin; refine Kd.R_append (Kd.int .u8) (w0 := wz) wz.heap.size rfl (.tmp 176) (.tmp 179) 22 5 (.int .u8 0) 1 rfl Tryd.underlying22 info5 rfl (by decide) (by omega) u15 (way f n steps t) P [.int .u8 P] (fun k => k ≠ wr.heap.size) (fun _ => False) rfl rfl ?aP (fun _ hk => hk.elim) ?aF ?aO ?aB ?aS ?aL ?_; (case aP => exact rfl); (case aB => exact HX12.out.2.2.2.2); (case aF => exact (fun k hk => by have := HX12.out.2.2.1; omega)); (case aO => exact HX12.out.2.2.2.1); (case aS => exact below_size HX12.out.2.2.2.2); (case aL => rw [way_len]; omega); intro v1 w7 ho hb hg hat; have k1 := cell_of_grown HX12.out.1 hg (fun h => HX12.out.2.2.2.1.1 _ h.symm rfl); have HN := Aside0.mk (And.intro ho hb); clear ho hb hg hat))
                    have hp : pick f n steps t x = 0 := by rw [pick_is HTT.out.1 HS.out.1 HS.out.2.1 HS.out.2.2.1 HS.out.2.2.2.1 HIN.out HH.out.2.1, if_pos HP.out]
                    have hst : sta f n steps (t + 1) = T := by
                      show (sta f n steps t + 64 * pick f n steps t (sta f n steps t)) / 2 = _
                      rw [HX.out, hp]
                      exact HTT.out.1
                    have hwy : way f n steps (t + 1) = way f n steps t ++ [P] := by
                      rw [way_next, HX.out, hp, ← HPV.out]
                      rfl
                    refine ⟨?_, by simp [intOf]; omega⟩
                    (repeat apply Exists.intro)
                    refine ⟨?_, rfl⟩
                    refine ⟨t + 1, by go_num, ?_, by omega, ?_, HN.out.2⟩
                    · rw [hst]
                    · rw [hwy]; exact Kd.R_mono HN.out.1 (fun _ _ => trivial)
                  · have hd : (G1 + V1 != C1) = true := by simp [hsc]
                    have HP := Aside0.mk hsc
                    rw [hd]
                    clear hsc hd
                    have hGw := below_cell_blk HWC.out.2.1 (below_cell_blk HR2.out.2.2 HG.out.1.choose_spec.1)
                    have E := fun j hj v hv => graph9 hGw HG.out.1.choose_spec.2 x hsl j hj v hv
                    have E7 : w2.cell? ⟨w.heap.size, x * 14 + 7, none⟩ = some (.int .i64 (x : Int)) := E 7 (by decide) _ rfl
                    have E8 : w2.cell? ⟨w.heap.size, x * 14 + 7 + 1, none⟩ = some (.int .i64 (((x + 64) / 2 : Nat) : Int)) := E 8 (by decide) _ rfl
                    have E9 : w2.cell? ⟨w.heap.size, x * 14 + 7 + 2, none⟩ = some (.int .u8 1) := E 9 (by decide) _ rfl
                    have E10 : w2.cell? ⟨w.heap.size, x * 14 + 7 + 3, none⟩ = some (.int .u8 (ob (x + 64) 0 : Nat)) := E 10 (by decide) _ rfl
                    have E11 : w2.cell? ⟨w.heap.size, x * 14 + 7 + 4, none⟩ = some (.int .u8 (ob (x + 64) 1 : Nat)) := E 11 (by decide) _ rfl
                    have E12 : w2.cell? ⟨w.heap.size, x * 14 + 7 + 5, none⟩ = some (.int .u8 (ob (x + 64) 2 : Nat)) := E 12 (by decide) _ rfl
                    have E13 : w2.cell? ⟨w.heap.size, x * 14 + 7 + 6, none⟩ = some (.int .u8 (ob (x + 64) 3 : Nat)) := E 13 (by decide) _ rfl
                    obtain ⟨T2, hT2⟩ : ∃ T2, (x + 64) / 2 = T2 := ⟨_, rfl⟩
                    rw [hT2] at E8
                    have HT2 := Aside0.mk hT2
                    have M := fun j => blk_cell (i := j) HWC.out.1
                    have M0 : w2.cell? ⟨wr.heap.size, 0, none⟩ = _ := M 0
                    have M1 : w2.cell? ⟨wr.heap.size, 1, none⟩ = _ := M 1
                    have M2 : w2.cell? ⟨wr.heap.size, 2, none⟩ = _ := M 2
                    have M3 : w2.cell? ⟨wr.heap.size, 3, none⟩ = _ := M 3
                    have M4 : w2.cell? ⟨wr.heap.size, 4, none⟩ = _ := M 4
                    have M5 : w2.cell? ⟨wr.heap.size, 5, none⟩ = _ := M 5
                    have M6 : w2.cell? ⟨wr.heap.size, 6, none⟩ = _ := M 6
                    have F := fun j => blk_frozen HWC.out.1 j
                    have F0 : w2.frozen? ⟨wr.heap.size, 0, none⟩ = false := F 0
                    have F1 : w2.frozen? ⟨wr.heap.size, 1, none⟩ = false := F 1
                    have F2 : w2.frozen? ⟨wr.heap.size, 2, none⟩ = false := F 2
                    have F3 : w2.frozen? ⟨wr.heap.size, 3, none⟩ = false := F 3
                    have F4 : w2.frozen? ⟨wr.heap.size, 4, none⟩ = false := F 4
                    have F5 : w2.frozen? ⟨wr.heap.size, 5, none⟩ = false := F 5
                    have F6 : w2.frozen? ⟨wr.heap.size, 6, none⟩ = false := F 6
                    clear E M F hGw hT2
                    go_upto_region 37 with fail
                    obtain ⟨WX, hWX⟩ : ∃ WX, ((((((w2.setCell ⟨wr.heap.size, 0, none⟩ (.int .i64 (x : Int))).setCell ⟨wr.heap.size, 1, none⟩ (.int .i64 (T2 : Int))).setCell ⟨wr.heap.size, 2, none⟩ (.int .u8 1)).setCell ⟨wr.heap.size, 3, none⟩ (.int .u8 (ob (x + 64) 0 : Nat))).setCell ⟨wr.heap.size, 4, none⟩ (.int .u8 (ob (x + 64) 1 : Nat))).setCell ⟨wr.heap.size, 5, none⟩ (.int .u8 (ob (x + 64) 2 : Nat))).setCell ⟨wr.heap.size, 6, none⟩ (.int .u8 (ob (x + 64) 3 : Nat)) = WX := ⟨_, rfl⟩
                    have X1 : WX.cell? ⟨wr.heap.size, 1, none⟩ = some (.int .i64 (T2 : Int)) := by subst hWX; go_simp
                    have X2 : WX.cell? ⟨wr.heap.size, 2, none⟩ = some (.int .u8 1) := by subst hWX; go_simp
                    have SX : wr.heap.size < WX.heap.size := by rw [← hWX]; simpa using blk_lt HWC.out.1
                    have RX : (Kd.int .u8).R 5 WX wz.heap.size (fun k => k ≠ wr.heap.size) u15 (way f n steps t) := by
                      rw [← hWX]
                      exact Kd.R_far (Kd.R_far (Kd.R_far (Kd.R_far (Kd.R_far (Kd.R_far (Kd.R_far HWC.out.2.2 (fun _ h => h) _) (fun _ h => h) _) (fun _ h => h) _) (fun _ h => h) _) (fun _ h => h) _) (fun _ h => h) _) (fun _ h => h) _
                    have BX : Below wz.heap.size wz WX := by
                      have hle := below_size HR.out.2
                      rw [← hWX]
                      exact (((((((HWC.out.2.1).setCell hle _).setCell hle _).setCell hle _).setCell hle _).setCell hle _).setCell hle _).setCell hle _
                    rw [hWX]
                    clear hWX F0 F1 F2 F3 F4 F5 F6 M0 M1 M2 M3 M4 M5 M6 E7 E8 E9 E10 E11 E12 E13
                    obtain ⟨P, hP⟩ : ∃ P : Int, 1 = P := ⟨_, rfl⟩
                    have HPV := Aside0.mk hP
                    rw [hP] at X2
                    clear hP
                    have HX12 := Aside0.mk (And.intro X1 (And.intro X2 (And.intro SX (And.intro RX BX))))
                    clear X1 SX RX BX
                    go_wp2_with (first | ((with_reducible refine gate_builtin (b := .append) (xs := #[.tmp 176, .tmp 179]) rfl ?_); at_builtin; refine Kd.R_append (Kd.int .u8) (w0 := wz) wz.heap.size rfl (.tmp 176) (.tmp 179) 22 5 (.int .u8 0) 1 rfl Tryd.underlying22 info5 rfl (by decide) (by omega) u15 (way f n steps t) P [.int .u8 P] (fun k => k ≠ wr.heap.size) (fun _ => False) rfl rfl ?aP (fun _ hk => hk.elim) ?aF ?aO ?aB ?aS ?aL ?_; (case aP => exact rfl); (case aB => exact HX12.out.2.2.2.2); (case aF => exact (fun k hk => by have := HX12.out.2.2.1; omega)); (case aO => exact HX12.out.2.2.2.1); (case aS => exact below_size HX12.out.2.2.2.2); (case aL => rw [way_len]; omega); intro v1 w7 ho hb hg hat; have k1 := cell_of_grown HX12.out.1 hg (fun h => HX12.out.2.2.2.1.1 _ h.symm rfl); have HN := Aside0.mk (And.intro ho hb); clear ho hb hg hat))
                    have hp : pick f n steps t x = 1 := by rw [pick_is HTT.out.1 HS.out.1 HS.out.2.1 HS.out.2.2.1 HS.out.2.2.2.1 HIN.out HH.out.2.1, if_neg HP.out]
                    have hst : sta f n steps (t + 1) = T2 := by
                      show (sta f n steps t + 64 * pick f n steps t (sta f n steps t)) / 2 = _
                      rw [HX.out, hp]
                      exact HT2.out
                    have hwy : way f n steps (t + 1) = way f n steps t ++ [P] := by
                      rw [way_next, HX.out, hp, ← HPV.out]
                      rfl
                    refine ⟨?_, by simp [intOf]; omega⟩
                    (repeat apply Exists.intro)
                    refine ⟨?_, rfl⟩
                    refine ⟨t + 1, by go_num, ?_, by omega, ?_, HN.out.2⟩
                    · rw [hst]
                    · rw [hwy]; exact Kd.R_mono HN.out.1 (fun _ _ => trivial)
                · have hge : ¬ (t : Int) < (n : Int) := by omega
                  obtain rfl : t = n := by omega
                  obtain ⟨A, hA1, hA2⟩ := HR2.out.2.1
                  have k0 : wr.cell? ⟨wb.heap.size, 0, none⟩ = some (.int .i64 S0) := by
                    rw [← HH.out.2.2.1]
                    have h := cell9 (u := 0) (s := 0) hA1 hA2 HR.out.2 (by omega) (by omega)
                    rw [Nat.zero_mul] at h
                    exact h
                  have hs0 : (0 : Int) < (steps : Int) + 1 := by omega
                  have HK := Aside0.mk (And.intro (HBZ.out.trans (HR.out.2.mono HBZ.out.size)) (And.intro HH.out.2.2.2.1 HBZ.out.size))
                  clear hA1 hA2
                  go_wp2_with fail
                  go_quiet (fail)
                  go_wp2_with fail
                  go_ret2
                  refine ⟨u15, rfl, ?_, pw_below_drewN HK.out.1 _⟩
                  rw [← HK.out.2.1]
                  exact Kd.R_drewN (Kd.R_lower HR.out.1 HK.out.2.2) _
            · obtain ⟨t, rfl⟩ : ∃ t, m = t + 1 := ⟨m - 1, by omega⟩
              have htt : ((t + 1 : Nat) : Int) - 1 = (t : Int) := by omega
              rw [htt]
              have ht1 : (t : Int) < (steps : Int) + 1 := by omega
              have ht2 : (t : Int) + 1 < (steps : Int) + 1 := by omega
              have htl : t < steps := by omega
              have hsub : wrap64 ((t : Int) - 1) = (t : Int) - 1 := wrap64_in _ (by omega) (by omega)
              go_wp2_with fail
              go_loopw [12] (fun i wx => ∃ k : Nat, i = .int .i64 k ∧ Fill9 wb (cv f n steps) steps t k wx) (fun i _ => 64 - (intOf i).toNat)
              case atStart => exact ⟨0, rfl, by omega, (match HR2.out.2.1 with | ⟨A, h1, h2⟩ => ⟨A, h1, h2.down hm⟩), HR2.out.2.2⟩
              case round =>
                obtain ⟨k, rfl, hR⟩ := hrel
                have HR := Aside0.mk hR
                by_cases hk3 : k < 64
                · have hlt : (k : Int) < 64 := by omega
                  have g0 : k / 2 < 64 := by omega
                  have g0' : ((k / 2 : Nat) : Int) < 64 := by omega
                  have g1 : (k + 64) / 2 < 64 := by omega
                  have g1' : (((k + 64) / 2 : Nat) : Int) < 64 := by omega
                  have gt0 : (k + 64 * 0) / 2 = k / 2 := by omega
                  have gt1 : (k + 64 * 1) / 2 = (k + 64) / 2 := by omega
                  have htI : -9223372036854775808 ≤ (t : Int) + 1 ∧ (t : Int) + 1 ≤ 9223372036854775807 := by omega
                  have HGT := Aside0.mk (And.intro g0 (And.intro g0' (And.intro g1 (And.intro g1' (And.intro gt0 (And.intro gt1 htI))))))
                  clear g0 g0' g1 g1' gt0 gt1 htI
                  obtain ⟨v, hv⟩ := hR.cell t k (by omega) hk3
                  have hfr := hR.frozen
                  clear hR
                  go_wp2_with fail
                  go_loopw [13] (fun j wx => ∃ i : Nat, j = .int .i64 i ∧ i ≤ 2 ∧ Cur9 wb (cv f n steps) steps t k (curv f n steps t k i) wx) (fun j _ => 2 - (intOf j).toNat)
                  case atStart => exact ⟨0, rfl, by omega, Cur9.start HR.out hk3 (by omega) none40⟩
                  case round =>
                    obtain ⟨i, rfl, hi, hCu⟩ := hrel
                    have HCu := Aside0.mk hCu
                    clear hCu hv hfr
                    by_cases hi2 : i = 2
                    · subst hi2
                      have HF := Aside0.mk (HCu.out.done hk3 rfl)
                      go_wp2_with fail
                      exact ⟨⟨k + 1, by go_num, HF.out⟩, by simp only [intOf]; omega⟩
                    · by_cases hi0 : i = 0
                      · subst hi0
/-ARM0-/
                        obtain ⟨G, hG, hGk⟩ := HG.out.1
                        have hGw := below_cell_blk HCu.out.2 hG
                        have E := fun j hj v hv => graph9 hGw hGk k hk3 j hj v hv
                        obtain ⟨T, hT⟩ : ∃ T, k / 2 = T := ⟨_, rfl⟩
                        have hT64 := HGT.out.1
                        have hT64' := HGT.out.2.1
                        have hTT := half0 hT
                        rw [hT] at hT64 hT64'
                        have E0 : wr.cell? ⟨w.heap.size, k * 14, none⟩ = some (.int .i64 (k : Int)) := E 0 (by decide) _ rfl
                        have E1 : wr.cell? ⟨w.heap.size, k * 14 + 1, none⟩ = some (.int .i64 ((k / 2 : Nat) : Int)) := E 1 (by decide) _ rfl
                        have E2 : wr.cell? ⟨w.heap.size, k * 14 + 2, none⟩ = some (.int .u8 0) := E 2 (by decide) _ rfl
                        have E3 : wr.cell? ⟨w.heap.size, k * 14 + 3, none⟩ = some (.int .u8 (ob k 0 : Nat)) := E 3 (by decide) _ rfl
                        have E4 : wr.cell? ⟨w.heap.size, k * 14 + 4, none⟩ = some (.int .u8 (ob k 1 : Nat)) := E 4 (by decide) _ rfl
                        have E5 : wr.cell? ⟨w.heap.size, k * 14 + 5, none⟩ = some (.int .u8 (ob k 2 : Nat)) := E 5 (by decide) _ rfl
                        have E6 : wr.cell? ⟨w.heap.size, k * 14 + 6, none⟩ = some (.int .u8 (ob k 3 : Nat)) := E 6 (by decide) _ rfl
                        rw [hT] at E1
                        obtain ⟨V1, hV1⟩ : ∃ V1, cv f n steps (t + 1) T = V1 := ⟨_, rfl⟩
                        obtain ⟨G1, hG1⟩ : ∃ G1, ge f t k 0 = G1 := ⟨_, rfl⟩
                        obtain ⟨C0, hC0⟩ : ∃ C0, curv f n steps t k 0 = C0 := ⟨_, rfl⟩
                        have hV1in := cv_in (n := n) (u := t + 1) (s := T) HH.out.2.1 hs41
                        have hG1in := ge_in HH.out.2.1 t k 0
                        rw [hV1] at hV1in
                        rw [hG1] at hG1in
                        have hnx : curv f n steps t k 1 = stp C0 G1 V1 := by rw [← hC0, ← hG1, ← hV1, ← hT]; exact curv_one f n steps t k
                        have hgn : ∀ W : World, Below w.heap.size w W → Calls Tryd.prog 68 #[.slice (some ⟨lb, lo + 4 * t, none⟩) 4 (c - 4 * t), .agg #[.int .i64 (k : Int), .int .i64 (T : Int), .int .u8 0, .int .u8 (ob k 0 : Nat), .int .u8 (ob k 1 : Nat), .int .u8 (ob k 2 : Nat), .int .u8 (ob k 3 : Nat)]] W fun e w' => e = .returned (.int .i64 G1) ∧ Below W.heap.size W w' := fun W hW => by
                          have h := gain_at (i := 0) (k := k) (T := T) (c := c) HH.out.2.1 HH.out.1 hW htl hc hTT
                          rw [hG1] at h
                          exact h
                        have HC0 := Aside0.mk hC0
                        have hCu0 := HCu.out.below (w2 := wr.alloc (.cells #[.int .i64 (k : Int), .int .i64 (T : Int), .int .u8 0, .int .u8 (ob k 0 : Nat), .int .u8 (ob k 1 : Nat), .int .u8 (ob k 2 : Nat), .int .u8 (ob k 3 : Nat)] 69)) (below_alloc (Below.refl _ _) _)
                        rw [hC0] at hCu0
                        have hbox := heap_alloc_new wr (.cells #[.int .i64 (k : Int), .int .i64 (T : Int), .int .u8 0, .int .u8 (ob k 0 : Nat), .int .u8 (ob k 1 : Nat), .int .u8 (ob k 2 : Nat), .int .u8 (ob k 3 : Nat)] 69)
                        have HX := Aside0.mk (And.intro hT (And.intro hV1 (And.intro hnx (And.intro hgn (And.intro hCu0 (And.intro hbox (And.intro hV1in hG1in)))))))
                        clear hG hGk hGw E hT hV1 hG1 hC0 hnx hgn hCu0 hbox hV1in hG1in
                        go_upto_region 27 with fail
                        obtain ⟨W0, hW0⟩ : ∃ W0, wr.alloc (.cells #[.int .i64 (k : Int), .int .i64 (T : Int), .int .u8 0, .int .u8 (ob k 0 : Nat), .int .u8 (ob k 1 : Nat), .int .u8 (ob k 2 : Nat), .int .u8 (ob k 3 : Nat)] 69) = W0 := ⟨_, rfl⟩
                        have HX2 := HX.out
                        rw [hW0] at HX2 ⊢
                        obtain ⟨B, hBd⟩ : ∃ B, decide (-549755813888 < V1) = B := ⟨_, rfl⟩
                        have HBB := Aside0.mk hBd
                        have HM1 := Aside0.mk (And.intro (blk_cell HX2.2.2.2.2.2.1 1) (And.intro (HX2.2.2.2.2.1.next htl T hT64) HX2.2.1))
                        have HY := Aside0.mk HX2
                        clear hBd hTT HX HX2 hW0 E0 E1 E2 E3 E4 E5 E6
                        go_cut [94] from 84 to 94 (fun s94 wx => s94 = .bool B ∧ ∃ q, wx = W0.drewN q)
                        case first =>
                          have hdec := HBB.out
                          have M1 : W0.cell? ⟨wr.heap.size, 1, none⟩ = some (.int .i64 (T : Int)) := HM1.out.1
                          have k1 := HM1.out.2.1
                          rw [HM1.out.2.2] at k1
                          have q5 := t1_nonneg t
                          have q6 := t1_toNat t
                          have hadd : wrap64 ((t : Int) + 1) = (t : Int) + 1 := wrap64_in _ HGT.out.2.2.2.2.2.2.1 HGT.out.2.2.2.2.2.2.2
                          have hadd2 : IntKind.i64.wrap ((t : Int) + 1) = (t : Int) + 1 := IntWalk.i64_in _ HGT.out.2.2.2.2.2.2
                          clear HBB HM1
                          go_quiet (fail)
                          go_wp2_with fail
                          go_meet
                          exact ⟨rfl, _, rfl⟩
                        case rest =>
                          obtain ⟨rfl, q, hq⟩ := hcut
                          obtain ⟨W1, hW1⟩ : ∃ W1, wc = W1 := ⟨_, rfl⟩
                          rw [hW1] at hq ⊢
                          have hCu1 : Cur9 wb (cv f n steps) steps t k C0 W1 := by rw [hq]; exact HY.out.2.2.2.2.1.below (pw_below_drewN (Below.refl _ _) q)
                          have hb1 : W1.heap[wr.heap.size]? = some (.cells #[.int .i64 (k : Int), .int .i64 (T : Int), .int .u8 0, .int .u8 (ob k 0 : Nat), .int .u8 (ob k 1 : Nat), .int .u8 (ob k 2 : Nat), .int .u8 (ob k 3 : Nat)] 69 (0, 0)) := by rw [hq]; exact HY.out.2.2.2.2.2.1
                          have HC1 := Aside0.mk (And.intro hCu1 (And.intro hb1 (HG.out.2.trans (hCu1.2.mono HG.out.2.size))))
                          clear hW1 hq hCu1 hb1
                          by_cases hV : V1 = none40
                          · obtain rfl : B = false := by rw [← HBB.out, hV]; exact at_none
                            have HV := Aside0.mk hV
                            clear hV
                            go_wp2_with fail
                            refine ⟨⟨1, by go_num, by omega, ?_⟩, by simp only [intOf]; omega⟩
                            rw [HY.out.2.2.1, stp_none HV.out]
                            exact HC1.out.1
                          · obtain rfl : B = true := by rw [← HBB.out]; exact far_none HY.out.2.2.2.2.2.2.1 hV
                            have HV := Aside0.mk hV
                            clear hV
                            go_upto_region 28 with fail
                            have M0 : W1.cell? ⟨wr.heap.size, 0, none⟩ = some (.int .i64 (k : Int)) := blk_cell HC1.out.2.1 0
                            have M1 : W1.cell? ⟨wr.heap.size, 1, none⟩ = some (.int .i64 (T : Int)) := blk_cell HC1.out.2.1 1
                            have M2 : W1.cell? ⟨wr.heap.size, 2, none⟩ = some (.int .u8 0) := blk_cell HC1.out.2.1 2
                            have M3 : W1.cell? ⟨wr.heap.size, 3, none⟩ = some (.int .u8 (ob k 0 : Nat)) := blk_cell HC1.out.2.1 3
                            have M4 : W1.cell? ⟨wr.heap.size, 4, none⟩ = some (.int .u8 (ob k 1 : Nat)) := blk_cell HC1.out.2.1 4
                            have M5 : W1.cell? ⟨wr.heap.size, 5, none⟩ = some (.int .u8 (ob k 2 : Nat)) := blk_cell HC1.out.2.1 5
                            have M6 : W1.cell? ⟨wr.heap.size, 6, none⟩ = some (.int .u8 (ob k 3 : Nat)) := blk_cell HC1.out.2.1 6
                            have k1 := HC1.out.1.next htl T hT64
                            rw [HY.out.2.1] at k1
                            obtain ⟨k2, k3⟩ := HC1.out.1.here
                            have hgv : IntKind.i64.wrap (G1 + V1) = G1 + V1 := IntWalk.i64_in _ (gv_in HY.out.2.2.2.2.2.2.1 HY.out.2.2.2.2.2.2.2)
                            refine reg28 htl hs41 hc hk3 hT64 HC1.out.2.1 k1 k2 k3 hgv (fun q => HY.out.2.2.2.1 _ (pw_below_drewN HC1.out.2.2 q)) _ _ _ _ _ _ _ _ _ _ _ _ _ _ _ _ _ _ _ _ _ _ _ _ _ _ _ _ _ _ _ _ _ _ _ _ _ _ _ _ _ _ _ _ _ _ _ _ _ _ _ _ _ _ _ _ _ _ _ _ _ _ _ _ _ _ _ _ _ _ _ _ _ _ _ _ _ _ _ _ _ _ _ _ _ _ _ _ _ _ _ _ _ _ _ _ _ _ _ _ _ _ _ _ _ _ _ _ _ _ _ _ _ _ _ _ _ _ _ _ _ _ _ _ _ _ _ _ _ _ _ _ _ _ _ _ _ _ _ _ _ _ _ _ _ _ _ _ _ _ _ _ _ _ _ _ _ _ _ _ _ _ _ _ _ _ _ _ _ _ _ _ _ _ _ _ _ _ _ _ _ _ _ ?_
                            intro v95 v96 v97 v98 v99 v100 v101 v102 v103 v104 v105 v106 v107 v108 v109 v110 v111 v112 v113 v114 v115 v116 v117 v118 v119 v120 v121 v122 v123 v124 w2 hB2
                            have hF := (HC1.out.1.below hB2).put hk3 (Nat.le_of_lt htl) (if C0 < G1 + V1 then G1 + V1 else C0)
                            have HF := Aside0.mk hF
                            clear hF hB2 hgv k1 k2 k3 M0 M1 M2 M3 M4 M5 M6
                            go_wp2_with fail
                            refine ⟨⟨1, by go_num, by omega, ?_⟩, by simp only [intOf]; omega⟩
                            rw [HY.out.2.2.1, stp_some HV.out, max_if]
                            exact HF.out
/-END0-/
                      · obtain rfl : i = 1 := by omega
                        by_cases htn : t < n
                        · have htn' : ¬ (n : Int) ≤ (t : Int) := by omega
/-ARM1-/
                          obtain ⟨G, hG, hGk⟩ := HG.out.1
                          have hGw := below_cell_blk HCu.out.2 hG
                          have E := fun j hj v hv => graph9 hGw hGk k hk3 j hj v hv
                          obtain ⟨T, hT⟩ : ∃ T, (k + 64) / 2 = T := ⟨_, rfl⟩
                          have hT64 := HGT.out.2.2.1
                          have hT64' := HGT.out.2.2.2.1
                          have hTT := half1 hT
                          rw [hT] at hT64 hT64'
                          have E0 : wr.cell? ⟨w.heap.size, k * 14 + 7, none⟩ = some (.int .i64 (k : Int)) := E 7 (by decide) _ rfl
                          have E1 : wr.cell? ⟨w.heap.size, k * 14 + 7 + 1, none⟩ = some (.int .i64 (((k + 64) / 2 : Nat) : Int)) := E 8 (by decide) _ rfl
                          have E2 : wr.cell? ⟨w.heap.size, k * 14 + 7 + 2, none⟩ = some (.int .u8 1) := E 9 (by decide) _ rfl
                          have E3 : wr.cell? ⟨w.heap.size, k * 14 + 7 + 3, none⟩ = some (.int .u8 (ob (k + 64) 0 : Nat)) := E 10 (by decide) _ rfl
                          have E4 : wr.cell? ⟨w.heap.size, k * 14 + 7 + 4, none⟩ = some (.int .u8 (ob (k + 64) 1 : Nat)) := E 11 (by decide) _ rfl
                          have E5 : wr.cell? ⟨w.heap.size, k * 14 + 7 + 5, none⟩ = some (.int .u8 (ob (k + 64) 2 : Nat)) := E 12 (by decide) _ rfl
                          have E6 : wr.cell? ⟨w.heap.size, k * 14 + 7 + 6, none⟩ = some (.int .u8 (ob (k + 64) 3 : Nat)) := E 13 (by decide) _ rfl
                          rw [hT] at E1
                          obtain ⟨V1, hV1⟩ : ∃ V1, cv f n steps (t + 1) T = V1 := ⟨_, rfl⟩
                          obtain ⟨G1, hG1⟩ : ∃ G1, ge f t k 1 = G1 := ⟨_, rfl⟩
                          obtain ⟨C0, hC0⟩ : ∃ C0, curv f n steps t k 1 = C0 := ⟨_, rfl⟩
                          have hV1in := cv_in (n := n) (u := t + 1) (s := T) HH.out.2.1 hs41
                          have hG1in := ge_in HH.out.2.1 t k 1
                          rw [hV1] at hV1in
                          rw [hG1] at hG1in
                          have hnx : curv f n steps t k 2 = stp C0 G1 V1 := by rw [← hC0, ← hG1, ← hV1, ← hT]; exact curv_two htl htn
                          have hgn : ∀ W : World, Below w.heap.size w W → Calls Tryd.prog 68 #[.slice (some ⟨lb, lo + 4 * t, none⟩) 4 (c - 4 * t), .agg #[.int .i64 (k : Int), .int .i64 (T : Int), .int .u8 1, .int .u8 (ob (k + 64) 0 : Nat), .int .u8 (ob (k + 64) 1 : Nat), .int .u8 (ob (k + 64) 2 : Nat), .int .u8 (ob (k + 64) 3 : Nat)]] W fun e w' => e = .returned (.int .i64 G1) ∧ Below W.heap.size W w' := fun W hW => by
                            have h := gain_at (i := 1) (k := k) (T := T) (c := c) HH.out.2.1 HH.out.1 hW htl hc hTT
                            rw [hG1] at h
                            exact h
                          have HC0 := Aside0.mk hC0
                          have hCu0 := HCu.out.below (w2 := wr.alloc (.cells #[.int .i64 (k : Int), .int .i64 (T : Int), .int .u8 1, .int .u8 (ob (k + 64) 0 : Nat), .int .u8 (ob (k + 64) 1 : Nat), .int .u8 (ob (k + 64) 2 : Nat), .int .u8 (ob (k + 64) 3 : Nat)] 69)) (below_alloc (Below.refl _ _) _)
                          rw [hC0] at hCu0
                          have hbox := heap_alloc_new wr (.cells #[.int .i64 (k : Int), .int .i64 (T : Int), .int .u8 1, .int .u8 (ob (k + 64) 0 : Nat), .int .u8 (ob (k + 64) 1 : Nat), .int .u8 (ob (k + 64) 2 : Nat), .int .u8 (ob (k + 64) 3 : Nat)] 69)
                          have HX := Aside0.mk (And.intro hT (And.intro hV1 (And.intro hnx (And.intro hgn (And.intro hCu0 (And.intro hbox (And.intro hV1in hG1in)))))))
                          clear hG hGk hGw E hT hV1 hG1 hC0 hnx hgn hCu0 hbox hV1in hG1in
                          go_upto_region 27 with fail
                          obtain ⟨W0, hW0⟩ : ∃ W0, wr.alloc (.cells #[.int .i64 (k : Int), .int .i64 (T : Int), .int .u8 1, .int .u8 (ob (k + 64) 0 : Nat), .int .u8 (ob (k + 64) 1 : Nat), .int .u8 (ob (k + 64) 2 : Nat), .int .u8 (ob (k + 64) 3 : Nat)] 69) = W0 := ⟨_, rfl⟩
                          have HX2 := HX.out
                          rw [hW0] at HX2 ⊢
                          obtain ⟨B, hBd⟩ : ∃ B, decide (-549755813888 < V1) = B := ⟨_, rfl⟩
                          have HBB := Aside0.mk hBd
                          have HM1 := Aside0.mk (And.intro (blk_cell HX2.2.2.2.2.2.1 1) (And.intro (HX2.2.2.2.2.1.next htl T hT64) HX2.2.1))
                          have HY := Aside0.mk HX2
                          clear hBd hTT HX HX2 hW0 E0 E1 E2 E3 E4 E5 E6
                          go_cut [94] from 84 to 94 (fun s94 wx => s94 = .bool B ∧ ∃ q, wx = W0.drewN q)
                          case first =>
                            have hdec := HBB.out
                            have M1 : W0.cell? ⟨wr.heap.size, 1, none⟩ = some (.int .i64 (T : Int)) := HM1.out.1
                            have k1 := HM1.out.2.1
                            rw [HM1.out.2.2] at k1
                            have q5 := t1_nonneg t
                            have q6 := t1_toNat t
                            have hadd : wrap64 ((t : Int) + 1) = (t : Int) + 1 := wrap64_in _ HGT.out.2.2.2.2.2.2.1 HGT.out.2.2.2.2.2.2.2
                            have hadd2 : IntKind.i64.wrap ((t : Int) + 1) = (t : Int) + 1 := IntWalk.i64_in _ HGT.out.2.2.2.2.2.2
                            clear HBB HM1
                            go_quiet (fail)
                            go_wp2_with fail
                            go_meet
                            exact ⟨rfl, _, rfl⟩
                          case rest =>
                            obtain ⟨rfl, q, hq⟩ := hcut
                            obtain ⟨W1, hW1⟩ : ∃ W1, wc = W1 := ⟨_, rfl⟩
                            rw [hW1] at hq ⊢
                            have hCu1 : Cur9 wb (cv f n steps) steps t k C0 W1 := by rw [hq]; exact HY.out.2.2.2.2.1.below (pw_below_drewN (Below.refl _ _) q)
                            have hb1 : W1.heap[wr.heap.size]? = some (.cells #[.int .i64 (k : Int), .int .i64 (T : Int), .int .u8 1, .int .u8 (ob (k + 64) 0 : Nat), .int .u8 (ob (k + 64) 1 : Nat), .int .u8 (ob (k + 64) 2 : Nat), .int .u8 (ob (k + 64) 3 : Nat)] 69 (0, 0)) := by rw [hq]; exact HY.out.2.2.2.2.2.1
                            have HC1 := Aside0.mk (And.intro hCu1 (And.intro hb1 (HG.out.2.trans (hCu1.2.mono HG.out.2.size))))
                            clear hW1 hq hCu1 hb1
                            by_cases hV : V1 = none40
                            · obtain rfl : B = false := by rw [← HBB.out, hV]; exact at_none
                              have HV := Aside0.mk hV
                              clear hV
                              go_wp2_with fail
                              refine ⟨⟨2, by go_num, by omega, ?_⟩, by simp only [intOf]; omega⟩
                              rw [HY.out.2.2.1, stp_none HV.out]
                              exact HC1.out.1
                            · obtain rfl : B = true := by rw [← HBB.out]; exact far_none HY.out.2.2.2.2.2.2.1 hV
                              have HV := Aside0.mk hV
                              clear hV
                              go_upto_region 28 with fail
                              have M0 : W1.cell? ⟨wr.heap.size, 0, none⟩ = some (.int .i64 (k : Int)) := blk_cell HC1.out.2.1 0
                              have M1 : W1.cell? ⟨wr.heap.size, 1, none⟩ = some (.int .i64 (T : Int)) := blk_cell HC1.out.2.1 1
                              have M2 : W1.cell? ⟨wr.heap.size, 2, none⟩ = some (.int .u8 1) := blk_cell HC1.out.2.1 2
                              have M3 : W1.cell? ⟨wr.heap.size, 3, none⟩ = some (.int .u8 (ob (k + 64) 0 : Nat)) := blk_cell HC1.out.2.1 3
                              have M4 : W1.cell? ⟨wr.heap.size, 4, none⟩ = some (.int .u8 (ob (k + 64) 1 : Nat)) := blk_cell HC1.out.2.1 4
                              have M5 : W1.cell? ⟨wr.heap.size, 5, none⟩ = some (.int .u8 (ob (k + 64) 2 : Nat)) := blk_cell HC1.out.2.1 5
                              have M6 : W1.cell? ⟨wr.heap.size, 6, none⟩ = some (.int .u8 (ob (k + 64) 3 : Nat)) := blk_cell HC1.out.2.1 6
                              have k1 := HC1.out.1.next htl T hT64
                              rw [HY.out.2.1] at k1
                              obtain ⟨k2, k3⟩ := HC1.out.1.here
                              have hgv : IntKind.i64.wrap (G1 + V1) = G1 + V1 := IntWalk.i64_in _ (gv_in HY.out.2.2.2.2.2.2.1 HY.out.2.2.2.2.2.2.2)
                              refine reg28 htl hs41 hc hk3 hT64 HC1.out.2.1 k1 k2 k3 hgv (fun q => HY.out.2.2.2.1 _ (pw_below_drewN HC1.out.2.2 q)) _ _ _ _ _ _ _ _ _ _ _ _ _ _ _ _ _ _ _ _ _ _ _ _ _ _ _ _ _ _ _ _ _ _ _ _ _ _ _ _ _ _ _ _ _ _ _ _ _ _ _ _ _ _ _ _ _ _ _ _ _ _ _ _ _ _ _ _ _ _ _ _ _ _ _ _ _ _ _ _ _ _ _ _ _ _ _ _ _ _ _ _ _ _ _ _ _ _ _ _ _ _ _ _ _ _ _ _ _ _ _ _ _ _ _ _ _ _ _ _ _ _ _ _ _ _ _ _ _ _ _ _ _ _ _ _ _ _ _ _ _ _ _ _ _ _ _ _ _ _ _ _ _ _ _ _ _ _ _ _ _ _ _ _ _ _ _ _ _ _ _ _ _ _ _ _ _ _ _ _ _ _ _ ?_
                              intro v95 v96 v97 v98 v99 v100 v101 v102 v103 v104 v105 v106 v107 v108 v109 v110 v111 v112 v113 v114 v115 v116 v117 v118 v119 v120 v121 v122 v123 v124 w2 hB2
                              have hF := (HC1.out.1.below hB2).put hk3 (Nat.le_of_lt htl) (if C0 < G1 + V1 then G1 + V1 else C0)
                              have HF := Aside0.mk hF
                              clear hF hB2 hgv k1 k2 k3 M0 M1 M2 M3 M4 M5 M6
                              go_wp2_with fail
                              refine ⟨⟨2, by go_num, by omega, ?_⟩, by simp only [intOf]; omega⟩
                              rw [HY.out.2.2.1, stp_some HV.out, max_if]
                              exact HF.out
/-END1-/
                        · have htn' : (n : Int) ≤ (t : Int) := by omega
                          have hcc : curv f n steps t k 2 = curv f n steps t k 1 := by
                            simp only [curv]
                            exact cv_one htl (by omega)
                          have HCC := Aside0.mk hcc
                          clear hcc
                          go_wp2_with fail
                          refine ⟨⟨2, by go_num, by omega, ?_⟩, by simp only [intOf]; omega⟩
                          rw [HCC.out]
                          exact HCu.out
                · have hge : ¬ (k : Int) < 64 := by omega
                  have hk64 : k = 64 := by have := hR.1; omega
                  subst hk64
                  clear hR
                  go_wp2_with fail
                  exact ⟨⟨t, by omega, rfl, HR.out⟩, by simp [intOf]⟩
end Go.Proofs.YtnejnnfjbhpigaaDoor.Vit
