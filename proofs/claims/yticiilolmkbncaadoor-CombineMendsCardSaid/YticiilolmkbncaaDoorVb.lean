/- Contracts of the coder (conv): each theorem says its own conditions. -/
import Derived.Test.YticiilolmkbncaaDoorVa
namespace Go.Proofs.YticiilolmkbncaaDoor.Vit
open Go.RowKit Go.Proofs.YticiilolmkbncaaDoorW.PrintWords Go.Proofs.YticiilolmkbncaaDoorW.PrintLast Go.Proofs.YticiilolmkbncaaDoorW.PrintMore Go.Proofs.YticiilolmkbncaaDoor.Mem
attribute [local go_sem] max2_int min2_int max_two min_two max_three min_three max_four min_four   -- for this text's walks alone
set_option linter.unusedVariables false
set_option linter.unusedSimpArgs false

/-- What the four streams look at. -/
def tap (j : Nat) : Nat := if j = 0 then 79 else if j = 1 then 87 else if j = 2 then 109 else 121
/-- What stream j tells of seven bits. -/
def ob (x j : Nat) : Nat := pc (x &&& tap j) % 2
/-- The variable holds what the streams look at. -/
def Taps (w : World) : Prop := w.cell? ⟨0, 0, none⟩ = some (.int .u64 79) ∧ w.cell? ⟨0, 1, none⟩ = some (.int .u64 87) ∧ w.cell? ⟨0, 2, none⟩ = some (.int .u64 109) ∧ w.cell? ⟨0, 3, none⟩ = some (.int .u64 121) ∧ 0 < w.heap.size
theorem Taps.below {w w1 : World} (h : Taps w) (hb : Below w.heap.size w w1) : Taps w1 := by
  obtain ⟨h0, h1, h2, h3, h4⟩ := h
  exact ⟨(hb.cell h4).trans h0, (hb.cell h4).trans h1, (hb.cell h4).trans h2, (hb.cell h4).trans h3, Nat.lt_of_lt_of_le h4 hb.size⟩

theorem and_tab : (List.range 128).all (fun x => Go.bits .and .u64 (x : Int) 79 == ((x &&& 79 : Nat) : Int) && Go.bits .and .u64 (x : Int) 87 == ((x &&& 87 : Nat) : Int) && Go.bits .and .u64 (x : Int) 109 == ((x &&& 109 : Nat) : Int) && Go.bits .and .u64 (x : Int) 121 == ((x &&& 121 : Nat) : Int) && decide (x &&& 79 < 128) && decide (x &&& 87 < 128) && decide (x &&& 109 < 128) && decide (x &&& 121 < 128)) = true := by kernel_rfl
theorem par_tab : (List.range 8).all (fun x => Go.bits .and .i64 (x : Int) 1 == ((x % 2 : Nat) : Int)) = true := by kernel_rfl
theorem par_is (x : Nat) (h : x < 8) : Go.bits .and .i64 (x : Int) 1 = ((x % 2 : Nat) : Int) := eq_of_beq (List.all_eq_true.1 par_tab x (List.mem_range.2 h))
theorem pc_lt (y : Nat) : pc y < 8 := by unfold pc; omega

set_option maxHeartbeats 3200000 in
set_option maxRecDepth 100000 in
theorem out_any (x : Nat) (hx : x < 128) (w : World) (ht : Taps w) :
    Calls Tryd.prog 78 #[.int .u64 (x : Int)] w fun e w' => e = .returned (.agg #[.int .u8 (ob x 0 : Nat), .int .u8 (ob x 1 : Nat), .int .u8 (ob x 2 : Nat), .int .u8 (ob x 3 : Nat)]) ∧ Below w.heap.size w w' := by
  have htab := List.all_eq_true.1 and_tab x (List.mem_range.2 hx)
  simp only [Bool.and_eq_true, beq_iff_eq, decide_eq_true_eq] at htab
  obtain ⟨⟨⟨⟨⟨⟨⟨a0, a1⟩, a2⟩, a3⟩, l0⟩, l1⟩, l2⟩, l3⟩ := htab
  obtain ⟨t0, t1, t2, t3, t4⟩ := ht
  have p0 := par_is (pc (x &&& 79)) (pc_lt _)
  have b0 : pc (x &&& 79) % 2 ≤ 1 := by omega
  have e0 : ob x 0 = pc (x &&& 79) % 2 := rfl
  obtain ⟨o0, h0⟩ : ∃ o, pc (x &&& 79) % 2 = o := ⟨_, rfl⟩
  rw [h0] at p0 b0 e0
  obtain ⟨y0, k0⟩ : ∃ y, x &&& 79 = y := ⟨_, rfl⟩
  rw [k0] at a0 l0 p0
  have p1 := par_is (pc (x &&& 87)) (pc_lt _)
  have b1 : pc (x &&& 87) % 2 ≤ 1 := by omega
  have e1 : ob x 1 = pc (x &&& 87) % 2 := rfl
  obtain ⟨o1, h1⟩ : ∃ o, pc (x &&& 87) % 2 = o := ⟨_, rfl⟩
  rw [h1] at p1 b1 e1
  obtain ⟨y1, k1⟩ : ∃ y, x &&& 87 = y := ⟨_, rfl⟩
  rw [k1] at a1 l1 p1
  have p2 := par_is (pc (x &&& 109)) (pc_lt _)
  have b2 : pc (x &&& 109) % 2 ≤ 1 := by omega
  have e2 : ob x 2 = pc (x &&& 109) % 2 := rfl
  obtain ⟨o2, h2⟩ : ∃ o, pc (x &&& 109) % 2 = o := ⟨_, rfl⟩
  rw [h2] at p2 b2 e2
  obtain ⟨y2, k2⟩ : ∃ y, x &&& 109 = y := ⟨_, rfl⟩
  rw [k2] at a2 l2 p2
  have p3 := par_is (pc (x &&& 121)) (pc_lt _)
  have b3 : pc (x &&& 121) % 2 ≤ 1 := by omega
  have e3 : ob x 3 = pc (x &&& 121) % 2 := rfl
  obtain ⟨o3, h3⟩ : ∃ o, pc (x &&& 121) % 2 = o := ⟨_, rfl⟩
  rw [h3] at p3 b3 e3
  obtain ⟨y3, k3⟩ : ∃ y, x &&& 121 = y := ⟨_, rfl⟩
  rw [k3] at a3 l3 p3
  have i0 : ∀ w : World, (Instr.index 129 (.agg #[.int .u64 79, .int .u64 87, .int .u64 109, .int .u64 121]) (.int .i64 0)).run Tryd.prog w = .ok (.int .u64 79) w := fun _ => by kernel_rfl
  have i1 : ∀ w : World, (Instr.index 129 (.agg #[.int .u64 79, .int .u64 87, .int .u64 109, .int .u64 121]) (.int .i64 1)).run Tryd.prog w = .ok (.int .u64 87) w := fun _ => by kernel_rfl
  have i2 : ∀ w : World, (Instr.index 129 (.agg #[.int .u64 79, .int .u64 87, .int .u64 109, .int .u64 121]) (.int .i64 2)).run Tryd.prog w = .ok (.int .u64 109) w := fun _ => by kernel_rfl
  have i3 : ∀ w : World, (Instr.index 129 (.agg #[.int .u64 79, .int .u64 87, .int .u64 109, .int .u64 121]) (.int .i64 3)).run Tryd.prog w = .ok (.int .u64 121) w := fun _ => by kernel_rfl
  rw [e0, e1, e2, e3]
  clear e0 e1 e2 e3 h0 h1 h2 h3 k0 k1 k2 k3
  go_enter Tryd.func78, Tryd.ntmps78
  go_wp2_with fail
  refine wp_loop_rounds 5 ?_
  rw [rounds_succ]
  go_wp2_with fail
  refine (ones_any y0 l0 _).mono ?_
  rintro e w' ⟨rfl, rfl⟩
  go_wp2_with fail
  rw [rounds_succ]
  go_wp2_with fail
  refine (ones_any y1 l1 _).mono ?_
  rintro e w' ⟨rfl, rfl⟩
  go_wp2_with fail
  rw [rounds_succ]
  go_wp2_with fail
  refine (ones_any y2 l2 _).mono ?_
  rintro e w' ⟨rfl, rfl⟩
  go_wp2_with fail
  rw [rounds_succ]
  go_wp2_with fail
  refine (ones_any y3 l3 _).mono ?_
  rintro e w' ⟨rfl, rfl⟩
  go_wp2_with fail
  rw [rounds_succ]
  go_wp2_with fail
  exact bodyPost_ret (v := .agg #[.int .u8 o0, .int .u8 o1, .int .u8 o2, .int .u8 o3]) (by simp [results, Tryd.results78, go_sem]) rfl ⟨rfl, below_alloc (below_alloc (Below.refl _ _) _) _⟩

theorem word_tab : (List.range 64).all (fun s => Go.bits .or .u64 ((0 : Int) * 64) (s : Int) == ((s : Nat) : Int) && Go.bits .or .u64 ((1 : Int) * 64) (s : Int) == ((s + 64 : Nat) : Int)) = true := by kernel_rfl
theorem word_is (s i : Nat) (hs : s < 64) (hi : i < 2) : Go.bits .or .u64 ((i : Int) * 64) (s : Int) = ((s + 64 * i : Nat) : Int) := by
  have := List.all_eq_true.1 word_tab s (List.mem_range.2 hs)
  simp only [Bool.and_eq_true, beq_iff_eq] at this
  rcases (show i = 0 ∨ i = 1 by omega) with rfl | rfl
  · exact this.1
  · exact this.2
theorem word_any (s i : Nat) (hs : s < 64) (hi : i < 2) (w : World) :
    Calls Tryd.prog 79 #[.int .i64 (s : Int), .int .u8 (i : Int)] w fun e w' => e = .returned (.int .u64 ((s + 64 * i : Nat) : Int)) ∧ w = w' := by
  have hw := word_is s i hs hi
  go_enter Tryd.func79, Tryd.ntmps79
  go_wp2
  go_ret
  exact ⟨rfl, rfl⟩
theorem right_any (s i : Nat) (hs : s < 64) (hi : i < 2) (w : World) :
    Calls Tryd.prog 77 #[.int .i64 (s : Int), .int .u8 (i : Int)] w fun e w' => e = .returned (.bool true) ∧ w = w' := by
  have hd : decide ((i : Int) ≤ 1) = true := by simp; omega
  go_enter Tryd.func77, Tryd.ntmps77
  go_wp2
  go_ret
  exact ⟨rfl, rfl⟩

/-- Four bits, as a value. -/
abbrev obV (x : Nat) : Value := .agg #[.int .u8 (ob x 0 : Nat), .int .u8 (ob x 1 : Nat), .int .u8 (ob x 2 : Nat), .int .u8 (ob x 3 : Nat)]
set_option maxHeartbeats 1600000 in
set_option maxRecDepth 100000 in
theorem Out_any (s i : Nat) (hs : s < 64) (hi : i < 2) (w : World) (ht : Taps w) :
    Calls Tryd.prog 75 #[.int .i64 (s : Int), .int .u8 (i : Int)] w fun e w' => e = .returned (.tuple #[obV (s + 64 * i), .int .i64 0]) ∧ Below w.heap.size w w' := by
  have HT := Aside0.mk ht
  clear ht
  go_enter Tryd.func75, Tryd.ntmps75
  go_wp2_with (first | (go_at_call 77; refine (right_any s i hs hi _).mono ?_; rintro e w' ⟨rfl, rfl⟩) | (go_at_call 79; refine (word_any s i hs hi _).mono ?_; rintro e w' ⟨rfl, rfl⟩))
  refine (out_any (s + 64 * i) (by omega) _ (HT.out.below (below_alloc (Below.refl _ _) _))).mono ?_
  rintro e w1 ⟨rfl, hB⟩
  have HB := Aside0.mk hB
  have hb := (hB.block w.heap.size (by simp)).trans (heap_alloc_new w _)
  have f0 := blk_frozen hb 0
  have f1 := blk_frozen hb 1
  have f2 := blk_frozen hb 2
  have f3 := blk_frozen hb 3
  have c0 := blk_cell hb 0
  have c1 := blk_cell hb 1
  have c2 := blk_cell hb 2
  have c3 := blk_cell hb 3
  simp at c0 c1 c2 c3
  clear hB hb
  go_wp2_with fail
  have hB1 : Below w.heap.size w w1 := (below_alloc (Below.refl _ _) _).trans (HB.out.mono (by simp))
  exact bodyPost_ret (v := .tuple #[obV (s + 64 * i), .int .i64 0]) (by simp [results, Tryd.results75, go_sem, c0, c1, c2, c3]) rfl ⟨rfl, (((hB1.setCell (Nat.le_refl _) _).setCell (Nat.le_refl _) _).setCell (Nat.le_refl _) _).setCell (Nat.le_refl _) _⟩

theorem Next_any (s i : Nat) (hs : s < 64) (hi : i < 2) (w : World) :
    Calls Tryd.prog 76 #[.int .i64 (s : Int), .int .u8 (i : Int)] w fun e w' => e = .returned (.tuple #[.int .i64 (((s + 64 * i) / 2 : Nat) : Int), .int .i64 0]) ∧ w = w' := by
  go_enter Tryd.func76, Tryd.ntmps76
  go_wp2_with (first | (go_at_call 77; refine (right_any s i hs hi _).mono ?_; rintro e w' ⟨rfl, rfl⟩) | (go_at_call 79; refine (word_any s i hs hi _).mono ?_; rintro e w' ⟨rfl, rfl⟩))
  go_ret2
  exact ⟨by simp [Int.natCast_ediv], rfl⟩

/-- An edge, as a value. -/
abbrev edgeV (s i : Nat) : Value := .agg #[.int .i64 (s : Int), .int .i64 (((s + 64 * i) / 2 : Nat) : Int), .int .u8 (i : Int), .int .u8 (ob (s + 64 * i) 0 : Nat), .int .u8 (ob (s + 64 * i) 1 : Nat), .int .u8 (ob (s + 64 * i) 2 : Nat), .int .u8 (ob (s + 64 * i) 3 : Nat)]
set_option maxHeartbeats 1600000 in
set_option maxRecDepth 100000 in
theorem edge_any (s i : Nat) (hs : s < 64) (hi : i < 2) (w : World) (ht : Taps w) :
    Calls Tryd.prog 74 #[.int .i64 (s : Int), .int .u8 (i : Int)] w fun e w' => e = .returned (.tuple #[edgeV s i, .int .i64 0]) ∧ Below w.heap.size w w' := by
  have HT := Aside0.mk ht
  clear ht
  go_enter Tryd.func74, Tryd.ntmps74
  go_wp2_with fail
  refine (Out_any s i hs hi _ (HT.out.below (below_alloc (Below.refl _ _) _))).mono ?_
  rintro e w1 ⟨rfl, hB⟩
  have HB := Aside0.mk hB
  have hb := (hB.block w.heap.size (by simp)).trans (heap_alloc_new w _)
  have hz := hB.size
  simp at hz
  have fc0 := fun o => blk_frozen (blk_alloc hb o) 0
  have c0 := fun o => (blk_cell (blk_alloc hb o) 0)
  have fc1 := fun o => blk_frozen (blk_alloc hb o) 1
  have c1 := fun o => (blk_cell (blk_alloc hb o) 1)
  have fc2 := fun o => blk_frozen (blk_alloc hb o) 2
  have c2 := fun o => (blk_cell (blk_alloc hb o) 2)
  have fc3 := fun o => blk_frozen (blk_alloc hb o) 3
  have c3 := fun o => (blk_cell (blk_alloc hb o) 3)
  have fc4 := fun o => blk_frozen (blk_alloc hb o) 4
  have c4 := fun o => (blk_cell (blk_alloc hb o) 4)
  have fc5 := fun o => blk_frozen (blk_alloc hb o) 5
  have c5 := fun o => (blk_cell (blk_alloc hb o) 5)
  have fc6 := fun o => blk_frozen (blk_alloc hb o) 6
  have c6 := fun o => (blk_cell (blk_alloc hb o) 6)
  simp at c0 c1 c2 c3 c4 c5 c6
  clear hB hb
  have hto : ((s + 64 * i : Nat) : Int) / 2 = (((s + 64 * i) / 2 : Nat) : Int) := by omega
  go_wp2_with (first | (go_at_call 76; refine (Next_any s i hs hi _).mono ?_; rintro e w' ⟨rfl, rfl⟩))
  have hB1 : Below w.heap.size w w1 := (below_alloc (Below.refl _ _) _).trans (HB.out.mono (by simp))
  exact bodyPost_ret (v := .tuple #[.agg #[.int .i64 (s : Int), .int .i64 (((s : Int) + 64 * (i : Int)) / 2), .int .u8 (i : Int), .int .u8 (ob (s + 64 * i) 0 : Nat), .int .u8 (ob (s + 64 * i) 1 : Nat), .int .u8 (ob (s + 64 * i) 2 : Nat), .int .u8 (ob (s + 64 * i) 3 : Nat)], .int .i64 0])
    (by simp [results, Tryd.results74, go_sem, c0, c1, c2, c3, c4, c5, c6]) rfl
    ⟨by simp [Int.natCast_ediv], ((((((((hB1.alloc hB1.size _).setCell (Nat.le_refl _) _).setCell (Nat.le_refl _) _).setCell (Nat.le_refl _) _).setCell (Nat.le_refl _) _).setCell (Nat.le_refl _) _).setCell (Nat.le_refl _) _).setCell (Nat.le_refl _) _)⟩

end Go.Proofs.YticiilolmkbncaaDoor.Vit
