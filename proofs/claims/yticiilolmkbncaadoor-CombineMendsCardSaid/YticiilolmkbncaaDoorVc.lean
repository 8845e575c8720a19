/- Contracts of the trellis: each theorem says its own conditions. -/
import Derived.Test.YticiilolmkbncaaDoorVb
namespace Go.Proofs.YticiilolmkbncaaDoor.Vit
open Go.RowKit Go.Proofs.YticiilolmkbncaaDoorW.PrintWords Go.Proofs.YticiilolmkbncaaDoorW.PrintLast Go.Proofs.YticiilolmkbncaaDoorW.PrintMore Go.Proofs.YticiilolmkbncaaDoor.Mem
attribute [local go_sem] max2_int min2_int max_two min_two max_three min_three max_four min_four   -- for this text's walks alone
set_option linter.unusedVariables false
set_option linter.unusedSimpArgs false

/-- Two edges, as a value. -/
abbrev twoV (s t i j : Nat) : Value := .agg #[.int .i64 (s : Int), .int .i64 (((s + 64 * i) / 2 : Nat) : Int), .int .u8 (i : Int), .int .u8 (ob (s + 64 * i) 0 : Nat), .int .u8 (ob (s + 64 * i) 1 : Nat), .int .u8 (ob (s + 64 * i) 2 : Nat), .int .u8 (ob (s + 64 * i) 3 : Nat), .int .i64 (t : Int), .int .i64 (((t + 64 * j) / 2 : Nat) : Int), .int .u8 (j : Int), .int .u8 (ob (t + 64 * j) 0 : Nat), .int .u8 (ob (t + 64 * j) 1 : Nat), .int .u8 (ob (t + 64 * j) 2 : Nat), .int .u8 (ob (t + 64 * j) 3 : Nat)]
set_option maxHeartbeats 3200000 in
set_option maxRecDepth 100000 in
theorem two_any (s t i j : Nat) (hs : s < 64) (ht64 : t < 64) (hi : i < 2) (hj : j < 2) (w : World) (ht : Taps w) :
    Calls Tryd.prog 71 #[.int .i64 (s : Int), .int .i64 (t : Int), .int .u8 (i : Int), .int .u8 (j : Int)] w fun e w' => e = .returned (.tuple #[twoV s t i j, .int .i64 0]) ∧ Below w.heap.size w w' := by
  have HT := Aside0.mk ht
  clear ht
  obtain ⟨a1, ha1⟩ : ∃ a, (s + 64 * i) / 2 = a := ⟨_, rfl⟩
  obtain ⟨a2, ha2⟩ : ∃ a, (t + 64 * j) / 2 = a := ⟨_, rfl⟩
  have HA1 := Aside0.mk ha1
  have HA2 := Aside0.mk ha2
  unfold twoV
  rw [ha1, ha2]
  clear ha1 ha2
  go_enter Tryd.func71, Tryd.ntmps71
  go_wp2_with fail
  refine (edge_any s i hs hi _ (HT.out.below (below_alloc (Below.refl _ _) _))).mono ?_
  unfold edgeV
  rw [HA1.out]
  rintro e w1 ⟨rfl, hB⟩
  have HB := Aside0.mk hB
  have hb := (hB.block w.heap.size (by simp)).trans (heap_alloc_new w _)
  have HBK := Aside0.mk hb
  have hz := hB.size
  simp at hz
  have hB1 : Below w.heap.size w w1 := (below_alloc (Below.refl _ _) _).trans (HB.out.mono (by simp))
  have HB1 := Aside0.mk hB1
  clear hB hb hB1
  go_wp2_with fail
  refine (edge_any t j ht64 hj _ (HT.out.below (HB1.out.alloc HB1.out.size _))).mono ?_
  unfold edgeV
  rw [HA2.out]
  rintro e w2 ⟨rfl, hB⟩
  have hz2 := hB.size
  simp at hz2
  have hb := (hB.block w.heap.size (by simp; omega)).trans (blk_alloc HBK.out _)
  have hk := (hB.block w1.heap.size (by simp)).trans (heap_alloc_new w1 _)
  have fc0 := fun o => blk_frozen (blk_alloc hb o) 0
  have c0 := fun o => (blk_cell (blk_alloc hb o) 0)
  have fc1 := fun o => blk_frozen (blk_alloc hb o) 1
  have c1 := fun o => (blk_cell (blk_alloc hb o) 1)
  have fc2 := fun o => blk_frozen (blk_alloc hb o) 2
  have c2 := fun o => (blk_cell (blk_alloc hb o) 2)
  have fc3 := fun o => blk_frozen (blk_alloc hb o) 3
  have c3 := fun o => (blk_cell (blk_alloc hb o) 3)
  have fc4 := fun o => blk_frozen (blk_alloc hb o) 4
  have c4 := fun o => (blk_cell (blk_alloc hb o) 4)
  have fc5 := fun o => blk_frozen (blk_alloc hb o) 5
  have c5 := fun o => (blk_cell (blk_alloc hb o) 5)
  have fc6 := fun o => blk_frozen (blk_alloc hb o) 6
  have c6 := fun o => (blk_cell (blk_alloc hb o) 6)
  have fc7 := fun o => blk_frozen (blk_alloc hb o) 7
  have c7 := fun o => (blk_cell (blk_alloc hb o) 7)
  have fc8 := fun o => blk_frozen (blk_alloc hb o) 8
  have c8 := fun o => (blk_cell (blk_alloc hb o) 8)
  have fc9 := fun o => blk_frozen (blk_alloc hb o) 9
  have c9 := fun o => (blk_cell (blk_alloc hb o) 9)
  have fc10 := fun o => blk_frozen (blk_alloc hb o) 10
  have c10 := fun o => (blk_cell (blk_alloc hb o) 10)
  have fc11 := fun o => blk_frozen (blk_alloc hb o) 11
  have c11 := fun o => (blk_cell (blk_alloc hb o) 11)
  have fc12 := fun o => blk_frozen (blk_alloc hb o) 12
  have c12 := fun o => (blk_cell (blk_alloc hb o) 12)
  have fc13 := fun o => blk_frozen (blk_alloc hb o) 13
  have c13 := fun o => (blk_cell (blk_alloc hb o) 13)
  simp at c0 c1 c2 c3 c4 c5 c6 c7 c8 c9 c10 c11 c12 c13
  have fd0 := fun o => blk_frozen (blk_alloc hk o) 0
  have d0 := fun o => (blk_cell (blk_alloc hk o) 0)
  have fd1 := fun o => blk_frozen (blk_alloc hk o) 1
  have d1 := fun o => (blk_cell (blk_alloc hk o) 1)
  have fd2 := fun o => blk_frozen (blk_alloc hk o) 2
  have d2 := fun o => (blk_cell (blk_alloc hk o) 2)
  have fd3 := fun o => blk_frozen (blk_alloc hk o) 3
  have d3 := fun o => (blk_cell (blk_alloc hk o) 3)
  have fd4 := fun o => blk_frozen (blk_alloc hk o) 4
  have d4 := fun o => (blk_cell (blk_alloc hk o) 4)
  have fd5 := fun o => blk_frozen (blk_alloc hk o) 5
  have d5 := fun o => (blk_cell (blk_alloc hk o) 5)
  have fd6 := fun o => blk_frozen (blk_alloc hk o) 6
  have d6 := fun o => (blk_cell (blk_alloc hk o) 6)
  simp at d0 d1 d2 d3 d4 d5 d6
  have hB2 : Below w.heap.size w w2 := (HB1.out.alloc HB1.out.size _).trans (hB.mono (by simp; omega))
  have HB2 := Aside0.mk hB2
  clear hB hb hk hB2
  go_wp2_with fail
  have hB2 := HB2.out
  exact bodyPost_ret (v := .tuple #[.agg #[.int .i64 (s : Int), .int .i64 (a1 : Int), .int .u8 (i : Int), .int .u8 (ob (s + 64 * i) 0 : Nat), .int .u8 (ob (s + 64 * i) 1 : Nat), .int .u8 (ob (s + 64 * i) 2 : Nat), .int .u8 (ob (s + 64 * i) 3 : Nat),
      .int .i64 (t : Int), .int .i64 (a2 : Int), .int .u8 (j : Int), .int .u8 (ob (t + 64 * j) 0 : Nat), .int .u8 (ob (t + 64 * j) 1 : Nat), .int .u8 (ob (t + 64 * j) 2 : Nat), .int .u8 (ob (t + 64 * j) 3 : Nat)], .int .i64 0])
    (by simp [results, Tryd.results71, go_sem, c0, c1, c2, c3, c4, c5, c6, c7, c8, c9, c10, c11, c12, c13]) rfl
    ⟨rfl, (((((((((((((((hB2.alloc hB2.size _).setCell (Nat.le_refl _) _).setCell (Nat.le_refl _) _).setCell (Nat.le_refl _) _).setCell (Nat.le_refl _) _).setCell (Nat.le_refl _) _).setCell (Nat.le_refl _) _).setCell (Nat.le_refl _) _).setCell (Nat.le_refl _) _).setCell (Nat.le_refl _) _).setCell (Nat.le_refl _) _).setCell (Nat.le_refl _) _).setCell (Nat.le_refl _) _).setCell (Nat.le_refl _) _).setCell (Nat.le_refl _) _)⟩

end Go.Proofs.YticiilolmkbncaaDoor.Vit
