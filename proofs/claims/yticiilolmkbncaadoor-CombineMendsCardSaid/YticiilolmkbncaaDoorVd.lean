/- Contracts of the decoder's parts (gain, best): each theorem says its own conditions. -/
import Derived.Test.YticiilolmkbncaaDoorVc
namespace Go.Proofs.YticiilolmkbncaaDoor.Vit
open Go.RowKit Go.Proofs.YticiilolmkbncaaDoorW.PrintWords Go.Proofs.YticiilolmkbncaaDoorW.PrintLast Go.Proofs.YticiilolmkbncaaDoorW.PrintMore Go.Proofs.YticiilolmkbncaaDoor.Mem
attribute [local go_sem] max2_int min2_int max_two min_two max_three min_three max_four min_four   -- for this text's walks alone
set_option linter.unusedVariables false
set_option linter.unusedSimpArgs false

theorem From_any (s : Nat) (hs : s < 64) (w : World) (ht : Taps w) :
    Calls Tryd.prog 62 #[.int .i64 (s : Int)] w fun e w' => e = .returned (.tuple #[twoV s s 0 1, .int .i64 0]) ∧ Below w.heap.size w w' := by
  have HT := Aside0.mk ht
  clear ht
  have H2 := two_any s s 0 1 hs hs (by omega) (by omega)
  have H := Aside0.mk H2
  clear H2
  go_enter Tryd.func62, Tryd.ntmps62
  go_wp2_with fail
  refine (H.out _ (HT.out.below (below_alloc (Below.refl _ _) _))).mono ?_
  rintro e w1 ⟨rfl, hB⟩
  have HB := Aside0.mk hB
  have hb := (hB.block w.heap.size (by simp)).trans (heap_alloc_new w _)
  have c0 := blk_cell hb 0
  have fc0 := blk_frozen hb 0
  have c1 := blk_cell hb 1
  have fc1 := blk_frozen hb 1
  have c2 := blk_cell hb 2
  have fc2 := blk_frozen hb 2
  have c3 := blk_cell hb 3
  have fc3 := blk_frozen hb 3
  have c4 := blk_cell hb 4
  have fc4 := blk_frozen hb 4
  have c5 := blk_cell hb 5
  have fc5 := blk_frozen hb 5
  have c6 := blk_cell hb 6
  have fc6 := blk_frozen hb 6
  have c7 := blk_cell hb 7
  have fc7 := blk_frozen hb 7
  have c8 := blk_cell hb 8
  have fc8 := blk_frozen hb 8
  have c9 := blk_cell hb 9
  have fc9 := blk_frozen hb 9
  have c10 := blk_cell hb 10
  have fc10 := blk_frozen hb 10
  have c11 := blk_cell hb 11
  have fc11 := blk_frozen hb 11
  have c12 := blk_cell hb 12
  have fc12 := blk_frozen hb 12
  have c13 := blk_cell hb 13
  have fc13 := blk_frozen hb 13
  simp at c0 c1 c2 c3 c4 c5 c6 c7 c8 c9 c10 c11 c12 c13
  have hB2 : Below w.heap.size w w1 := (below_alloc (Below.refl _ _) _).trans (HB.out.mono (by simp))
  have HB2 := Aside0.mk hB2
  clear hB hb hB2
  go_wp2_with fail
  have hB2 := HB2.out
  exact bodyPost_ret (v := .tuple #[twoV s s 0 1, .int .i64 0])
    (by simp [results, Tryd.results62, go_sem, c0, c1, c2, c3, c4, c5, c6, c7, c8, c9, c10, c11, c12, c13]) rfl
    ⟨rfl, ((((((((((((((hB2.setCell (Nat.le_refl _) _).setCell (Nat.le_refl _) _).setCell (Nat.le_refl _) _).setCell (Nat.le_refl _) _).setCell (Nat.le_refl _) _).setCell (Nat.le_refl _) _).setCell (Nat.le_refl _) _).setCell (Nat.le_refl _) _).setCell (Nat.le_refl _) _).setCell (Nat.le_refl _) _).setCell (Nat.le_refl _) _).setCell (Nat.le_refl _) _).setCell (Nat.le_refl _) _).setCell (Nat.le_refl _) _)⟩

/-- A bit's sign. -/
def sg (o : Nat) : Int := if o = 0 then 1 else -1
theorem Of_any (o : Nat) (w : World) : Calls Tryd.prog 56 #[.int .u8 (o : Int)] w fun e w' => e = .returned (.int .i64 (sg o)) ∧ w = w' := by
  unfold sg
  by_cases h : o = 0
  · subst h
    go_enter Tryd.func56, Tryd.ntmps56
    go_wp2
    go_ret
    exact ⟨rfl, rfl⟩
  · rw [if_neg h]
    have h1 : ((o : Int) == 0) = false := by simp; omega
    go_enter Tryd.func56, Tryd.ntmps56
    go_wp2
    go_ret
    exact ⟨rfl, rfl⟩

theorem sg_mul (x : Int) (o : Nat) (h0 : -1000 ≤ x) (h1 : x ≤ 1000) : -1000 ≤ x * sg o ∧ x * sg o ≤ 1000 := by
  unfold sg
  split <;> omega

set_option maxHeartbeats 3200000 in
set_option maxRecDepth 100000 in
theorem gain_any (b off n c : Nat) (x0 x1 x2 x3 : Int) (f t : Int) (i : Int) (o0 o1 o2 o3 : Nat) (w : World) (hn : 4 ≤ n)
    (c0 : w.cell? ⟨b, off, none⟩ = some (.int .i64 x0)) (c1 : w.cell? ⟨b, off + 1, none⟩ = some (.int .i64 x1)) (c2 : w.cell? ⟨b, off + 2, none⟩ = some (.int .i64 x2)) (c3 : w.cell? ⟨b, off + 3, none⟩ = some (.int .i64 x3))
    (b0 : -1000 ≤ x0 ∧ x0 ≤ 1000) (b1 : -1000 ≤ x1 ∧ x1 ≤ 1000) (b2 : -1000 ≤ x2 ∧ x2 ≤ 1000) (b3 : -1000 ≤ x3 ∧ x3 ≤ 1000) :
    Calls Tryd.prog 72 #[.slice (some ⟨b, off, none⟩) n c, .agg #[.int .i64 f, .int .i64 t, .int .u8 i, .int .u8 (o0 : Int), .int .u8 (o1 : Int), .int .u8 (o2 : Int), .int .u8 (o3 : Int)]] w fun e w' =>
      e = .returned (.int .i64 (x0 * sg o0 + x1 * sg o1 + x2 * sg o2 + x3 * sg o3)) ∧ Below w.heap.size w w' := by
  have m0 := sg_mul x0 o0 b0.1 b0.2
  have m1 := sg_mul x1 o1 b1.1 b1.2
  have m2 := sg_mul x2 o2 b2.1 b2.2
  have m3 := sg_mul x3 o3 b3.1 b3.2
  obtain ⟨p0, hp0⟩ : ∃ p, x0 * sg o0 = p := ⟨_, rfl⟩
  obtain ⟨p1, hp1⟩ : ∃ p, x1 * sg o1 = p := ⟨_, rfl⟩
  obtain ⟨p2, hp2⟩ : ∃ p, x2 * sg o2 = p := ⟨_, rfl⟩
  obtain ⟨p3, hp3⟩ : ∃ p, x3 * sg o3 = p := ⟨_, rfl⟩
  rw [hp0] at m0
  rw [hp1] at m1
  rw [hp2] at m2
  rw [hp3] at m3
  rw [hp0, hp1, hp2, hp3]
  obtain ⟨m00, m01⟩ := m0
  obtain ⟨m10, m11⟩ := m1
  obtain ⟨m20, m21⟩ := m2
  obtain ⟨m30, m31⟩ := m3
  have d0 : ∀ o, (w.alloc o).cell? ⟨b, off, none⟩ = some (.int .i64 x0) := fun o => Lib.cell?_alloc_some _ c0
  have d1 : ∀ o, (w.alloc o).cell? ⟨b, off + 1, none⟩ = some (.int .i64 x1) := fun o => Lib.cell?_alloc_some _ c1
  have d2 : ∀ o, (w.alloc o).cell? ⟨b, off + 2, none⟩ = some (.int .i64 x2) := fun o => Lib.cell?_alloc_some _ c2
  have d3 : ∀ o, (w.alloc o).cell? ⟨b, off + 3, none⟩ = some (.int .i64 x3) := fun o => Lib.cell?_alloc_some _ c3
  have i0 : ∀ w : World, (Instr.index 71 (.agg #[.int .u8 (o0 : Int), .int .u8 (o1 : Int), .int .u8 (o2 : Int), .int .u8 (o3 : Int)]) (.int .i64 0)).run Tryd.prog w = .ok (.int .u8 (o0 : Int)) w := fun _ => by kernel_rfl
  have i1 : ∀ w : World, (Instr.index 71 (.agg #[.int .u8 (o0 : Int), .int .u8 (o1 : Int), .int .u8 (o2 : Int), .int .u8 (o3 : Int)]) (.int .i64 1)).run Tryd.prog w = .ok (.int .u8 (o1 : Int)) w := fun _ => by kernel_rfl
  have i2 : ∀ w : World, (Instr.index 71 (.agg #[.int .u8 (o0 : Int), .int .u8 (o1 : Int), .int .u8 (o2 : Int), .int .u8 (o3 : Int)]) (.int .i64 2)).run Tryd.prog w = .ok (.int .u8 (o2 : Int)) w := fun _ => by kernel_rfl
  have i3 : ∀ w : World, (Instr.index 71 (.agg #[.int .u8 (o0 : Int), .int .u8 (o1 : Int), .int .u8 (o2 : Int), .int .u8 (o3 : Int)]) (.int .i64 3)).run Tryd.prog w = .ok (.int .u8 (o3 : Int)) w := fun _ => by kernel_rfl
  have hn1 : (1 : Int) < (n : Int) := by omega
  have hn2 : (2 : Int) < (n : Int) := by omega
  have hn3 : (3 : Int) < (n : Int) := by omega
  have wp0 : IntKind.i64.wrap p0 = p0 := IntWalk.i64_in _ (by omega)
  have wp1 : IntKind.i64.wrap p1 = p1 := IntWalk.i64_in _ (by omega)
  have wp2 : IntKind.i64.wrap p2 = p2 := IntWalk.i64_in _ (by omega)
  have wp3 : IntKind.i64.wrap p3 = p3 := IntWalk.i64_in _ (by omega)
  have ws1 : IntKind.i64.wrap (p0 + p1) = p0 + p1 := IntWalk.i64_in _ (by omega)
  have ws2 : IntKind.i64.wrap (p0 + p1 + p2) = p0 + p1 + p2 := IntWalk.i64_in _ (by omega)
  have ws3 : IntKind.i64.wrap (p0 + p1 + p2 + p3) = p0 + p1 + p2 + p3 := IntWalk.i64_in _ (by omega)
  clear b0 b1 b2 b3
  go_enter Tryd.func72, Tryd.ntmps72
  go_wp2_with fail
  refine wp_loop_rounds 5 ?_
  rw [rounds_succ]
  go_wp2_with fail
  go_quiet ((go_at_call 56; exact Calls.quiet_of_same ((Of_any o0 _).mono fun _ _ ⟨h1, h2⟩ => ⟨h1, h2.symm⟩)))
  go_wp2_with fail
  rw [rounds_succ]
  go_wp2_with fail
  go_quiet ((go_at_call 56; exact (Of_any o1 _).mono fun _ _ h => ⟨h.1, _, h.2.symm⟩))
  go_wp2_with fail
  rw [rounds_succ]
  go_wp2_with fail
  go_quiet ((go_at_call 56; exact (Of_any o2 _).mono fun _ _ h => ⟨h.1, _, h.2.symm⟩))
  go_wp2_with fail
  rw [rounds_succ]
  go_wp2_with fail
  go_quiet ((go_at_call 56; exact (Of_any o3 _).mono fun _ _ h => ⟨h.1, _, h.2.symm⟩))
  go_wp2_with fail
  rw [rounds_succ]
  go_wp2_with fail
  go_ret
  exact ⟨rfl, pw_below_drewN (below_alloc (Below.refl _ _) _) _⟩

end Go.Proofs.YticiilolmkbncaaDoor.Vit
