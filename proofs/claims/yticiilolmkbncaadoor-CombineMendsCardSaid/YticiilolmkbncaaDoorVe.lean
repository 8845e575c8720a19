/- Contracts of the decoder's parts (best): each theorem says its own conditions. -/
import Derived.Test.YticiilolmkbncaaDoorVd
namespace Go.Proofs.YticiilolmkbncaaDoor.Vit
open Go.RowKit Go.Proofs.YticiilolmkbncaaDoorW.PrintWords Go.Proofs.YticiilolmkbncaaDoorW.PrintLast Go.Proofs.YticiilolmkbncaaDoorW.PrintMore Go.Proofs.YticiilolmkbncaaDoor.Mem
attribute [local go_sem] max2_int min2_int max_two min_two max_three min_three max_four min_four   -- for this text's walks alone
set_option linter.unusedVariables false
set_option linter.unusedSimpArgs false


/-- No way at all. -/
def none40 : Int := -1099511627776
/-- What four numbers and an edge's four bits score. -/
def gn (x0 x1 x2 x3 : Int) (o0 o1 o2 o3 : Nat) : Int := x0 * sg o0 + x1 * sg o1 + x2 * sg o2 + x3 * sg o3
theorem lies_lt {w : World} {a : Addr} {v : Value} (h : w.cell? a = some v) : a.block < w.heap.size := by
  unfold World.cell? at h
  split at h
  · rename_i hb
    exact (Array.getElem?_eq_some_iff.1 hb).1
  · simp at h
theorem below_cell {w wx : World} (hb : Below w.heap.size w wx) {a : Addr} {v : Value} (h : w.cell? a = some v) : wx.cell? a = some v := (hb.cell (lies_lt h)).trans h
/-- One edge more. -/
def stp (top g n : Int) : Int := if n = none40 then top else max top (g + n)
theorem stp_some {top g n : Int} (h : ¬ n = none40) : stp top g n = max top (g + n) := if_neg h
theorem stp_none {top g n : Int} (h : n = none40) : stp top g n = top := if_pos h
theorem gn_in (x0 x1 x2 x3 : Int) (o0 o1 o2 o3 : Nat) (b0 : -1000 ≤ x0 ∧ x0 ≤ 1000) (b1 : -1000 ≤ x1 ∧ x1 ≤ 1000) (b2 : -1000 ≤ x2 ∧ x2 ≤ 1000) (b3 : -1000 ≤ x3 ∧ x3 ≤ 1000) :
    -4000 ≤ gn x0 x1 x2 x3 o0 o1 o2 o3 ∧ gn x0 x1 x2 x3 o0 o1 o2 o3 ≤ 4000 := by
  have m0 := sg_mul x0 o0 b0.1 b0.2
  have m1 := sg_mul x1 o1 b1.1 b1.2
  have m2 := sg_mul x2 o2 b2.1 b2.2
  have m3 := sg_mul x3 o3 b3.1 b3.2
  unfold gn
  omega

set_option maxHeartbeats 3200000 in
set_option maxRecDepth 100000 in
theorem best_1 (b off n c eb eo ec bb bo : Nat) (x0 x1 x2 x3 : Int) (f0 t0 i0 o00 o01 o02 o03 : Nat) (B0 : Int) (w : World) (hn : 4 ≤ n)
    (c0 : w.cell? ⟨b, off, none⟩ = some (.int .i64 x0)) (c1 : w.cell? ⟨b, off + 1, none⟩ = some (.int .i64 x1)) (c2 : w.cell? ⟨b, off + 2, none⟩ = some (.int .i64 x2)) (c3 : w.cell? ⟨b, off + 3, none⟩ = some (.int .i64 x3))
    (e0 : w.cell? ⟨eb, eo, none⟩ = some (.int .i64 (f0 : Int))) (e1 : w.cell? ⟨eb, eo + 1, none⟩ = some (.int .i64 (t0 : Int))) (e2 : w.cell? ⟨eb, eo + 2, none⟩ = some (.int .u8 (i0 : Int))) (e3 : w.cell? ⟨eb, eo + 3, none⟩ = some (.int .u8 (o00 : Int))) (e4 : w.cell? ⟨eb, eo + 4, none⟩ = some (.int .u8 (o01 : Int))) (e5 : w.cell? ⟨eb, eo + 5, none⟩ = some (.int .u8 (o02 : Int))) (e6 : w.cell? ⟨eb, eo + 6, none⟩ = some (.int .u8 (o03 : Int)))
    (h0 : w.cell? ⟨bb, bo + t0, none⟩ = some (.int .i64 B0)) (ht0 : t0 < 64) (hB0 : B0 = none40 ∨ -1000000000 ≤ B0 ∧ B0 ≤ 1000000000)
    (b0 : -1000 ≤ x0 ∧ x0 ≤ 1000) (b1 : -1000 ≤ x1 ∧ x1 ≤ 1000) (b2 : -1000 ≤ x2 ∧ x2 ≤ 1000) (b3 : -1000 ≤ x3 ∧ x3 ≤ 1000) :
    Calls Tryd.prog 63 #[.slice (some ⟨b, off, none⟩) n c, .slice (some ⟨eb, eo, none⟩) 1 ec, .pointer (some ⟨bb, bo, none⟩)] w fun e w' =>
      e = .returned (.int .i64 (stp none40 (gn x0 x1 x2 x3 o00 o01 o02 o03) B0)) ∧ Below w.heap.size w w' := by
  have l0 : (t0 : Int) < 64 := by omega
  have gg0 := gn_in x0 x1 x2 x3 o00 o01 o02 o03 b0 b1 b2 b3
  have G0 := fun W => gain_any b off n c x0 x1 x2 x3 f0 t0 (i0 : Int) o00 o01 o02 o03 W hn
  change ∀ W, _ → _ → _ → _ → _ → _ → _ → _ → Calls _ _ _ _ (fun e w' => e = .returned (.int .i64 (gn x0 x1 x2 x3 o00 o01 o02 o03)) ∧ _) at G0
  obtain ⟨g0, hg0⟩ : ∃ g, gn x0 x1 x2 x3 o00 o01 o02 o03 = g := ⟨_, rfl⟩
  rw [hg0] at gg0
  simp only [hg0] at G0
  rw [hg0]
  have GG0 := Aside0.mk G0
  have GB0 := Aside0.mk gg0
  have HBn0 := Aside0.mk hB0
  clear hg0 G0 gg0 hB0
  have BB := Aside0.mk (And.intro b0 (And.intro b1 (And.intro b2 b3)))
  have CC := Aside0.mk (And.intro c0 (And.intro c1 (And.intro c2 c3)))
  clear b0 b1 b2 b3 c0 c1 c2 c3
  go_enter Tryd.func63, Tryd.ntmps63
  go_wp2_with fail
  refine wp_loop_rounds 2 ?_
  rw [rounds_succ]
  have k0 : ∀ o, (w.alloc o).cell? ⟨bb, bo + t0, none⟩ = some (.int .i64 B0) := fun o => Lib.cell?_alloc_some _ h0
  clear h0
  go_upto_block 1 with fail
  go_cut [7] (fun s7 wx => s7 = .int .i64 (stp none40 g0 B0) ∧ Below w.heap.size w wx)
  case first =>
    go_wp2_with fail
    go_quiet (fail)
    by_cases hq : B0 = none40
    · have hz : ((B0 == (-1099511627776 : Int)) = true) := by rw [hq]; rfl
      go_wp2_with fail
      go_meet
      exact ⟨by rw [stp_none hq]; rfl, pw_below_drewN (below_alloc (Below.refl _ _) _) _⟩
    · have hz : ((B0 == (-1099511627776 : Int)) = false) := by simpa [none40] using hq
      go_wp2_with fail
      refine (GG0.out _ (below_cell (pw_below_drewN (below_alloc (Below.refl _ _) _) _) CC.out.1) (below_cell (pw_below_drewN (below_alloc (Below.refl _ _) _) _) CC.out.2.1) (below_cell (pw_below_drewN (below_alloc (Below.refl _ _) _) _) CC.out.2.2.1) (below_cell (pw_below_drewN (below_alloc (Below.refl _ _) _) _) CC.out.2.2.2) BB.out.1 BB.out.2.1 BB.out.2.2.1 BB.out.2.2.2).mono ?_
      rintro e w1 ⟨rfl, hB1⟩
      have HB1 := Aside0.mk ((pw_below_drewN (below_alloc (Below.refl _ _) _) _).trans (hB1.mono (by simp)))
      have hwr : IntKind.i64.wrap (g0 + B0) = g0 + B0 := IntWalk.i64_in _ (by have h1 := HBn0.out; have h2 := GB0.out; rcases h1 with h1 | h1 <;> omega)
      clear hB1
      go_wp2_with fail
      all_goals
        go_meet
        refine ⟨?_, HB1.out⟩
        rw [stp_some hq]
        congr 1
        rename_i hle
        have hnn : none40 = -1099511627776 := rfl
        omega
  case rest =>
    obtain ⟨rfl, hW⟩ := hcut
    have HW0 := Aside0.mk hW
    clear hW
    go_wp2_with fail
    rw [rounds_succ]
    go_wp2_with fail
    go_ret
    exact ⟨rfl, HW0.out⟩

set_option maxHeartbeats 3200000 in
set_option maxRecDepth 100000 in
theorem best_2 (b off n c eb eo ec bb bo : Nat) (x0 x1 x2 x3 : Int) (f0 t0 i0 o00 o01 o02 o03 f1 t1 i1 o10 o11 o12 o13 : Nat) (B0 B1 : Int) (w : World) (hn : 4 ≤ n)
    (c0 : w.cell? ⟨b, off, none⟩ = some (.int .i64 x0)) (c1 : w.cell? ⟨b, off + 1, none⟩ = some (.int .i64 x1)) (c2 : w.cell? ⟨b, off + 2, none⟩ = some (.int .i64 x2)) (c3 : w.cell? ⟨b, off + 3, none⟩ = some (.int .i64 x3))
    (e0 : w.cell? ⟨eb, eo, none⟩ = some (.int .i64 (f0 : Int))) (e1 : w.cell? ⟨eb, eo + 1, none⟩ = some (.int .i64 (t0 : Int))) (e2 : w.cell? ⟨eb, eo + 2, none⟩ = some (.int .u8 (i0 : Int))) (e3 : w.cell? ⟨eb, eo + 3, none⟩ = some (.int .u8 (o00 : Int))) (e4 : w.cell? ⟨eb, eo + 4, none⟩ = some (.int .u8 (o01 : Int))) (e5 : w.cell? ⟨eb, eo + 5, none⟩ = some (.int .u8 (o02 : Int))) (e6 : w.cell? ⟨eb, eo + 6, none⟩ = some (.int .u8 (o03 : Int))) (e7 : w.cell? ⟨eb, eo + 7, none⟩ = some (.int .i64 (f1 : Int))) (e8 : w.cell? ⟨eb, eo + 8, none⟩ = some (.int .i64 (t1 : Int))) (e9 : w.cell? ⟨eb, eo + 9, none⟩ = some (.int .u8 (i1 : Int))) (e10 : w.cell? ⟨eb, eo + 10, none⟩ = some (.int .u8 (o10 : Int))) (e11 : w.cell? ⟨eb, eo + 11, none⟩ = some (.int .u8 (o11 : Int))) (e12 : w.cell? ⟨eb, eo + 12, none⟩ = some (.int .u8 (o12 : Int))) (e13 : w.cell? ⟨eb, eo + 13, none⟩ = some (.int .u8 (o13 : Int)))
    (h0 : w.cell? ⟨bb, bo + t0, none⟩ = some (.int .i64 B0)) (ht0 : t0 < 64) (hB0 : B0 = none40 ∨ -1000000000 ≤ B0 ∧ B0 ≤ 1000000000) (h1 : w.cell? ⟨bb, bo + t1, none⟩ = some (.int .i64 B1)) (ht1 : t1 < 64) (hB1 : B1 = none40 ∨ -1000000000 ≤ B1 ∧ B1 ≤ 1000000000)
    (b0 : -1000 ≤ x0 ∧ x0 ≤ 1000) (b1 : -1000 ≤ x1 ∧ x1 ≤ 1000) (b2 : -1000 ≤ x2 ∧ x2 ≤ 1000) (b3 : -1000 ≤ x3 ∧ x3 ≤ 1000) :
    Calls Tryd.prog 63 #[.slice (some ⟨b, off, none⟩) n c, .slice (some ⟨eb, eo, none⟩) 2 ec, .pointer (some ⟨bb, bo, none⟩)] w fun e w' =>
      e = .returned (.int .i64 (stp (stp none40 (gn x0 x1 x2 x3 o00 o01 o02 o03) B0) (gn x0 x1 x2 x3 o10 o11 o12 o13) B1)) ∧ Below w.heap.size w w' := by
  have l0 : (t0 : Int) < 64 := by omega
  have gg0 := gn_in x0 x1 x2 x3 o00 o01 o02 o03 b0 b1 b2 b3
  have G0 := fun W => gain_any b off n c x0 x1 x2 x3 f0 t0 (i0 : Int) o00 o01 o02 o03 W hn
  change ∀ W, _ → _ → _ → _ → _ → _ → _ → _ → Calls _ _ _ _ (fun e w' => e = .returned (.int .i64 (gn x0 x1 x2 x3 o00 o01 o02 o03)) ∧ _) at G0
  obtain ⟨g0, hg0⟩ : ∃ g, gn x0 x1 x2 x3 o00 o01 o02 o03 = g := ⟨_, rfl⟩
  rw [hg0] at gg0
  simp only [hg0] at G0
  rw [hg0]
  have GG0 := Aside0.mk G0
  have GB0 := Aside0.mk gg0
  have HBn0 := Aside0.mk hB0
  clear hg0 G0 gg0 hB0
  have l1 : (t1 : Int) < 64 := by omega
  have gg1 := gn_in x0 x1 x2 x3 o10 o11 o12 o13 b0 b1 b2 b3
  have G1 := fun W => gain_any b off n c x0 x1 x2 x3 f1 t1 (i1 : Int) o10 o11 o12 o13 W hn
  change ∀ W, _ → _ → _ → _ → _ → _ → _ → _ → Calls _ _ _ _ (fun e w' => e = .returned (.int .i64 (gn x0 x1 x2 x3 o10 o11 o12 o13)) ∧ _) at G1
  obtain ⟨g1, hg1⟩ : ∃ g, gn x0 x1 x2 x3 o10 o11 o12 o13 = g := ⟨_, rfl⟩
  rw [hg1] at gg1
  simp only [hg1] at G1
  rw [hg1]
  have GG1 := Aside0.mk G1
  have GB1 := Aside0.mk gg1
  have HBn1 := Aside0.mk hB1
  clear hg1 G1 gg1 hB1
  have BB := Aside0.mk (And.intro b0 (And.intro b1 (And.intro b2 b3)))
  have CC := Aside0.mk (And.intro c0 (And.intro c1 (And.intro c2 c3)))
  clear b0 b1 b2 b3 c0 c1 c2 c3
  have EE := Aside0.mk (And.intro e7 (And.intro e8 (And.intro e9 (And.intro e10 (And.intro e11 (And.intro e12 (And.intro e13 (h1))))))))
  clear h1 e7 e8 e9 e10 e11 e12 e13
  go_enter Tryd.func63, Tryd.ntmps63
  go_wp2_with fail
  refine wp_loop_rounds 3 ?_
  rw [rounds_succ]
  have k0 : ∀ o, (w.alloc o).cell? ⟨bb, bo + t0, none⟩ = some (.int .i64 B0) := fun o => Lib.cell?_alloc_some _ h0
  clear h0
  go_upto_block 1 with fail
  go_cut [7] (fun s7 wx => s7 = .int .i64 (stp none40 g0 B0) ∧ Below w.heap.size w wx)
  case first =>
    go_wp2_with fail
    go_quiet (fail)
    by_cases hq : B0 = none40
    · have hz : ((B0 == (-1099511627776 : Int)) = true) := by rw [hq]; rfl
      go_wp2_with fail
      go_meet
      exact ⟨by rw [stp_none hq]; rfl, pw_below_drewN (below_alloc (Below.refl _ _) _) _⟩
    · have hz : ((B0 == (-1099511627776 : Int)) = false) := by simpa [none40] using hq
      go_wp2_with fail
      refine (GG0.out _ (below_cell (pw_below_drewN (below_alloc (Below.refl _ _) _) _) CC.out.1) (below_cell (pw_below_drewN (below_alloc (Below.refl _ _) _) _) CC.out.2.1) (below_cell (pw_below_drewN (below_alloc (Below.refl _ _) _) _) CC.out.2.2.1) (below_cell (pw_below_drewN (below_alloc (Below.refl _ _) _) _) CC.out.2.2.2) BB.out.1 BB.out.2.1 BB.out.2.2.1 BB.out.2.2.2).mono ?_
      rintro e w1 ⟨rfl, hB1⟩
      have HB1 := Aside0.mk ((pw_below_drewN (below_alloc (Below.refl _ _) _) _).trans (hB1.mono (by simp)))
      have hwr : IntKind.i64.wrap (g0 + B0) = g0 + B0 := IntWalk.i64_in _ (by have h1 := HBn0.out; have h2 := GB0.out; rcases h1 with h1 | h1 <;> omega)
      clear hB1
      go_wp2_with fail
      all_goals
        go_meet
        refine ⟨?_, HB1.out⟩
        rw [stp_some hq]
        congr 1
        rename_i hle
        have hnn : none40 = -1099511627776 := rfl
        omega
  case rest =>
    obtain ⟨rfl, hW⟩ := hcut
    have HW0 := Aside0.mk hW
    clear hW
    go_wp2_with fail
    rw [rounds_succ]
    obtain ⟨e7, e8, e9, e10, e11, e12, e13, h1⟩ := EE.out
    replace e7 := below_cell HW0.out e7
    replace e8 := below_cell HW0.out e8
    replace e9 := below_cell HW0.out e9
    replace e10 := below_cell HW0.out e10
    replace e11 := below_cell HW0.out e11
    replace e12 := below_cell HW0.out e12
    replace e13 := below_cell HW0.out e13
    replace h1 := below_cell HW0.out h1
    have k1 : ∀ o, (wc.alloc o).cell? ⟨bb, bo + t1, none⟩ = some (.int .i64 B1) := fun o => Lib.cell?_alloc_some _ h1
    clear h1
    go_upto_block 1 with fail
    go_cut [7] (fun s7 wx => s7 = .int .i64 (stp (stp none40 g0 B0) g1 B1) ∧ Below w.heap.size w wx)
    case first =>
      go_wp2_with fail
      go_quiet (fail)
      by_cases hq : B1 = none40
      · have hz : ((B1 == (-1099511627776 : Int)) = true) := by rw [hq]; rfl
        go_wp2_with fail
        go_meet
        exact ⟨by rw [stp_none hq], (HW0.out.trans ((pw_below_drewN (below_alloc (Below.refl _ _) _) _).mono HW0.out.size))⟩
      · have hz : ((B1 == (-1099511627776 : Int)) = false) := by simpa [none40] using hq
        go_wp2_with fail
        refine (GG1.out _ (below_cell ((HW0.out.trans ((pw_below_drewN (below_alloc (Below.refl _ _) _) _).mono HW0.out.size))) CC.out.1) (below_cell ((HW0.out.trans ((pw_below_drewN (below_alloc (Below.refl _ _) _) _).mono HW0.out.size))) CC.out.2.1) (below_cell ((HW0.out.trans ((pw_below_drewN (below_alloc (Below.refl _ _) _) _).mono HW0.out.size))) CC.out.2.2.1) (below_cell ((HW0.out.trans ((pw_below_drewN (below_alloc (Below.refl _ _) _) _).mono HW0.out.size))) CC.out.2.2.2) BB.out.1 BB.out.2.1 BB.out.2.2.1 BB.out.2.2.2).mono ?_
        rintro e w1 ⟨rfl, hB1⟩
        have HB1 := Aside0.mk (((HW0.out.trans ((pw_below_drewN (below_alloc (Below.refl _ _) _) _).mono HW0.out.size))).trans (hB1.mono (by have := HW0.out.size; simp; omega)))
        have hwr : IntKind.i64.wrap (g1 + B1) = g1 + B1 := IntWalk.i64_in _ (by have h1 := HBn1.out; have h2 := GB1.out; rcases h1 with h1 | h1 <;> omega)
        clear hB1
        go_wp2_with fail
        all_goals
          go_meet
          refine ⟨?_, HB1.out⟩
          rw [stp_some hq]
          congr 1
          rename_i hle
          have hnn : none40 = -1099511627776 := rfl
          omega
    case rest =>
      obtain ⟨rfl, hW⟩ := hcut
      have HW1 := Aside0.mk hW
      clear hW
      go_wp2_with fail
      rw [rounds_succ]
      go_wp2_with fail
      go_ret
      exact ⟨rfl, HW1.out⟩

end Go.Proofs.YticiilolmkbncaaDoor.Vit
