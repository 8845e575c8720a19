/- The law ViterbiLong: a list whose code is too long is refused; the longest is not. Each theorem says its own conditions. -/
import Derived.Test.YticiilolmkbncaaDoorVo
import Derived.RegionTactic
import Derived.ChangeAlike
namespace Go.Proofs.YticiilolmkbncaaDoor.Vit
open Go.RowKit Go.Proofs.YticiilolmkbncaaDoorW.PrintWords Go.Proofs.YticiilolmkbncaaDoorW.PrintLast Go.Proofs.YticiilolmkbncaaDoorW.PrintMore Go.Proofs.YticiilolmkbncaaDoor.Mem
attribute [local go_sem] max2_int min2_int max_two min_two max_three min_three max_four min_four   -- for this text's walks alone
set_option linter.unusedVariables false
set_option linter.unusedSimpArgs false

theorem make_int (L : Nat) (hL : L ≤ 1099511627776) : ∀ W : World, (Instr.makeSlice 22 (.int .i64 (L : Int)) (.int .i64 (L : Int))).run Tryd.prog W = .ok (.slice (some ⟨W.heap.size, 0, none⟩) L L) (W.alloc (.cells (madeCells #[.int .i64 0] L) 3)) := by
  have h := print_make_int (P := Tryd.prog) 22 3 (.int .i64 0) 8 Tryd.underlying22 info3 rfl (by decide) (L : Int) (by omega) (by omega)
  rwa [Int.toNat_natCast] at h
theorem make_byte (L : Nat) (hL : L ≤ 1099511627776) : ∀ W : World, (Instr.makeSlice 25 (.int .i64 (L : Int)) (.int .i64 (L : Int))).run Tryd.prog W = .ok (.slice (some ⟨W.heap.size, 0, none⟩) L L) (W.alloc (.cells (madeCells #[.int .u8 0] L) 5)) := by
  have h := print_make_int (P := Tryd.prog) 25 5 (.int .u8 0) 1 Tryd.underlying25 info5 rfl (by decide) (L : Int) (by omega) (by omega)
  rwa [Int.toNat_natCast] at h
theorem made_C {k : IntKind} {W : World} {b e L : Nat} (hL : L ≤ 1099511627776) (h : W.heap[b]? = some (.cells (madeCells #[.int k 0] L) e (0, 0))) : (Kd.int k).C W (some ⟨b, 0, none⟩) L (List.replicate L 0) := by
  have e1 : madeCells #[Value.int k 0] L = ((List.replicate L (0 : Int)).map (Value.int k)).toArray := by
    apply Array.toList_inj.1
    simp [madeCells]
    apply List.ext_getElem?
    intro i
    by_cases hi : i < L
    · rw [List.getElem?_map, List.getElem?_range hi, List.getElem?_replicate, if_pos hi]
      simp [Nat.mod_one]
    · rw [List.getElem?_eq_none (by simp; omega), List.getElem?_eq_none (by simp; omega)]
  rw [e1] at h
  have := C_block (List.replicate L 0) (by simp; omega) h
  rwa [List.length_replicate] at this

theorem decOf_zero {n : Nat} (hn : n ≤ 4096) : decOf (List.replicate (4 * (n + 6)) 0) = (ints (zs n), 0, 0) := by
  rw [decOf_is (n := n) (by simp) hn (fun x hx => by have := List.eq_of_mem_replicate hx; omega)]
  obtain ⟨h1, h2⟩ := best_zero (f := fun j => (List.replicate (4 * (n + 6)) (0 : Int)).getD j 0) hn (fun j => by
    show (List.replicate (4 * (n + 6)) (0 : Int)).getD j 0 = 0
    rw [List.getD_eq_getElem?_getD, List.getElem?_replicate]
    split <;> rfl)
  rw [h1, h2]
theorem ints_zs (n : Nat) : ints (zs n) = List.replicate n 0 := by simp [ints, zs]

set_option maxHeartbeats 3200000 in
set_option maxRecDepth 100000 in
theorem long_any (a0 : Int) (w : World) (ht : Taps w) : Calls Tryd.prog 7 #[.int .i64 a0] w fun e w' => e = .returned (.bool true) ∧ Below w.heap.size w w' := by
  have HT := Aside0.mk ht
  clear ht
  have hm0 : 0 ≤ (IntKind.u64.wrap a0).tmod 3 ∧ (IntKind.u64.wrap a0).tmod 3 < 3 := by
    have h0 : 0 ≤ IntKind.u64.wrap a0 := by have := IntKind.wrap_u64 a0; omega
    rw [Int.tmod_eq_emod_of_nonneg h0]
    omega
  obtain ⟨r, hr⟩ : ∃ r : Nat, (IntKind.u64.wrap a0).tmod 3 = (r : Int) := ⟨((IntKind.u64.wrap a0).tmod 3).toNat, by omega⟩
  obtain ⟨N, hN⟩ : ∃ N, 4096 + r = N := ⟨_, rfl⟩
  obtain ⟨L, hL⟩ : ∃ L, 4 * (N + 6) = L := ⟨_, rfl⟩
  have hr3 : r < 3 := by omega
  have f1 : wrap64 (r : Int) = (r : Int) := by unfold wrap64; omega
  have f2 : wrap64 (4096 + (r : Int)) = (N : Int) := by unfold wrap64; omega
  have f3 : wrap64 ((N : Int) + 6) = (N : Int) + 6 := by unfold wrap64; omega
  have f4 : wrap64 (4 * ((N : Int) + 6)) = (L : Int) := by unfold wrap64; omega
  obtain ⟨Z, hZ⟩ : ∃ Z, madeCells #[Value.int .i64 0] L = Z := ⟨_, rfl⟩
  obtain ⟨Z5, hZ5⟩ : ∃ Z5, madeCells #[Value.int .u8 0] N = Z5 := ⟨_, rfl⟩
  have hmk := make_int L (by omega)
  have hmb := make_byte N (by omega)
  rw [hZ] at hmk
  rw [hZ5] at hmb
  have HZ := Aside0.mk (And.intro hZ (And.intro hZ5 (And.intro hN (And.intro hL hr3))))
  clear hZ hZ5 hN hL hr3 hm0
  go_enter Tryd.func7, Tryd.ntmps7
  go_wp2_with fail
  have hCz : (Kd.int .i64).C (w.alloc (.cells Z 3)) (some ⟨w.heap.size, 0, none⟩) L (List.replicate L 0) := made_C (by have := HZ.out; omega) (by rw [HZ.out.1]; exact heap_alloc_new w _)
  have hdec := Decode_any (List.replicate L 0) _ L _ (by rw [List.length_replicate]; exact hCz) (by simp) (by rw [List.length_replicate]; have := HZ.out; omega) (HT.out.below (below_alloc (Below.refl _ _) _))
  rw [List.length_replicate] at hdec
  by_cases h0 : r = 0
  · have hL : L = 4 * (N + 6) := HZ.out.2.2.2.1.symm
    have hN : N = 4096 := by have := HZ.out; omega
    have hD : decOf (List.replicate L 0) = (List.replicate N 0, 0, 0) := by
      rw [hL, decOf_zero (by omega), ints_zs]
    rw [hD] at hdec
    have hgt : ¬ 4096 < (N : Int) := by omega
    refine hdec.mono ?_
    rintro e w2 ⟨v2, rfl, hR2, hB2⟩
    obtain ⟨A2, c2, e2, hc2, hC2⟩ := Kd.R_reads hR2
    replace e2 : v2 = .slice A2 N c2 := by rw [e2, List.length_replicate]
    replace hC2 : (Kd.int .u8).C w2 A2 N (List.replicate N 0) := by rw [List.length_replicate] at hC2; exact hC2
    subst e2
    have hB := (below_alloc (Below.refl w.heap.size w) (.cells Z 3)).trans (hB2.mono (by simp))
    have HB2 := Aside0.mk hB
    have HDS := Aside0.mk (decodes_any w2 (HT.out.below hB))
    have HC2 := Aside0.mk hC2
    obtain ⟨S, hS⟩ : ∃ S, strOfNums (List.replicate N 0) = S := ⟨_, rfl⟩
    have hb1 : ∀ (W : World) q, (convert 25 9 (.slice (some ⟨W.heap.size, 0, none⟩) N N)).run Tryd.prog ((W.alloc (.cells Z5 5)).drewN q) = .ok (.string S) ((W.alloc (.cells Z5 5)).drewN q) := by
      intro W q
      rw [← hS]
      exact Kd.C_string Tryd.underlying25 Tryd.underlying5 Tryd.underlying9 (made_C (by omega) (by rw [HZ.out.2.1]; exact heap_alloc_new W _))
    have HS := Aside0.mk hS
    clear hB hB2 hR2 hC2 hCz hc2 hD h0 hL hN hS
    go_wp2_with (first | (go_at_call 16; refine HDS.out.mono ?_; rintro e w3 ⟨rfl, hB3⟩; have HB3 := Aside0.mk hB3; clear hB3))
    have kb0 : (convert 25 9 (.slice A2 N c2)).run Tryd.prog w3.drew = .ok (.string S) w3.drew := by
      rw [← HS.out]
      exact Kd.C_string Tryd.underlying25 Tryd.underlying5 Tryd.underlying9 (Kd.C_drew (Kd.C_below HC2.out HB3.out))
    have kb1 : (convert 25 9 (.slice A2 N c2)).run Tryd.prog ((w3.alloc (.cells Z5 5)).drew) = .ok (.string S) ((w3.alloc (.cells Z5 5)).drew) := by
      rw [← HS.out]
      exact Kd.C_string Tryd.underlying25 Tryd.underlying5 Tryd.underlying9 (Kd.C_drew (Kd.C_alloc (Kd.C_below HC2.out HB3.out) _))
    have km : (convert 25 9 (.slice (some ⟨w3.heap.size, 0, none⟩) N N)).run Tryd.prog ((w3.alloc (.cells Z5 5)).drew) = .ok (.string S) ((w3.alloc (.cells Z5 5)).drew) := hb1 w3 1
    clear hb1
    go_region_held (fun w' => (convert 25 9 (.slice A2 N c2)).run Tryd.prog w' = .ok (.string S) w') (first | exact kb1 | exact kb0 | go_keep) (fail)
    all_goals go_wp2_with fail
    all_goals go_ret
    all_goals exact ⟨rfl, HB2.out.trans ((pw_below_drewN (below_alloc HB3.out _) 1).mono HB2.out.size)⟩
  · have hD : decOf (List.replicate L 0) = ([], 0, 1) := by
      unfold decOf
      rw [if_pos (by rw [List.length_replicate]; have := HZ.out; omega)]
    rw [hD] at hdec
    have hgt : 4096 < (N : Int) := by have := HZ.out; omega
    refine hdec.mono ?_
    rintro e w2 ⟨v2, rfl, hR2, hB2⟩
    obtain ⟨A2, c2, e2, hc2, hC2⟩ := Kd.R_reads hR2
    replace e2 : v2 = .slice A2 0 c2 := e2
    subst e2
    have hB := (below_alloc (Below.refl w.heap.size w) (.cells Z 3)).trans (hB2.mono (by simp))
    have HB2 := Aside0.mk hB
    have HDS := Aside0.mk (decodes_any w2 (HT.out.below hB))
    clear hB hB2 hR2 hC2 hCz hc2 hD h0
    go_wp2_with (first | (go_at_call 16; refine HDS.out.mono ?_; rintro e w3 ⟨rfl, hB3⟩; have HB3 := Aside0.mk hB3; clear hB3))
    go_ret
    exact ⟨rfl, HB2.out.trans (HB3.out.mono HB2.out.size)⟩
end Go.Proofs.YticiilolmkbncaaDoor.Vit
