/- slices.Sort at numbers: breakPatterns. Each theorem says its own conditions. -/
import Derived.Test.YtjiligngjlejmaaSg
import Derived.Deep.CutRange
import Derived.BigQuiet
import Derived.CellFam
import Derived.Sort.WalkA
import Derived.Sort.WalkA6
namespace Go.Proofs.Ytjiligngjlejmaa.Srt
open Go.Shelf Go.RowKit Go.Sort Go.Proofs.Ytjiligngjlejmaa.Mem Go.Proofs.YtjiligngjlejmaaW.PrintWords Go.Proofs.YtjiligngjlejmaaW.PrintLast Go.Proofs.YtjiligngjlejmaaW.PrintMore
set_option linter.unusedVariables false
set_option linter.unusedSimpArgs false

set_option maxHeartbeats 3200000 in
set_option maxRecDepth 100000 in
theorem next16 (rb X : Nat) (hX : X < 18446744073709551616) (w : World) (hc : w.cell? ⟨rb, 0, none⟩ = some (.int .u64 X)) (hf : w.frozen? ⟨rb, 0, none⟩ = false) :
    Calls Try.prog 37 #[.pointer (some ⟨rb, 0, none⟩)] w fun e w' => e = .returned (.int .u64 (xorNextN X : Nat)) ∧ w' = (w.setCell ⟨rb, 0, none⟩ (.int .u64 (xorNextN X : Nat))).drewN 3 := by
  obtain ⟨x1, h1⟩ : ∃ y : Nat, X ^^^ (X * 8192 % 18446744073709551616) = y := ⟨_, rfl⟩
  obtain ⟨x2, h2⟩ : ∃ y : Nat, x1 ^^^ (x1 / 128) = y := ⟨_, rfl⟩
  obtain ⟨x3, h3⟩ : ∃ y : Nat, x2 ^^^ (x2 * 131072 % 18446744073709551616) = y := ⟨_, rfl⟩
  have l1 : x1 < 18446744073709551616 := by rw [← h1]; exact Nat.xor_lt_two_pow (n := 64) (by omega) (by omega)
  have l2 : x2 < 18446744073709551616 := by rw [← h2]; exact Nat.xor_lt_two_pow (n := 64) (by omega) (by omega)
  have e1 : Go.bits .xor .u64 (X : Int) (IntKind.u64.wrap ((X : Int) * 8192)) = (x1 : Int) := by
    rw [IntKind.wrap_u64, show ((X : Int) * 8192 % 18446744073709551616) = ((X * 8192 % 18446744073709551616 : Nat) : Int) by omega, bits_xor_u64_nat _ _ hX (by omega), h1]
  have e2 : Go.bits .xor .u64 (x1 : Int) ((x1 : Int) / 128) = (x2 : Int) := by
    rw [show ((x1 : Int) / 128) = ((x1 / 128 : Nat) : Int) by omega, bits_xor_u64_nat _ _ l1 (by omega), h2]
  have e3 : Go.bits .xor .u64 (x2 : Int) (IntKind.u64.wrap ((x2 : Int) * 131072)) = (x3 : Int) := by
    rw [IntKind.wrap_u64, show ((x2 : Int) * 131072 % 18446744073709551616) = ((x2 * 131072 % 18446744073709551616 : Nat) : Int) by omega, bits_xor_u64_nat _ _ l2 (by omega), h3]
  have hv : xorNextN X = x3 := by
    unfold xorNextN
    simp only [h1, h2, h3]
  rw [hv]
  clear h1 h2 h3 hv
  have hss : ∀ v v', (w.setCell ⟨rb, 0, none⟩ v).setCell ⟨rb, 0, none⟩ v' = w.setCell ⟨rb, 0, none⟩ v' := setCell_setCell w rb 0
  go_enter Try.func37, Try.ntmps37
  go_wp2
  go_region
  all_goals go_wp2
  all_goals go_region
  all_goals go_wp2
  all_goals go_region
  all_goals go_wp2
  go_ret
  exact ⟨rfl, rfl⟩
theorem npo16 (n : Nat) (hn : n < 4611686018427387904) (w : World) : Calls Try.prog 36 #[.int .i64 n] w fun e w' => e = .returned (.int .u64 ((1 <<< bitsLen n : Nat) : Int)) ∧ w' = w := by
  have hLen : ∀ w, Calls Try.prog 22 #[.int .u64 (n : Int)] w fun e w' => e = .returned (.int .i64 (bitsLen n : Nat)) ∧ w' = w := fun w => by
    have h := Any.bits_Len Try.lays125 (n : Int) w (by omega) (by omega)
    change Calls Try.prog 22 _ _ _ at h
    rwa [Int.toNat_natCast, bitLen_eq _ (by omega)] at h
  have hk : bitsLen n ≤ 62 := (bitsLen_le_iff n 62).2 (by omega)
  have hp := wrap_two_pow (bitsLen n) hk
  go_enter Try.func36, Try.ntmps36
  go_wp2_with (go_at_call 22; refine (hLen _).mono ?_; rintro e w' ⟨rfl, rfl⟩)
  go_ret
  exact ⟨rfl, rfl⟩
theorem AtB.setNew {w W : World} {blk off : Nat} {d0 d : Array Int} (h : AtB w blk off d0 d W) {sb o : Nat} (hs : w.heap.size ≤ sb) (v : Value) : AtB w blk off d0 d (W.setCell ⟨sb, o, none⟩ v) := by
  obtain ⟨W0, h0, hB⟩ := h.ex
  exact ⟨⟨W0, h0, hB.setCell (by show W0.heap.size ≤ sb; rw [h0.hsize]; exact hs) _⟩, h.lt⟩
set_option maxHeartbeats 3200000 in
set_option maxRecDepth 100000 in
theorem break16 (blk off cap a b : Nat) (d : Array Int) (w : World) (hH : Holds e16 w blk off d) (hblk : blk < w.heap.size) (hab : a ≤ b) (hb : b ≤ d.size) (h12 : 12 < b - a) (hsz : d.size ≤ 1000000) :
    Calls Try.prog 26 #[.slice (some ⟨blk, off, none⟩) d.size cap, .int .i64 a, .int .i64 b] w fun e w' => e = .returned (.tuple #[]) ∧ AtB w blk off d (breakPatterns d a b) w' := by
  obtain ⟨L, hL⟩ : ∃ L, b - a = L := ⟨_, rfl⟩
  have hbL : b = a + L := by omega
  rw [hbL, breakPatterns_eq d a L (by omega)]
  obtain ⟨M, hM⟩ : ∃ M : Nat, 1 <<< bitsLen L = M := ⟨_, rfl⟩
  have hM1 : 1 ≤ M := by rw [← hM, Nat.one_shiftLeft]; exact Nat.two_pow_pos _
  have hM2 : M ≤ 2 * L := by rw [← hM, Nat.one_shiftLeft]; exact two_pow_bitsLen_le (by omega)
  have hnp := fun w => npo16 L (by omega) w
  rw [hM] at hnp ⊢
  obtain ⟨I0, hI0⟩ : ∃ I0, a + L / 4 * 2 - 1 = I0 := ⟨_, rfl⟩
  rw [hI0]
  obtain ⟨q, hq⟩ : ∃ q, L / 4 = q := ⟨_, rfl⟩
  have hW0 : AtB w blk off d d (w.alloc (.cells #[.int .u64 (L : Int)] 74)) := (AtB.self hH hblk).below (below_alloc (RowKit.Below.refl _ _) _)
  have hbx0 := heap_alloc_new w (.cells #[.int .u64 (L : Int)] 74)
  have eL : (a : Int) + (L : Int) - (a : Int) = (L : Int) := by omega
  have eq4 : (L : Int).tdiv 4 = (q : Int) := by rw [Int.tdiv_eq_ediv_of_nonneg (by omega)]; omega
  have e8 : (8 : Int) ≤ (L : Int) := by omega
  have eI : (a : Int) + (q : Int) * 2 - 1 = (I0 : Int) := by omega
  have hIq : I0 + 1 = a + q * 2 := by omega
  have hI3 : I0 + 2 < a + L := by omega
  have hLs : a + L ≤ d.size := by omega
  have hL12 : 12 < L := by omega
  have HC := Aside0.mk (And.intro hnp (And.intro hW0 (And.intro hbx0 hblk)))
  have hba : ((a + L : Nat) : Int) = (a : Int) + (L : Int) := by push_cast; rfl
  rw [hba]
  clear hH hL hbL hM hnp hI0 hq hW0 hbx0 hab hb h12 hba
  go_enter Try.func26, Try.ntmps26
  go_wp2_with (go_at_call 36; refine (HC.out.1 _).mono ?_; rintro e w' ⟨rfl, rfl⟩)
  go_loopw [9] (fun vi wr => ∃ (t : Nat) (r : UInt64) (dk : Array Int), vi = .int .i64 ((I0 + t : Nat) : Int) ∧ t ≤ 3 ∧ AtB w blk off d dk wr ∧ wr.heap[w.heap.size]? = some (.cells #[.int .u64 ((r.toNat : Nat) : Int)] 74 (0, 0)) ∧ bpRest a L M I0 (3 - t) t (r, dk) = bpRest a L M I0 3 0 (UInt64.ofNat L, d)) (fun vi _ => I0 + 3 - (intOf vi).toNat)
  case atStart => exact ⟨0, UInt64.ofNat L, d, by go_num, by omega, HC.out.2.1, by rw [show (UInt64.ofNat L).toNat = L from by simp; omega]; exact HC.out.2.2.1, rfl⟩
  case round =>
    obtain ⟨t, r, dk, rfl, ht, hA, hbx, hO⟩ := hrel
    by_cases h3 : t < 3
    · obtain ⟨R, hR⟩ : ∃ R : Nat, r.toNat = R := ⟨_, rfl⟩
      have lR : R < 18446744073709551616 := by rw [← hR]; exact r.toNat_lt
      rw [hR] at hbx
      have hnx := next16 w.heap.size R lR wr (blk_cell hbx 0) (blk_frozen hbx 0)
      obtain ⟨R2, hR2⟩ : ∃ R2 : Nat, xorNextN R = R2 := ⟨_, rfl⟩
      have lR2 : R2 < 18446744073709551616 := by rw [← hR2]; exact xorNextN_lt R lR
      have hxr : (xorNext r).toNat = R2 := by rw [xorNext_toNat, hR, hR2]
      rw [hR2] at hnx
      obtain ⟨O, hOd⟩ : ∃ O : Nat, R2 &&& (M - 1) = O := ⟨_, rfl⟩
      have lO : O ≤ M - 1 := by rw [← hOd]; exact Nat.and_le_right
      have eAnd : Go.bits .and .u64 (R2 : Int) ((M : Int) - 1) = (O : Int) := by
        rw [show ((M : Int) - 1) = ((M - 1 : Nat) : Int) by omega, bits_and_u64_nat _ _ lR2 (by omega), hOd]
      have hA1 : AtB w blk off d dk ((wr.setCell ⟨w.heap.size, 0, none⟩ (.int .u64 (R2 : Int))).drewN 3) := (hA.setNew (Nat.le_refl _) _).drewN 3
      have hbx1 : ∀ q u u', ((((((wr.setCell ⟨w.heap.size, 0, none⟩ (.int .u64 (R2 : Int))).drewN 3).drewN q).setCell ⟨blk, u, none⟩ u')).heap[w.heap.size]?) = some (.cells #[.int .u64 (R2 : Int)] 74 (0, 0)) := fun q u u' => by
        have h := blk_set hbx 0 (.int .u64 (R2 : Int))
        exact (Below.heap_setCell _ ⟨blk, u, none⟩ u' w.heap.size (by show w.heap.size ≠ blk; have := HC.out.2.2.2; omega)).trans h
      have hbx2 : ∀ q u u' z z', (((((((wr.setCell ⟨w.heap.size, 0, none⟩ (.int .u64 (R2 : Int))).drewN 3).drewN q).setCell ⟨blk, u, none⟩ u').setCell ⟨blk, z, none⟩ z')).heap[w.heap.size]?) = some (.cells #[.int .u64 (((xorNext r).toNat : Nat) : Int)] 74 (0, 0)) := fun q u u' z z' => by
        rw [hxr]
        exact (Below.heap_setCell _ ⟨blk, z, none⟩ z' w.heap.size (by show w.heap.size ≠ blk; have := HC.out.2.2.2; omega)).trans (hbx1 q u u')
      obtain ⟨G, hG⟩ : ∃ G : Nat → Int, ∀ t, G t = dk[t]! := ⟨fun t => dk[t]!, fun _ => rfl⟩
      have hcw : ∀ x, x < d.size → ((wr.setCell ⟨w.heap.size, 0, none⟩ (.int .u64 (R2 : Int))).drewN 3).cell? ⟨blk, off + x, none⟩ = some (.int .u16 (G x)) := fun x hx => by rw [hG]; exact (hA1.here x (by rw [hA1.size]; exact hx)).1
      have hfw : ∀ x, x < d.size → ((wr.setCell ⟨w.heap.size, 0, none⟩ (.int .u64 (R2 : Int))).drewN 3).frozen? ⟨blk, off + x, none⟩ = false := fun x hx => (hA1.here x (by rw [hA1.size]; exact hx)).2
      obtain ⟨W1, hW1⟩ : ∃ W1, (wr.setCell ⟨w.heap.size, 0, none⟩ (.int .u64 (R2 : Int))).drewN 3 = W1 := ⟨_, rfl⟩
      rw [hW1] at hA1 hnx
      simp only [hW1] at hcw hfw hbx2
      have hOe : (xorNext r).toNat &&& (M - 1) = O := by rw [hxr, hOd]
      have HR := Aside0.mk (And.intro hnx (And.intro hA1 (And.intro hbx2 (And.intro hG (And.intro hO hOe.symm)))))
      clear hnx hA1 hbx2 hbx1 hbx hG hO hOe hA hR hR2 hOd hxr hW1
      by_cases hLO : L ≤ O
      · have hLOi : (L : Int) ≤ (O : Int) := by omega
        have hOL : (O : Int) - (L : Int) = ((O - L : Nat) : Int) := by omega
        by_cases hEq : I0 + t = a + (O - L)
        · have hsw := fun q => HR.out.2.1.swap q (I0 + t) (a + (O - L)) (by omega) (by omega)
          simp only [← HR.out.2.2.2.1] at hsw
          rw [hEq] at hsw
          have hstep := bp_step a L M I0 t r dk ((O - L)) (by omega) (by rw [← HR.out.2.2.2.2.2, if_pos (by omega)])
          rw [hEq] at hstep
          have HX := Aside0.mk (And.intro hsw hstep)
          clear hsw hstep
          go_wp2_with (go_at_call 37; refine HR.out.1.mono ?_; rintro e w' ⟨rfl, rfl⟩)
          go_region
          all_goals go_wp2
          all_goals (refine ⟨?_, ?_⟩)
          · first | exact ⟨t + 1, xorNext r, _, by first | rfl | (congr 1; omega), by omega, (HX.out.1 0).drewN 1, HR.out.2.2.1 0 _ _ _ _, by rw [← HR.out.2.2.2.2.1, HX.out.2]⟩ | (repeat (first | exact ⟨⟨t + 1, xorNext r, _, by first | rfl | (congr 1; omega), by omega, (HX.out.1 0).drewN 1, HR.out.2.2.1 0 _ _ _ _, by rw [← HR.out.2.2.2.2.1, HX.out.2]⟩, rfl⟩ | apply Exists.intro))
          · simp [intOf]; omega
        · have hEq2 : I0 + t < a + (O - L) ∨ a + (O - L) < I0 + t := by omega
          have hsw := fun q => HR.out.2.1.swap q (I0 + t) (a + (O - L)) (by omega) (by omega)
          simp only [← HR.out.2.2.2.1] at hsw
          have hstep := bp_step a L M I0 t r dk ((O - L)) (by omega) (by rw [← HR.out.2.2.2.2.2, if_pos (by omega)])
          have HX := Aside0.mk (And.intro hsw hstep)
          clear hsw hstep
          go_wp2_with (go_at_call 37; refine HR.out.1.mono ?_; rintro e w' ⟨rfl, rfl⟩)
          go_region
          all_goals go_wp2
          all_goals (refine ⟨?_, ?_⟩)
          · first | exact ⟨t + 1, xorNext r, _, by first | rfl | (congr 1; omega), by omega, (HX.out.1 0).drewN 1, HR.out.2.2.1 0 _ _ _ _, by rw [← HR.out.2.2.2.2.1, HX.out.2]⟩ | (repeat (first | exact ⟨⟨t + 1, xorNext r, _, by first | rfl | (congr 1; omega), by omega, (HX.out.1 0).drewN 1, HR.out.2.2.1 0 _ _ _ _, by rw [← HR.out.2.2.2.2.1, HX.out.2]⟩, rfl⟩ | apply Exists.intro))
          · simp [intOf]; omega
      · have hLOi : ¬ (L : Int) ≤ (O : Int) := by omega
        by_cases hEq : I0 + t = a + O
        · have hsw := fun q => HR.out.2.1.swap q (I0 + t) (a + O) (by omega) (by omega)
          simp only [← HR.out.2.2.2.1] at hsw
          rw [hEq] at hsw
          have hstep := bp_step a L M I0 t r dk (O) (by omega) (by rw [← HR.out.2.2.2.2.2, if_neg (by omega)])
          rw [hEq] at hstep
          have HX := Aside0.mk (And.intro hsw hstep)
          clear hsw hstep
          go_wp2_with (go_at_call 37; refine HR.out.1.mono ?_; rintro e w' ⟨rfl, rfl⟩)
          go_region
          all_goals go_wp2
          all_goals (refine ⟨?_, ?_⟩)
          · first | exact ⟨t + 1, xorNext r, _, by first | rfl | (congr 1; omega), by omega, (HX.out.1 0).drewN 1, HR.out.2.2.1 0 _ _ _ _, by rw [← HR.out.2.2.2.2.1, HX.out.2]⟩ | (repeat (first | exact ⟨⟨t + 1, xorNext r, _, by first | rfl | (congr 1; omega), by omega, (HX.out.1 0).drewN 1, HR.out.2.2.1 0 _ _ _ _, by rw [← HR.out.2.2.2.2.1, HX.out.2]⟩, rfl⟩ | apply Exists.intro))
          · simp [intOf]; omega
        · have hEq2 : I0 + t < a + O ∨ a + O < I0 + t := by omega
          have hsw := fun q => HR.out.2.1.swap q (I0 + t) (a + O) (by omega) (by omega)
          simp only [← HR.out.2.2.2.1] at hsw
          have hstep := bp_step a L M I0 t r dk (O) (by omega) (by rw [← HR.out.2.2.2.2.2, if_neg (by omega)])
          have HX := Aside0.mk (And.intro hsw hstep)
          clear hsw hstep
          go_wp2_with (go_at_call 37; refine HR.out.1.mono ?_; rintro e w' ⟨rfl, rfl⟩)
          go_region
          all_goals go_wp2
          all_goals (refine ⟨?_, ?_⟩)
          · first | exact ⟨t + 1, xorNext r, _, by first | rfl | (congr 1; omega), by omega, (HX.out.1 0).drewN 1, HR.out.2.2.1 0 _ _ _ _, by rw [← HR.out.2.2.2.2.1, HX.out.2]⟩ | (repeat (first | exact ⟨⟨t + 1, xorNext r, _, by first | rfl | (congr 1; omega), by omega, (HX.out.1 0).drewN 1, HR.out.2.2.1 0 _ _ _ _, by rw [← HR.out.2.2.2.2.1, HX.out.2]⟩, rfl⟩ | apply Exists.intro))
          · simp [intOf]; omega
    · obtain rfl : t = 3 := by omega
      have HR := Aside0.mk (And.intro hA hO)
      clear hA hO hbx
      go_wp2
      first | go_end0 | refine bodyPost_ret (results_none rfl _ _ _) rfl ?_
      have hA := HR.out.1
      have hd : dk = bpRest a L M I0 3 0 (UInt64.ofNat L, d) := by rw [← HR.out.2]; rfl
      rw [hd] at hA
      exact ⟨rfl, hA⟩
end Go.Proofs.Ytjiligngjlejmaa.Srt
