/- slices.Sort at numbers: partition. Each theorem says its own conditions. -/
import Derived.Test.YtjiligngjlejmaaSa
import Derived.Sort.WalkC
import Derived.Sort.WalkC4
import Derived.Deep.CutRange
import Derived.BigQuiet
import Derived.CellFam
import Derived.Sort.WalkA
import Derived.Sort.WalkA6
namespace Go.Proofs.Ytjiligngjlejmaa.Srt
open Go.RowKit Go.Sort Go.Proofs.YtjiligngjlejmaaW.PrintWords Go.Proofs.YtjiligngjlejmaaW.PrintLast Go.Proofs.YtjiligngjlejmaaW.PrintMore
set_option linter.unusedVariables false
set_option linter.unusedSimpArgs false

set_option maxHeartbeats 12800000 in
set_option maxRecDepth 100000 in
theorem part16 (blk off cap a b pivot : Nat) (d : Array Int) (w : World) (hH : Holds e16 w blk off d) (hap : a ≤ pivot) (hpb : pivot < b) (hb : b ≤ d.size) (hsz : d.size ≤ 1000000) :
    Calls Try.prog 32 #[.slice (some ⟨blk, off, none⟩) d.size cap, .int .i64 a, .int .i64 b, .int .i64 pivot] w fun e w' => e = .returned (.tuple #[.int .i64 ((Sort.partition ltInt d a b pivot).1 : Nat), .bool (Sort.partition ltInt d a b pivot).2.1]) ∧ At16 w blk off d (Sort.partition ltInt d a b pivot).2.2 w' := by
  have HH := Aside0.mk (At16.self hH)
  clear hH
  obtain ⟨G, hG⟩ : ∃ G : Nat → Int, ∀ t, G t = d[t]! := ⟨fun t => d[t]!, fun _ => rfl⟩
  have hcw : ∀ t, t < d.size → w.cell? ⟨blk, off + t, none⟩ = some (.int .u16 (G t)) := fun t ht => by rw [hG]; exact HH.out.cell t ht
  have hfw : ∀ t, t < d.size → w.frozen? ⟨blk, off + t, none⟩ = false := fun t ht => HH.out.frozen t ht
  have HG := Aside0.mk hG
  clear hG
  go_enter Try.func32, Try.ntmps32
  go_upto_region 1 with fail
  go_cut [8] from 12 to 25 (fun _ wx => At16 w blk off d (swp d a pivot) wx)
  case first =>
    have hsw := fun q => HH.out.swap q a pivot (by omega) (by omega)
    simp only [← HG.out] at hsw
    have HSW := Aside0.mk hsw
    clear hsw
    by_cases hpa : pivot = a
    · subst hpa
      go_region
      all_goals go_wp2_with fail
      all_goals go_meet
      all_goals exact HSW.out _
    · have hpa2 : a < pivot := by omega
      go_region
      all_goals go_wp2_with fail
      all_goals go_meet
      all_goals exact HSW.out _
  case rest =>
    clear hcw hfw HG HH
    obtain ⟨dk, hdk⟩ : ∃ dk, dk = swp d a pivot := ⟨_, rfl⟩
    obtain ⟨i, hi⟩ : ∃ i, i = a + 1 := ⟨_, rfl⟩
    obtain ⟨j, hj⟩ : ∃ j, j = b - 1 := ⟨_, rfl⟩
    have hai : a < i := by omega
    have hij : i ≤ j + 1 := by omega
    have hjb : j < b := by omega
    have hii : (a : Int) + 1 = (i : Int) := by omega
    have hjj : (b : Int) - 1 = (j : Int) := by omega
    rw [← hdk] at hcut
    have HO := Aside0.mk (And.intro hcut trivial)
    have HIJ := Aside0.mk (And.intro hi (And.intro hj hdk))
    clear hcut hi hj hdk
    go_wp2_with fail
    clear hii hjj
    go_loopw [10] (fun vi wq => ∃ (i2 : Nat), vi = .int .i64 i2 ∧ i ≤ i2 ∧ i2 ≤ j + 1 ∧ At16 w blk off d dk wq ∧ scanUp (fun x => ltInt x dk[a]!) dk j i2 = scanUp (fun x => ltInt x dk[a]!) dk j i) (fun vi _ => (j + 1 - (intOf vi).toNat))
    case atStart => exact ⟨i, rfl, Nat.le_refl _, hij, HO.out.1, rfl⟩
    case round =>
      obtain ⟨i2, rfl, hi2, hi2j, hA, hS⟩ := hrel
      obtain ⟨G, hG⟩ : ∃ G : Nat → Int, ∀ t, G t = dk[t]! := ⟨fun t => dk[t]!, fun _ => rfl⟩
      have hcw : ∀ t, t < d.size → wr.cell? ⟨blk, off + t, none⟩ = some (.int .u16 (G t)) := fun t ht => by rw [hG]; exact hA.cell t ht
      have hfw : ∀ t, t < d.size → wr.frozen? ⟨blk, off + t, none⟩ = false := fun t ht => hA.frozen t ht
      have HI := Aside0.mk (And.intro hA (And.intro hS hG))
      clear hA hS hG
      by_cases h1 : i2 ≤ j
      · cases hl : ltInt (G i2) (G a)
        · have hend : scanUp (fun x => ltInt x dk[a]!) dk j i = i2 := by
            rw [← HI.out.2.1]
            exact scanUp_end _ _ _ _ (Or.inr (by rw [← HI.out.2.2, ← HI.out.2.2]; exact hl))
          have HE := Aside0.mk hend
          clear hend
          go_wp2
          go_quiet (first | (go_at_call 30; refine Calls.quiet_of_same (less16 _ _ _)) | (go_at_call 30; exact (less16 _ _ _).mono (fun _ _ h => ⟨h.1, _, h.2⟩)))
          rw [hl]
          go_wp2_with fail
          have hAq := HI.out.1.drewN nq
          obtain ⟨wz, hwz⟩ : ∃ wz, wr.drewN nq = wz := ⟨_, rfl⟩
          rw [hwz] at hAq ⊢
          have HZ := Aside0.mk hAq
          clear hAq hwz hcw hfw
          go_loopw [11] (fun vj wq => ∃ (j2 : Nat), vj = .int .i64 j2 ∧ j2 ≤ j ∧ i2 ≤ j2 + 1 ∧ At16 w blk off d dk wq ∧ scanDown (fun x => !ltInt x dk[a]!) dk i2 j2 = scanDown (fun x => !ltInt x dk[a]!) dk i2 j) (fun vj _ => (intOf vj).toNat)
          case atStart => exact ⟨j, rfl, Nat.le_refl _, hi2j, HZ.out, rfl⟩
          case round =>
            obtain ⟨j2, rfl, hj2, hi2j2, hA, hS⟩ := hrel
            have hcw : ∀ t, t < d.size → wr.cell? ⟨blk, off + t, none⟩ = some (.int .u16 (G t)) := fun t ht => by rw [HI.out.2.2]; exact hA.cell t ht
            have hfw : ∀ t, t < d.size → wr.frozen? ⟨blk, off + t, none⟩ = false := fun t ht => hA.frozen t ht
            have HJ := Aside0.mk (And.intro hA hS)
            clear hA hS
            by_cases h2 : i2 ≤ j2
            · have hj0 : 0 < j2 := by omega
              cases hm : ltInt (G j2) (G a)
              · have hgo : scanDown (fun x => !ltInt x dk[a]!) dk i2 j2 = scanDown (fun x => !ltInt x dk[a]!) dk i2 (j2 - 1) := scanDown_go _ _ _ _ h2 hj0 (by rw [← HI.out.2.2, ← HI.out.2.2, hm]; rfl)
                have HGO := Aside0.mk hgo
                clear hgo
                go_wp2
                go_quiet (first | (go_at_call 30; refine Calls.quiet_of_same (less16 _ _ _)) | (go_at_call 30; exact (less16 _ _ _).mono (fun _ _ h => ⟨h.1, _, h.2⟩)))
                rw [hm]
                go_wp2
                exact ⟨⟨j2 - 1, by congr 1; omega, by omega, by omega, HJ.out.1.drewN nq, by rw [← HGO.out, HJ.out.2]⟩, by simp only [intOf]; omega⟩
              · have hend2 : scanDown (fun x => !ltInt x dk[a]!) dk i2 j = j2 := by
                  rw [← HJ.out.2]
                  exact scanDown_end _ _ _ _ (Or.inr (by rw [← HI.out.2.2, ← HI.out.2.2, hm]; rfl))
                have hlt2 : i2 < j2 := part_scans_lt ltInt a i j dk (by omega) HE.out.symm hend2.symm h2
                obtain ⟨RR, hRR⟩ : ∃ RR, partLoop ltInt a (i2 + 1) (j2 - 1) (swp dk i2 j2) = RR := ⟨_, rfl⟩
                have hpt := part_first_go ltInt d a b pivot HIJ.out.1 HIJ.out.2.1 HIJ.out.2.2 HE.out.symm hend2.symm (by omega)
                rw [hRR] at hpt
                have HRR := Aside0.mk hpt
                have hsw := fun q => HJ.out.1.swap q i2 j2 (by omega) (by omega)
                simp only [← HI.out.2.2] at hsw
                have HX := Aside0.mk (And.intro hRR hsw)
                clear hend2 hRR hsw hpt
                go_wp2
                go_quiet (first | (go_at_call 30; refine Calls.quiet_of_same (less16 _ _ _)) | (go_at_call 30; exact (less16 _ _ _).mono (fun _ _ h => ⟨h.1, _, h.2⟩)))
                rw [hm]
                go_wp2
                go_region
                all_goals go_wp2_with fail
                go_loopw [10, 11] (fun vi vj wr => ∃ (i j : Nat) (dk : Array Int), vi = .int .i64 i ∧ vj = .int .i64 j ∧ a < i ∧ i ≤ j + 1 ∧ j < b ∧ At16 w blk off d dk wr ∧ partLoop ltInt a i j dk = RR) (fun vi vj _ => (intOf vj + 1 - intOf vi).toNat)
                case atStart => exact ⟨i2 + 1, j2 - 1, _, by go_num, by congr 1; omega, by omega, by omega, by omega, HX.out.2 _, HX.out.1⟩
                case round =>
                  obtain ⟨i, j, dk, rfl, rfl, hai, hij, hjb, hA, hO⟩ := hrel
                  have HO := Aside0.mk (And.intro hA hO)
                  clear hA hO
                  go_wp2_with fail
                  go_loopw [10] (fun vi wq => ∃ (i2 : Nat), vi = .int .i64 i2 ∧ i ≤ i2 ∧ i2 ≤ j + 1 ∧ At16 w blk off d dk wq ∧ scanUp (fun x => ltInt x dk[a]!) dk j i2 = scanUp (fun x => ltInt x dk[a]!) dk j i) (fun vi _ => (j + 1 - (intOf vi).toNat))
                  case atStart => exact ⟨i, rfl, Nat.le_refl _, hij, HO.out.1, rfl⟩
                  case round =>
                    obtain ⟨i2, rfl, hi2, hi2j, hA, hS⟩ := hrel
                    obtain ⟨G, hG⟩ : ∃ G : Nat → Int, ∀ t, G t = dk[t]! := ⟨fun t => dk[t]!, fun _ => rfl⟩
                    have hcw : ∀ t, t < d.size → wr.cell? ⟨blk, off + t, none⟩ = some (.int .u16 (G t)) := fun t ht => by rw [hG]; exact hA.cell t ht
                    have hfw : ∀ t, t < d.size → wr.frozen? ⟨blk, off + t, none⟩ = false := fun t ht => hA.frozen t ht
                    have HI := Aside0.mk (And.intro hA (And.intro hS hG))
                    clear hA hS hG
                    by_cases h1 : i2 ≤ j
                    · cases hl : ltInt (G i2) (G a)
                      · have hend : scanUp (fun x => ltInt x dk[a]!) dk j i = i2 := by
                          rw [← HI.out.2.1]
                          exact scanUp_end _ _ _ _ (Or.inr (by rw [← HI.out.2.2, ← HI.out.2.2]; exact hl))
                        have HE := Aside0.mk hend
                        clear hend
                        go_wp2
                        go_quiet (first | (go_at_call 30; refine Calls.quiet_of_same (less16 _ _ _)) | (go_at_call 30; exact (less16 _ _ _).mono (fun _ _ h => ⟨h.1, _, h.2⟩)))
                        rw [hl]
                        go_wp2_with fail
                        have hAq := HI.out.1.drewN nq
                        obtain ⟨wz, hwz⟩ : ∃ wz, wr.drewN nq = wz := ⟨_, rfl⟩
                        rw [hwz] at hAq ⊢
                        have HZ := Aside0.mk hAq
                        clear hAq hwz hcw hfw
                        go_loopw [11] (fun vj wq => ∃ (j2 : Nat), vj = .int .i64 j2 ∧ j2 ≤ j ∧ i2 ≤ j2 + 1 ∧ At16 w blk off d dk wq ∧ scanDown (fun x => !ltInt x dk[a]!) dk i2 j2 = scanDown (fun x => !ltInt x dk[a]!) dk i2 j) (fun vj _ => (intOf vj).toNat)
                        case atStart => exact ⟨j, rfl, Nat.le_refl _, hi2j, HZ.out, rfl⟩
                        case round =>
                          obtain ⟨j2, rfl, hj2, hi2j2, hA, hS⟩ := hrel
                          have hcw : ∀ t, t < d.size → wr.cell? ⟨blk, off + t, none⟩ = some (.int .u16 (G t)) := fun t ht => by rw [HI.out.2.2]; exact hA.cell t ht
                          have hfw : ∀ t, t < d.size → wr.frozen? ⟨blk, off + t, none⟩ = false := fun t ht => hA.frozen t ht
                          have HJ := Aside0.mk (And.intro hA hS)
                          clear hA hS
                          by_cases h2 : i2 ≤ j2
                          · have hj0 : 0 < j2 := by omega
                            cases hm : ltInt (G j2) (G a)
                            · have hgo : scanDown (fun x => !ltInt x dk[a]!) dk i2 j2 = scanDown (fun x => !ltInt x dk[a]!) dk i2 (j2 - 1) := scanDown_go _ _ _ _ h2 hj0 (by rw [← HI.out.2.2, ← HI.out.2.2, hm]; rfl)
                              have HGO := Aside0.mk hgo
                              clear hgo
                              go_wp2
                              go_quiet (first | (go_at_call 30; refine Calls.quiet_of_same (less16 _ _ _)) | (go_at_call 30; exact (less16 _ _ _).mono (fun _ _ h => ⟨h.1, _, h.2⟩)))
                              rw [hm]
                              go_wp2
                              exact ⟨⟨j2 - 1, by congr 1; omega, by omega, by omega, HJ.out.1.drewN nq, by rw [← HGO.out, HJ.out.2]⟩, by simp only [intOf]; omega⟩
                            · have hend2 : scanDown (fun x => !ltInt x dk[a]!) dk i2 j = j2 := by
                                rw [← HJ.out.2]
                                exact scanDown_end _ _ _ _ (Or.inr (by rw [← HI.out.2.2, ← HI.out.2.2, hm]; rfl))
                              have hlt2 : i2 < j2 := part_scans_lt ltInt a i j dk (by omega) HE.out.symm hend2.symm h2
                              have hgo : partLoop ltInt a (i2 + 1) (j2 - 1) (swp dk i2 j2) = RR := by
                                rw [← HO.out.2]
                                exact (part_go ltInt a i j dk HE.out.symm hend2.symm (by omega)).symm
                              have hsw := fun q => HJ.out.1.swap q i2 j2 (by omega) (by omega)
                              simp only [← HI.out.2.2] at hsw
                              have HX := Aside0.mk (And.intro hgo hsw)
                              clear hend2 hgo hsw
                              go_wp2
                              go_quiet (first | (go_at_call 30; refine Calls.quiet_of_same (less16 _ _ _)) | (go_at_call 30; exact (less16 _ _ _).mono (fun _ _ h => ⟨h.1, _, h.2⟩)))
                              rw [hm]
                              go_wp2
                              go_region
                              all_goals go_wp2
                              all_goals (refine ⟨?_, ?_⟩)
                              · first | exact ⟨i2 + 1, j2 - 1, _, by go_num, by congr 1; omega, by omega, by omega, by omega, HX.out.2 _, HX.out.1⟩ | (repeat (first | exact ⟨⟨i2 + 1, j2 - 1, _, by go_num, by congr 1; omega, by omega, by omega, by omega, HX.out.2 _, HX.out.1⟩, rfl⟩ | apply Exists.intro))
                              · simp [intOf]; omega
                          · have hend2 : scanDown (fun x => !ltInt x dk[a]!) dk i2 j = j2 := by
                              rw [← HJ.out.2]
                              exact scanDown_end _ _ _ _ (Or.inl h2)
                            have hres : Sort.partition ltInt d a b pivot = (j2, false, swp dk j2 a) := by
                              have h := part_break ltInt a i j dk HE.out.symm hend2.symm (by omega)
                              rw [HO.out.2] at h
                              rw [HRR.out, h]
                            have hj2a : a ≤ j2 := by omega
                            have hsw := fun q => HJ.out.1.swap q j2 a (by omega) (by omega)
                            simp only [← HI.out.2.2] at hsw
                            have HX := Aside0.mk (And.intro hres hsw)
                            clear hend2 hres hsw
                            go_wp2
                            go_quiet (first | (go_at_call 30; refine Calls.quiet_of_same (less16 _ _ _)) | (go_at_call 30; exact (less16 _ _ _).mono (fun _ _ h => ⟨h.1, _, h.2⟩)))
                            by_cases hja : j2 = a
                            · subst hja
                              go_wp2
                              go_region
                              all_goals go_wp2
                              all_goals go_ret2
                              all_goals (rw [HX.out.1])
                              all_goals exact ⟨rfl, HX.out.2 _⟩
                            · have hja2 : a < j2 := by omega
                              go_wp2
                              go_region
                              all_goals go_wp2
                              all_goals go_ret2
                              all_goals (rw [HX.out.1])
                              all_goals exact ⟨rfl, HX.out.2 _⟩
                      · have hgo : scanUp (fun x => ltInt x dk[a]!) dk j i2 = scanUp (fun x => ltInt x dk[a]!) dk j (i2 + 1) := scanUp_go _ _ _ _ h1 (by rw [← HI.out.2.2, ← HI.out.2.2]; exact hl)
                        have HGO := Aside0.mk hgo
                        clear hgo
                        go_wp2
                        go_quiet (first | (go_at_call 30; refine Calls.quiet_of_same (less16 _ _ _)) | (go_at_call 30; exact (less16 _ _ _).mono (fun _ _ h => ⟨h.1, _, h.2⟩)))
                        rw [hl]
                        go_wp2
                        exact ⟨⟨i2 + 1, by go_num, by omega, by omega, HI.out.1.drewN nq, by rw [← HGO.out, HI.out.2.1]⟩, by simp only [intOf]; omega⟩
                    · have hend : scanUp (fun x => ltInt x dk[a]!) dk j i = i2 := by
                        rw [← HI.out.2.1]
                        exact scanUp_end _ _ _ _ (Or.inl h1)
                      have HE := Aside0.mk hend
                      clear hend
                      go_wp2
                      go_quiet (first | (go_at_call 30; refine Calls.quiet_of_same (less16 _ _ _)) | (go_at_call 30; exact (less16 _ _ _).mono (fun _ _ h => ⟨h.1, _, h.2⟩)))
                      go_wp2_with fail
                      have hAq := HI.out.1.drewN nq
                      obtain ⟨wz, hwz⟩ : ∃ wz, wr.drewN nq = wz := ⟨_, rfl⟩
                      rw [hwz] at hAq ⊢
                      have HZ := Aside0.mk hAq
                      clear hAq hwz hcw hfw
                      go_loopw [11] (fun vj wq => ∃ (j2 : Nat), vj = .int .i64 j2 ∧ j2 ≤ j ∧ i2 ≤ j2 + 1 ∧ At16 w blk off d dk wq ∧ scanDown (fun x => !ltInt x dk[a]!) dk i2 j2 = scanDown (fun x => !ltInt x dk[a]!) dk i2 j) (fun vj _ => (intOf vj).toNat)
                      case atStart => exact ⟨j, rfl, Nat.le_refl _, hi2j, HZ.out, rfl⟩
                      case round =>
                        obtain ⟨j2, rfl, hj2, hi2j2, hA, hS⟩ := hrel
                        have hcw : ∀ t, t < d.size → wr.cell? ⟨blk, off + t, none⟩ = some (.int .u16 (G t)) := fun t ht => by rw [HI.out.2.2]; exact hA.cell t ht
                        have hfw : ∀ t, t < d.size → wr.frozen? ⟨blk, off + t, none⟩ = false := fun t ht => hA.frozen t ht
                        have HJ := Aside0.mk (And.intro hA hS)
                        clear hA hS
                        by_cases h2 : i2 ≤ j2
                        · exact absurd h2 (by omega)
                        · have hend2 : scanDown (fun x => !ltInt x dk[a]!) dk i2 j = j2 := by
                            rw [← HJ.out.2]
                            exact scanDown_end _ _ _ _ (Or.inl h2)
                          have hres : Sort.partition ltInt d a b pivot = (j2, false, swp dk j2 a) := by
                            have h := part_break ltInt a i j dk HE.out.symm hend2.symm (by omega)
                            rw [HO.out.2] at h
                            rw [HRR.out, h]
                          have hj2a : a ≤ j2 := by omega
                          have hsw := fun q => HJ.out.1.swap q j2 a (by omega) (by omega)
                          simp only [← HI.out.2.2] at hsw
                          have HX := Aside0.mk (And.intro hres hsw)
                          clear hend2 hres hsw
                          go_wp2
                          go_quiet (first | (go_at_call 30; refine Calls.quiet_of_same (less16 _ _ _)) | (go_at_call 30; exact (less16 _ _ _).mono (fun _ _ h => ⟨h.1, _, h.2⟩)))
                          by_cases hja : j2 = a
                          · subst hja
                            go_wp2
                            go_region
                            all_goals go_wp2
                            all_goals go_ret2
                            all_goals (rw [HX.out.1])
                            all_goals exact ⟨rfl, HX.out.2 _⟩
                          · have hja2 : a < j2 := by omega
                            go_wp2
                            go_region
                            all_goals go_wp2
                            all_goals go_ret2
                            all_goals (rw [HX.out.1])
                            all_goals exact ⟨rfl, HX.out.2 _⟩
            · have hend2 : scanDown (fun x => !ltInt x dk[a]!) dk i2 j = j2 := by
                rw [← HJ.out.2]
                exact scanDown_end _ _ _ _ (Or.inl h2)
              have hres : Sort.partition ltInt d a b pivot = (j2, true, swp dk j2 a) := part_first_break ltInt d a b pivot HIJ.out.1 HIJ.out.2.1 HIJ.out.2.2 HE.out.symm hend2.symm (by omega)
              have hj2a : a ≤ j2 := by omega
              have hsw := fun q => HJ.out.1.swap q j2 a (by omega) (by omega)
              simp only [← HI.out.2.2] at hsw
              have HX := Aside0.mk (And.intro hres hsw)
              clear hend2 hres hsw
              go_wp2
              go_quiet (first | (go_at_call 30; refine Calls.quiet_of_same (less16 _ _ _)) | (go_at_call 30; exact (less16 _ _ _).mono (fun _ _ h => ⟨h.1, _, h.2⟩)))
              by_cases hja : j2 = a
              · subst hja
                go_wp2
                go_region
                all_goals go_wp2
                all_goals go_ret2
                all_goals (rw [HX.out.1])
                all_goals exact ⟨rfl, HX.out.2 _⟩
              · have hja2 : a < j2 := by omega
                go_wp2
                go_region
                all_goals go_wp2
                all_goals go_ret2
                all_goals (rw [HX.out.1])
                all_goals exact ⟨rfl, HX.out.2 _⟩
        · have hgo : scanUp (fun x => ltInt x dk[a]!) dk j i2 = scanUp (fun x => ltInt x dk[a]!) dk j (i2 + 1) := scanUp_go _ _ _ _ h1 (by rw [← HI.out.2.2, ← HI.out.2.2]; exact hl)
          have HGO := Aside0.mk hgo
          clear hgo
          go_wp2
          go_quiet (first | (go_at_call 30; refine Calls.quiet_of_same (less16 _ _ _)) | (go_at_call 30; exact (less16 _ _ _).mono (fun _ _ h => ⟨h.1, _, h.2⟩)))
          rw [hl]
          go_wp2
          exact ⟨⟨i2 + 1, by go_num, by omega, by omega, HI.out.1.drewN nq, by rw [← HGO.out, HI.out.2.1]⟩, by simp only [intOf]; omega⟩
      · have hend : scanUp (fun x => ltInt x dk[a]!) dk j i = i2 := by
          rw [← HI.out.2.1]
          exact scanUp_end _ _ _ _ (Or.inl h1)
        have HE := Aside0.mk hend
        clear hend
        go_wp2
        go_quiet (first | (go_at_call 30; refine Calls.quiet_of_same (less16 _ _ _)) | (go_at_call 30; exact (less16 _ _ _).mono (fun _ _ h => ⟨h.1, _, h.2⟩)))
        go_wp2_with fail
        have hAq := HI.out.1.drewN nq
        obtain ⟨wz, hwz⟩ : ∃ wz, wr.drewN nq = wz := ⟨_, rfl⟩
        rw [hwz] at hAq ⊢
        have HZ := Aside0.mk hAq
        clear hAq hwz hcw hfw
        go_loopw [11] (fun vj wq => ∃ (j2 : Nat), vj = .int .i64 j2 ∧ j2 ≤ j ∧ i2 ≤ j2 + 1 ∧ At16 w blk off d dk wq ∧ scanDown (fun x => !ltInt x dk[a]!) dk i2 j2 = scanDown (fun x => !ltInt x dk[a]!) dk i2 j) (fun vj _ => (intOf vj).toNat)
        case atStart => exact ⟨j, rfl, Nat.le_refl _, hi2j, HZ.out, rfl⟩
        case round =>
          obtain ⟨j2, rfl, hj2, hi2j2, hA, hS⟩ := hrel
          have hcw : ∀ t, t < d.size → wr.cell? ⟨blk, off + t, none⟩ = some (.int .u16 (G t)) := fun t ht => by rw [HI.out.2.2]; exact hA.cell t ht
          have hfw : ∀ t, t < d.size → wr.frozen? ⟨blk, off + t, none⟩ = false := fun t ht => hA.frozen t ht
          have HJ := Aside0.mk (And.intro hA hS)
          clear hA hS
          by_cases h2 : i2 ≤ j2
          · exact absurd h2 (by omega)
          · have hend2 : scanDown (fun x => !ltInt x dk[a]!) dk i2 j = j2 := by
              rw [← HJ.out.2]
              exact scanDown_end _ _ _ _ (Or.inl h2)
            have hres : Sort.partition ltInt d a b pivot = (j2, true, swp dk j2 a) := part_first_break ltInt d a b pivot HIJ.out.1 HIJ.out.2.1 HIJ.out.2.2 HE.out.symm hend2.symm (by omega)
            have hj2a : a ≤ j2 := by omega
            have hsw := fun q => HJ.out.1.swap q j2 a (by omega) (by omega)
            simp only [← HI.out.2.2] at hsw
            have HX := Aside0.mk (And.intro hres hsw)
            clear hend2 hres hsw
            go_wp2
            go_quiet (first | (go_at_call 30; refine Calls.quiet_of_same (less16 _ _ _)) | (go_at_call 30; exact (less16 _ _ _).mono (fun _ _ h => ⟨h.1, _, h.2⟩)))
            by_cases hja : j2 = a
            · subst hja
              go_wp2
              go_region
              all_goals go_wp2
              all_goals go_ret2
              all_goals (rw [HX.out.1])
              all_goals exact ⟨rfl, HX.out.2 _⟩
            · have hja2 : a < j2 := by omega
              go_wp2
              go_region
              all_goals go_wp2
              all_goals go_ret2
              all_goals (rw [HX.out.1])
              all_goals exact ⟨rfl, HX.out.2 _⟩
end Go.Proofs.Ytjiligngjlejmaa.Srt
