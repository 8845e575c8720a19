/- slices.Sort at numbers: partialInsertionSort of less than 50, order2, median, choosePivot. Each theorem says its own conditions. -/
import Derived.Test.YtjiligngjlejmaaSa
import Derived.Test.YtjiligngjlejmaaMem
import Derived.Deep.CutRange
import Derived.BigQuiet
import Derived.CellFam
import Derived.Sort.WalkA
import Derived.Sort.WalkA6
namespace Go.Proofs.Ytjiligngjlejmaa.Srt
open Go.RowKit Go.Sort Go.Proofs.YtjiligngjlejmaaW.PrintWords Go.Proofs.YtjiligngjlejmaaW.PrintLast Go.Proofs.YtjiligngjlejmaaW.PrintMore
set_option linter.unusedVariables false
set_option linter.unusedSimpArgs false

set_option maxHeartbeats 3200000 in
set_option maxRecDepth 100000 in
theorem pi16 (blk off cap a b : Nat) (d : Array Int) (w : World) (hH : Holds e16 w blk off d) (hab : a < b) (hb : b ≤ d.size) (h50 : b - a < 50) (hsz : d.size ≤ 1000000) :
    Calls Try.prog 29 #[.slice (some ⟨blk, off, none⟩) d.size cap, .int .i64 a, .int .i64 b] w fun e w' => e = .returned (.bool (Sort.partialInsertionSort ltInt d a b).2) ∧ At16 w blk off d (Sort.partialInsertionSort ltInt d a b).1 w' := by
  have HH := Aside0.mk (At16.self hH)
  obtain ⟨G, hG⟩ : ∃ G : Nat → Int, ∀ t, G t = d[t]! := ⟨fun t => d[t]!, fun _ => rfl⟩
  have HG := Aside0.mk hG
  clear hH hG
  have h50i : (b : Int) - (a : Int) < 50 := by omega
  go_enter Try.func29, Try.ntmps29
  go_wp2
  go_loopw [7, 8] (fun vi vs wr => vi = .int .i64 ((a : Int) + 1) ∧ vs = .int .i64 0 ∧ At16 w blk off d d wr) (fun _ _ _ => 0)
  case atStart => exact ⟨rfl, rfl, HH.out⟩
  case round =>
    obtain ⟨rfl, rfl, hA0⟩ := hrel
    have HA0 := Aside0.mk hA0
    clear hA0
    go_wp2
    go_loopw [7] (fun vi wq => ∃ i : Nat, vi = .int .i64 i ∧ a < i ∧ i ≤ b ∧ At16 w blk off d d wq ∧ scanSorted ltInt d b i = scanSorted ltInt d b (a + 1)) (fun vi _ => b - (intOf vi).toNat)
    case atStart => exact ⟨a + 1, by go_num, by omega, by omega, HA0.out, rfl⟩
    case round =>
      obtain ⟨i, rfl, hai, hib, hA, hS⟩ := hrel
      have hcw : ∀ t, t < d.size → wr.cell? ⟨blk, off + t, none⟩ = some (.int .u16 (G t)) := fun t ht => by rw [HG.out]; exact hA.cell t ht
      have hfw : ∀ t, t < d.size → wr.frozen? ⟨blk, off + t, none⟩ = false := fun t ht => hA.frozen t ht
      have HI := Aside0.mk (And.intro hA hS)
      clear hA hS
      by_cases hlt : i < b
      · cases hl : ltInt (G i) (G (i - 1))
        · have hgo := scanSorted_go ltInt d b i hlt (by rw [← HG.out, ← HG.out]; exact hl)
          have HGO := Aside0.mk hgo
          clear hgo
          go_wp2
          go_quiet (first | (go_at_call 30; refine Calls.quiet_of_same (less16 _ _ _)) | (go_at_call 30; exact (less16 _ _ _).mono (fun _ _ h => ⟨h.1, _, h.2⟩)))
          rw [hl]
          go_wp2
          exact ⟨⟨i + 1, by go_num, by omega, by omega, HI.out.1.drewN nq, by rw [← HGO.out, HI.out.2]⟩, by simp only [intOf]; omega⟩
        · have hst := scanSorted_stop ltInt d b i (Or.inr (by rw [← HG.out, ← HG.out]; exact hl))
          have hv : Sort.partialInsertionSort ltInt d a b = (d, false) := pi_short ltInt a b 0 (a + 1) d (by omega) (by rw [← HI.out.2, hst]; omega) h50
          have HV := Aside0.mk hv
          clear hv hst
          have hib2 : ¬ (i : Int) = (b : Int) := by omega
          have hib3 : ((i : Int) == (b : Int)) = false := by rw [beq_eq_false_iff_ne]; exact hib2
          go_wp2
          go_quiet (first | (go_at_call 30; refine Calls.quiet_of_same (less16 _ _ _)) | (go_at_call 30; exact (less16 _ _ _).mono (fun _ _ h => ⟨h.1, _, h.2⟩)))
          rw [hl]
          go_wp2
          go_ret
          rw [HV.out]
          exact ⟨rfl, HI.out.1.drewN _⟩
      · obtain rfl : i = b := by omega
        have hst := scanSorted_stop ltInt d i i (Or.inl (by omega))
        have hv : Sort.partialInsertionSort ltInt d a i = (d, true) := pi_true ltInt a i 0 (a + 1) d (by omega) (by rw [← HI.out.2, hst])
        have HV := Aside0.mk hv
        clear hv hst
        go_wp2
        go_quiet (first | (go_at_call 30; refine Calls.quiet_of_same (less16 _ _ _)) | (go_at_call 30; exact (less16 _ _ _).mono (fun _ _ h => ⟨h.1, _, h.2⟩)))
        go_wp2
        go_ret
        rw [HV.out]
        exact ⟨rfl, HI.out.1.drewN _⟩
end Go.Proofs.Ytjiligngjlejmaa.Srt
