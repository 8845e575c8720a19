/- slices.Sort at numbers: its helpers, and the insertion sort, walked over the plain functions of the library's layer. Each theorem says its own conditions. -/
import Derived.Test.YtjiligngjlejmaaMem
import Derived.Test.YtjiligngjlejmaaChecked
import Derived.BigQuiet
import Derived.CellFam
import Derived.Sort.WalkA
import Derived.Sort.WalkA6
namespace Go.Proofs.Ytjiligngjlejmaa.Srt
open Go.RowKit Go.Sort Go.Proofs.YtjiligngjlejmaaW.PrintWords Go.Proofs.YtjiligngjlejmaaW.PrintLast Go.Proofs.YtjiligngjlejmaaW.PrintMore
set_option linter.unusedVariables false
set_option linter.unusedSimpArgs false

abbrev e16 : Int → Value := Value.int .u16
/-- A row of the world: what was d0 is d; nothing else has turned but the count of draws. -/
structure At16 (w : World) (blk off : Nat) (d0 d : Array Int) (W : World) : Prop where
  holds : Holds e16 w blk off d0
  size : d.size = d0.size
  world : ∃ q, W = putRow e16 (Sort.ahead w q) blk off d
theorem At16.self {w : World} {blk off : Nat} {d : Array Int} (h : Holds e16 w blk off d) : At16 w blk off d d w := ⟨h, rfl, 0, (putRow_self _ _ _ _ _ h).symm⟩
theorem At16.here {w W : World} {blk off : Nat} {d0 d : Array Int} (h : At16 w blk off d0 d W) : Holds e16 W blk off d := by
  obtain ⟨q, rfl⟩ := h.world
  exact holds_putRow _ _ _ _ _ _ (holds_ahead _ _ _ _ _ _ h.holds) h.size
theorem At16.cell {w W : World} {blk off : Nat} {d0 d : Array Int} (h : At16 w blk off d0 d W) (t : Nat) (ht : t < d0.size) : W.cell? ⟨blk, off + t, none⟩ = some (.int .u16 d[t]!) := (h.here t (by rw [h.size]; exact ht)).1
theorem At16.frozen {w W : World} {blk off : Nat} {d0 d : Array Int} (h : At16 w blk off d0 d W) (t : Nat) (ht : t < d0.size) : W.frozen? ⟨blk, off + t, none⟩ = false := (h.here t (by rw [h.size]; exact ht)).2
theorem At16.drewN {w W : World} {blk off : Nat} {d0 d : Array Int} (h : At16 w blk off d0 d W) (q : Nat) : At16 w blk off d0 d (W.drewN q) := by
  obtain ⟨m, rfl⟩ := h.world
  exact ⟨h.holds, h.size, m + q, putRow_drewN _ _ _ _ _ _ _⟩
theorem At16.swap {w W : World} {blk off : Nat} {d0 d : Array Int} (h : At16 w blk off d0 d W) (q j k : Nat) (hj : j < d0.size) (hk : k < d0.size) :
    At16 w blk off d0 (swp d j k) (((W.drewN q).setCell ⟨blk, off + j, none⟩ (e16 d[k]!)).setCell ⟨blk, off + k, none⟩ (e16 d[j]!)) := by
  obtain ⟨m, rfl⟩ := h.world
  exact ⟨h.holds, by rw [size_swp]; exact h.size, m + q, swap_worldA _ _ _ _ _ _ _ _ _ (by rw [h.size]; exact hj) (by rw [h.size]; exact hk)⟩
theorem At16.then {w W W' : World} {blk off : Nat} {d0 d d' : Array Int} (h : At16 w blk off d0 d W) (h2 : At16 W blk off d d' W') : At16 w blk off d0 d' W' := by
  obtain ⟨q, hq⟩ := h.world
  obtain ⟨q2, hq2⟩ := h2.world
  refine ⟨h.holds, h2.size.trans h.size, q + q2, ?_⟩
  rw [hq2, hq]
  exact putRow_ahead_putRow _ _ _ _ _ _ _ _ h2.size
theorem nan16 (x : Int) (w : World) : Calls Try.prog 40 #[.int .u16 x] w fun e w' => e = .returned (.bool false) ∧ w' = w := by
  go_enter Try.func40, Try.ntmps40
  go_wp2
  go_ret
  exact ⟨by simp, rfl⟩
theorem less16 (x y : Int) (w : World) : Calls Try.prog 30 #[.int .u16 x, .int .u16 y] w fun e w' => e = .returned (.bool (Sort.ltInt x y)) ∧ w' = w := by
  go_enter Try.func30, Try.ntmps30
  go_wp2_with (go_at_call 40; refine (nan16 _ _).mono ?_; rintro e w' ⟨rfl, rfl⟩)
  go_ret
  exact ⟨rfl, rfl⟩
set_option maxHeartbeats 3200000 in
set_option maxRecDepth 100000 in
theorem ins16 (blk off cap a b : Nat) (d : Array Int) (w : World) (hH : Holds e16 w blk off d) (hab : a ≤ b) (hb : b ≤ d.size) (hsz : d.size ≤ 1000000) :
    Calls Try.prog 24 #[.slice (some ⟨blk, off, none⟩) d.size cap, .int .i64 a, .int .i64 b] w fun e w' => e = .returned (.tuple #[]) ∧ At16 w blk off d (Sort.insertionSort ltInt d a b) w' := by
  have HH := Aside0.mk (At16.self hH)
  clear hH
  go_enter Try.func24, Try.ntmps24
  go_wp2
  go_loopw [6] (fun vi wr => ∃ (i : Nat) (dk : Array Int), vi = .int .i64 i ∧ a < i ∧ i ≤ b + 1 ∧ At16 w blk off d dk wr ∧ insOuter ltInt a b i dk = insOuter ltInt a b (a + 1) d) (fun vi _ => b + 1 - (intOf vi).toNat)
  case atStart => exact ⟨a + 1, d, by go_num, by omega, by omega, HH.out, rfl⟩
  case round =>
    obtain ⟨i, dk, rfl, hai, hib, hA, hO⟩ := hrel
    have HO := Aside0.mk (And.intro hA hO)
    clear hA hO
    by_cases hlt : i < b
    · go_wp2
      go_loopw [7] (fun vj wq => ∃ (j : Nat) (dj : Array Int), vj = .int .i64 j ∧ a ≤ j ∧ j ≤ i ∧ At16 w blk off d dj wq ∧ insInner ltInt a j dj = insInner ltInt a i dk) (fun vj _ => (intOf vj).toNat)
      case atStart => exact ⟨i, dk, rfl, by omega, Nat.le_refl _, HO.out.1, rfl⟩
      case round =>
        obtain ⟨j, dj, rfl, haj, hji, hA, hI⟩ := hrel
        obtain ⟨G, hG⟩ : ∃ G : Nat → Int, ∀ t, G t = dj[t]! := ⟨fun t => dj[t]!, fun _ => rfl⟩
        have hcw : ∀ t, t < d.size → wr.cell? ⟨blk, off + t, none⟩ = some (.int .u16 (G t)) := fun t ht => by rw [hG]; exact hA.cell t ht
        have hfw : ∀ t, t < d.size → wr.frozen? ⟨blk, off + t, none⟩ = false := fun t ht => hA.frozen t ht
        have HI := Aside0.mk (And.intro hA (And.intro hI hG))
        clear hA hI hG
        by_cases hja : a < j
        · cases hl : ltInt (G j) (G (j - 1))
          · have hs : insInner ltInt a j dj = dj := insInner_stop ltInt a j dj (Or.inr (by rw [← HI.out.2.2, ← HI.out.2.2]; exact hl))
            have HS := Aside0.mk hs
            clear hs
            go_wp2
            go_quiet (first | (go_at_call 30; refine Calls.quiet_of_same (less16 _ _ _)))
            rw [hl]
            go_wp2
            exact ⟨⟨i + 1, dj, by go_num, by omega, by omega, HI.out.1.drewN nq, by rw [← HO.out.2, insOuter_go _ _ _ _ _ hlt, ← HI.out.2.1, HS.out]⟩, by simp only [intOf]; omega⟩
          · go_wp2
            go_quiet (first | (go_at_call 30; refine Calls.quiet_of_same (less16 _ _ _)))
            rw [hl]
            go_wp2
            go_region
            all_goals go_wp2
            have hsw := HI.out.1.swap (nq + 1) j (j - 1) (by omega) (by omega)
            rw [← HI.out.2.2, ← HI.out.2.2] at hsw
            exact ⟨⟨j - 1, swp dj j (j - 1), by congr 1; omega, by omega, by omega, hsw, by rw [← HI.out.2.1, insInner_go ltInt a j dj hja (by rw [← HI.out.2.2, ← HI.out.2.2]; exact hl)]⟩, by simp only [intOf]; omega⟩
        · have hs : insInner ltInt a j dj = dj := insInner_stop ltInt a j dj (Or.inl (by omega))
          have HS := Aside0.mk hs
          clear hs
          go_wp2
          go_quiet (first | (go_at_call 30; refine Calls.quiet_of_same (less16 _ _ _)))
          go_wp2
          exact ⟨⟨i + 1, dj, by go_num, by omega, by omega, HI.out.1.drewN nq, by rw [← HO.out.2, insOuter_go _ _ _ _ _ hlt, ← HI.out.2.1, HS.out]⟩, by simp only [intOf]; omega⟩
    · go_wp2
      go_end0
      have hA := HO.out.1
      rw [show dk = Sort.insertionSort ltInt d a b from by unfold Sort.insertionSort; rw [← HO.out.2, insOuter_stop _ _ _ _ _ hlt]] at hA
      exact ⟨rfl, hA⟩
end Go.Proofs.Ytjiligngjlejmaa.Srt
