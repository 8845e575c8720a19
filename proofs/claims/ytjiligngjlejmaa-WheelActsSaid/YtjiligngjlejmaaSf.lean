/- slices.Sort at numbers: order2, median, choosePivot of less than 50. Each theorem says its own conditions. -/
import Derived.Test.YtjiligngjlejmaaSa
import Derived.Test.YtjiligngjlejmaaMem
import Derived.Deep.CutRange
import Derived.Sort.WalkD1
import Derived.Sort.LotD4
import Derived.BigQuiet
import Derived.CellFam
import Derived.Sort.WalkA
import Derived.Sort.WalkA6
namespace Go.Proofs.Ytjiligngjlejmaa.Srt
open Go.RowKit Go.Sort Go.Proofs.Ytjiligngjlejmaa.Mem Go.Proofs.YtjiligngjlejmaaW.PrintWords Go.Proofs.YtjiligngjlejmaaW.PrintLast Go.Proofs.YtjiligngjlejmaaW.PrintMore
set_option linter.unusedVariables false
set_option linter.unusedSimpArgs false

/-- A counter of its own block. -/
structure Bx (w : World) (sb s : Nat) (W : World) : Prop where
  cell : W.heap[sb]? = some (.cells #[.int .i64 (s : Int)] 3 (0, 0))
  chg : Chg (fun k => k = sb) w W
theorem holds_chg {w W : World} {S : Nat → Prop} {blk off : Nat} {d : Array Int} (h : Holds e16 w blk off d) (hC : Chg S w W) (hn : ¬ S blk) : Holds e16 W blk off d := fun j hj => by
  have h1 := h j hj
  have hb := hC.block blk (World.block_lt_of_cell? w ⟨blk, off + j, none⟩ h1.1) hn
  exact ⟨(World.cell?_of_block (a := ⟨blk, off + j, none⟩) hb).trans h1.1, (World.frozen?_of_block (a := ⟨blk, off + j, none⟩) hb).trans h1.2⟩
set_option maxHeartbeats 3200000 in
set_option maxRecDepth 100000 in
theorem ord16 (blk off len cap a b sb s : Nat) (d : Array Int) (w : World) (hlen : d.size = len) (hH : Holds e16 w blk off d) (ha : a < d.size) (hb : b < d.size) (hsz : d.size ≤ 1000000) (hs : s ≤ 1000) (hne : sb ≠ blk) (hx : w.heap[sb]? = some (.cells #[.int .i64 (s : Int)] 3 (0, 0))) :
    Calls Try.prog 41 #[.slice (some ⟨blk, off, none⟩) len cap, .int .i64 a, .int .i64 b, .pointer (some ⟨sb, 0, none⟩)] w fun e w' => e = .returned (.tuple #[.int .i64 ((order2 ltInt d a b s).1 : Nat), .int .i64 ((order2 ltInt d a b s).2.1 : Nat)]) ∧ Bx w sb (order2 ltInt d a b s).2.2 w' := by
  subst hlen
  obtain ⟨G, hG⟩ : ∃ G : Nat → Int, ∀ t, G t = d[t]! := ⟨fun t => d[t]!, fun _ => rfl⟩
  have hcw : ∀ t, t < d.size → w.cell? ⟨blk, off + t, none⟩ = some (.int .u16 (G t)) := fun t ht => by rw [hG]; exact (hH t ht).1
  have hc0 : w.cell? ⟨sb, 0, none⟩ = some (.int .i64 (s : Int)) := blk_cell hx 0
  have hf0 : w.frozen? ⟨sb, 0, none⟩ = false := blk_frozen hx 0
  have HX := Aside0.mk (And.intro hx hG)
  clear hH hx hG
  unfold order2
  cases hl : ltInt (G b) (G a)
  · rw [if_neg (by rw [← HX.out.2, ← HX.out.2, hl]; decide)]
    go_enter Try.func41, Try.ntmps41
    go_wp2
    go_quiet (first | (go_at_call 30; refine Calls.quiet_of_same (less16 _ _ _)) | (go_at_call 30; exact (less16 _ _ _).mono (fun _ _ h => ⟨h.1, _, h.2⟩)))
    rw [hl]
    go_wp2
    go_ret2
    exact ⟨rfl, HX.out.1, Chg.of_below (pw_below_drewN (Below.refl _ _) _) _⟩
  · rw [if_pos (by rw [← HX.out.2, ← HX.out.2, hl])]
    go_enter Try.func41, Try.ntmps41
    go_wp2
    go_quiet (first | (go_at_call 30; refine Calls.quiet_of_same (less16 _ _ _)) | (go_at_call 30; exact (less16 _ _ _).mono (fun _ _ h => ⟨h.1, _, h.2⟩)))
    rw [hl]
    go_wp2
    go_ret2
    refine ⟨rfl, ?_, Chg.set_ (S := fun k => k = sb) (Chg.of_below (pw_below_drewN (Below.refl _ _) nq) _) (p := ⟨sb, 0, none⟩) (fun _ => rfl) _⟩
    have h := blk_set (w := w.drewN nq) (show (w.drewN nq).heap[sb]? = _ from HX.out.1) 0 (.int .i64 ((s : Int) + 1))
    rw [show ((s : Int) + 1) = ((s + 1 : Nat) : Int) by omega] at h
    rw [show ((s : Int) + 1) = ((s + 1 : Nat) : Int) by omega]
    exact h
set_option maxHeartbeats 3200000 in
set_option maxRecDepth 100000 in
theorem med16 (blk off len cap a b c sb s : Nat) (d : Array Int) (w : World) (hlen : d.size = len) (hH : Holds e16 w blk off d) (ha : a < d.size) (hb : b < d.size) (hc : c < d.size) (hsz : d.size ≤ 1000000) (hs : s ≤ 900) (hne : sb ≠ blk) (hx : w.heap[sb]? = some (.cells #[.int .i64 (s : Int)] 3 (0, 0))) :
    Calls Try.prog 39 #[.slice (some ⟨blk, off, none⟩) len cap, .int .i64 a, .int .i64 b, .int .i64 c, .pointer (some ⟨sb, 0, none⟩)] w fun e w' => e = .returned (.int .i64 ((median ltInt d a b c s).1 : Nat)) ∧ Bx w sb (median ltInt d a b c s).2 w' := by
  have o1 := order2_lt d (a := a) (b := b) (n := d.size) s ha hb
  have n1 := order2_swaps d a b s
  have h1 := ord16 blk off len cap a b sb s d w hlen hH ha hb hsz (by omega) hne hx
  obtain ⟨⟨a1, b1, s1⟩, hr1⟩ : ∃ r, order2 ltInt d a b s = r := ⟨_, rfl⟩
  rw [hr1] at o1 n1 h1
  simp only at o1 n1 h1
  have o2 := order2_lt d (a := b1) (b := c) (n := d.size) s1 o1.2 hc
  have n2 := order2_swaps d b1 c s1
  obtain ⟨⟨b2, c2, s2⟩, hr2⟩ : ∃ r, order2 ltInt d b1 c s1 = r := ⟨_, rfl⟩
  rw [hr2] at o2 n2
  simp only at o2 n2
  have n3 := order2_swaps d a1 b2 s2
  obtain ⟨⟨a3, b3, s3⟩, hr3⟩ : ∃ r, order2 ltInt d a1 b2 s2 = r := ⟨_, rfl⟩
  rw [hr3] at n3
  have hm : median ltInt d a b c s = (b3, s3) := by
    unfold median
    simp only [hr1, hr2, hr3]
  rw [hm]
  have h2 := fun W (hW : Bx w sb s1 W) => ord16 blk off len cap b1 c sb s1 d W hlen (holds_chg hH hW.chg (fun e => hne e.symm)) o1.2 hc hsz (by omega) hne hW.cell
  have h3 := fun W (hW : Bx w sb s2 W) => ord16 blk off len cap a1 b2 sb s2 d W hlen (holds_chg hH hW.chg (fun e => hne e.symm)) o1.1 o2.1 hsz (by omega) hne hW.cell
  rw [hr2] at h2
  rw [hr3] at h3
  have HC := Aside0.mk (And.intro h1 (And.intro h2 h3))
  clear h1 h2 h3 hH hx hr1 hr2 hr3 hm o1 o2 n1 n2 n3
  go_enter Try.func39, Try.ntmps39
  go_wp2_with fail
  refine HC.out.1.mono ?_
  rintro e w1 ⟨rfl, hB1⟩
  have H1 := Aside0.mk hB1
  clear hB1
  go_wp2_with fail
  refine (HC.out.2.1 _ H1.out).mono ?_
  rintro e w2 ⟨rfl, hB2⟩
  have H2 := Aside0.mk (show Bx w sb s2 w2 from ⟨hB2.cell, H1.out.chg.trans hB2.chg (fun i _ h => h)⟩)
  clear hB2
  go_wp2_with fail
  refine (HC.out.2.2 _ H2.out).mono ?_
  rintro e w3 ⟨rfl, hB3⟩
  have H3 := Aside0.mk (show Bx w sb s3 w3 from ⟨hB3.cell, H2.out.chg.trans hB3.chg (fun i _ h => h)⟩)
  clear hB3
  go_wp2
  go_ret
  exact ⟨rfl, H3.out⟩
set_option maxHeartbeats 3200000 in
set_option maxRecDepth 100000 in
theorem choose16 (blk off cap a b : Nat) (d : Array Int) (w : World) (hH : Holds e16 w blk off d) (hblk : blk < w.heap.size) (hb : b ≤ d.size) (h12 : 12 < b - a) (h50 : b - a < 50) (hsz : d.size ≤ 1000000) :
    Calls Try.prog 27 #[.slice (some ⟨blk, off, none⟩) d.size cap, .int .i64 a, .int .i64 b] w fun e w' => e = .returned (.tuple #[.int .i64 ((choosePivot ltInt d a b).1 : Nat), .int .i64 (if (choosePivot ltInt d a b).2 = .increasing then 1 else 0)]) ∧ Below w.heap.size w w' ∧ (choosePivot ltInt d a b).2 ≠ .decreasing := by
  obtain ⟨l, hl⟩ : ∃ l, b - a = l := ⟨_, rfl⟩
  obtain ⟨q, hq⟩ : ∃ q, l / 4 = q := ⟨_, rfl⟩
  have hcp : choosePivot ltInt d a b = ((median ltInt d (a + q * 1) (a + q * 2) (a + q * 3) 0).1, if (median ltInt d (a + q * 1) (a + q * 2) (a + q * 3) 0).2 = 0 then .increasing else .unknown) := by
    have hn1 := order2_swaps d (a + q * 1) (a + q * 2) 0
    have hmd : (median ltInt d (a + q * 1) (a + q * 2) (a + q * 3) 0).2 ≠ 12 := by
      have h := Go.Sort.median_count (lt := ltInt) d (a + q * 1) (a + q * 2) (a + q * 3) 0
      omega
    unfold choosePivot
    simp only [hl, hq]
    rw [if_pos (show l ≥ 8 by omega), if_neg (show ¬ l ≥ 50 by omega), if_neg hmd]
  have e0 : (b : Int) - (a : Int) = (l : Int) := by omega
  have e1 : (l : Int).tdiv 4 = (q : Int) := by rw [Int.tdiv_eq_ediv_of_nonneg (by omega)]; omega
  have hne : w.heap.size ≠ blk := by omega
  have hBa : Below w.heap.size w (w.alloc (.cells #[.int .i64 0] 3)) := below_alloc (Below.refl _ _) _
  have hm := med16 blk off d.size cap (a + q * 1) (a + q * 2) (a + q * 3) w.heap.size 0 d (w.alloc (.cells #[.int .i64 0] 3)) rfl (holds_chg hH (Chg.of_below hBa (fun _ => False)) (fun h => h)) (by omega) (by omega) (by omega) hsz (by omega) hne (heap_alloc_new w _)
  obtain ⟨⟨m1, s1⟩, hmr⟩ : ∃ r, median ltInt d (a + q * 1) (a + q * 2) (a + q * 3) 0 = r := ⟨_, rfl⟩
  rw [hmr] at hm hcp
  rw [hcp]
  simp only at hm ⊢
  have k8 : (8 : Int) ≤ (l : Int) := by omega
  have k50 : ¬ (50 : Int) ≤ (l : Int) := by omega
  have x1 : ((a + q * 1 : Nat) : Int) = (a : Int) + (q : Int) := by omega
  have x2 : ((a + q * 2 : Nat) : Int) = (a : Int) + (q : Int) * 2 := by push_cast; rfl
  have x3 : ((a + q * 3 : Nat) : Int) = (a : Int) + (q : Int) * 3 := by push_cast; rfl
  rw [x1, x2, x3] at hm
  have HS := Aside0.mk (show s1 ≤ 3 by have h := Go.Sort.median_count (lt := ltInt) d (a + q * 1) (a + q * 2) (a + q * 3) 0; rw [hmr] at h; simpa using h)
  have HC := Aside0.mk (And.intro hm hBa)
  have b1 : -9223372036854775808 ≤ (q : Int) ∧ (q : Int) ≤ 9223372036854775807 := by omega
  have hq4 : q ≤ 12 := by omega
  have ha4 : a ≤ 1000000 := by omega
  clear hm hBa hH hcp hmr hl hq x1 x2 x3
  go_enter Try.func27, Try.ntmps27
  go_wp2_with fail
  refine HC.out.1.mono ?_
  rintro e w2 ⟨rfl, hB2⟩
  have c2 : w2.cell? ⟨w.heap.size, 0, none⟩ = some (.int .i64 (s1 : Int)) := blk_cell hB2.cell 0
  have hBw : Below w.heap.size w w2 := HC.out.2.trans (hB2.chg.below HC.out.2.size (fun i hi => by omega))
  have H2 := Aside0.mk hBw
  clear hB2 hBw
  by_cases hs0 : s1 = 0
  · subst hs0
    go_wp2
    go_ret2
    first | exact ⟨rfl, H2.out, by simp⟩ | exact ⟨rfl, H2.out⟩ | exact H2.out
  · have hs0i : ¬ (s1 : Int) = 0 := by omega
    have hs0b : ((s1 : Int) == 0) = false := by rw [beq_eq_false_iff_ne]; exact hs0i
    have hs12i : ¬ (s1 : Int) = 12 := by have := HS.out; omega
    have hs12b : ((s1 : Int) == 12) = false := by rw [beq_eq_false_iff_ne]; exact hs12i
    have hif : (if s1 = 0 then Hint.increasing else Hint.unknown) = Hint.unknown := if_neg hs0
    go_wp2
    all_goals go_ret2
    all_goals (first | exact ⟨rfl, H2.out⟩ | exact ⟨rfl, H2.out, by simp⟩ | (rw [hif]; exact ⟨rfl, H2.out, by simp⟩) | (simp [hs0]; exact H2.out))
end Go.Proofs.Ytjiligngjlejmaa.Srt
