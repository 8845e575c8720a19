/- slices.Sort of a row that ascends: nothing turns. -/
import Derived.Test.YtjiligngjlejmaaHe
import Derived.BigQuiet
import Derived.CellFam
namespace Go.Proofs.Ytjiligngjlejmaa.Vit
open Go.Shelf Go.RowKit Go.Proofs.YtjiligngjlejmaaW.PrintWords Go.Proofs.YtjiligngjlejmaaW.PrintLast Go.Proofs.YtjiligngjlejmaaW.PrintMore Go.Proofs.Ytjiligngjlejmaa.Mem
attribute [local go_sem] max2_int min2_int max_two min_two max_three min_three max_four min_four   -- for this text's walks alone
set_option linter.unusedVariables false
set_option linter.unusedSimpArgs false

theorem isNaN (x : Int) (w : World) : Calls Try.prog 40 #[.int .u16 x] w fun e w' => e = .returned (.bool false) ∧ w' = w := by
  go_enter Try.func40, Try.ntmps40
  go_wp2
  go_ret
  exact ⟨by simp, rfl⟩
theorem cmpLess (x y : Int) (w : World) : Calls Try.prog 30 #[.int .u16 x, .int .u16 y] w fun e w' => e = .returned (.bool (decide (x < y))) ∧ w' = w := by
  go_enter Try.func30, Try.ntmps30
  go_wp2_with (go_at_call 40; refine (isNaN _ _).mono ?_; rintro e w' ⟨rfl, rfl⟩)
  go_ret
  exact ⟨rfl, rfl⟩
theorem drewN_drewN (w : World) (a b : Nat) : (w.drewN a).drewN b = w.drewN (a + b) := by
  unfold World.drewN
  simp [Nat.add_assoc]
/-- A row that ascends, read in whatever order is drawn. -/
structure Asc (w : World) (blk off n : Nat) (G : Nat → Int) : Prop where
  cell : ∀ t, t < n → w.cell? ⟨blk, off + t, none⟩ = some (.int .u16 (G t))
  asc : ∀ t, t + 1 < n → ¬ G (t + 1) < G t
set_option maxHeartbeats 3200000 in
set_option maxRecDepth 100000 in
theorem ins_asc (blk off cap n : Nat) (G : Nat → Int) (w : World) (h : Asc w blk off n G) (hn : n ≤ 1000000) :
    Calls Try.prog 24 #[.slice (some ⟨blk, off, none⟩) n cap, .int .i64 0, .int .i64 n] w fun e w' => e = .returned (.tuple #[]) ∧ ∃ q, w' = w.drewN q := by
  go_enter Try.func24, Try.ntmps24
  go_wp2
  go_loopw [6] (fun vi wr => ∃ i q : Nat, vi = .int .i64 i ∧ 1 ≤ i ∧ i ≤ n + 1 ∧ wr = w.drewN q) (fun vi _ => n + 1 - (match vi with | .int _ z => z.toNat | _ => 0))
  case atStart => exact ⟨1, 0, rfl, Nat.le_refl _, by omega, rfl⟩
  case round =>
    obtain ⟨i, q, rfl, h1, h2, rfl⟩ := hrel
    go_wp2
    · have hlt : i < n := by assumption
      go_loopw [7] (fun vj wr => vj = .int .i64 i ∧ ∃ q : Nat, wr = w.drewN q) (fun _ _ => 0)
      case atStart => exact ⟨rfl, q, rfl⟩
      case round =>
        obtain ⟨rfl, q2, hw2⟩ := hrel
        have hcw : ∀ t, t < n → wr.cell? ⟨blk, off + t, none⟩ = some (.int .u16 (G t)) := fun t ht => by rw [hw2]; exact h.cell t ht
        have HW : Hid (wr = w.drewN q2) := hw2
        clear hw2
        have hl : ¬ G i < G (i - 1) := by
          have := h.asc (i - 1) (by omega)
          rwa [show i - 1 + 1 = i by omega] at this
        have hi0 : 0 < i := by omega
        go_wp2
        go_quiet (first | (go_at_call 30; refine Calls.quiet_of_same (cmpLess _ _ _)))
        go_wp2
        refine ⟨⟨i + 1, q2 + nq, by congr 1, by omega, by omega, ?_⟩, ?_⟩
        · rw [HW.out, drewN_drewN]
        · show n + 1 - ((i : Int) + 1).toNat < n + 1 - (i : Int).toNat
          omega
    · go_end0
      exact ⟨rfl, q, rfl⟩
theorem Asc.le {w : World} {blk off n : Nat} {G : Nat → Int} (h : Asc w blk off n G) {i : Nat} : ∀ k, i + k < n → ¬ G (i + k) < G i
  | 0, _ => by simp
  | k + 1, hk => by
    have h1 := h.le (i := i) k (by omega)
    have h2 := h.asc (i + k) (by omega)
    rw [show i + (k + 1) = i + k + 1 by omega]
    omega
theorem Asc.below {w w' : World} {blk off n : Nat} {G : Nat → Int} (h : Asc w blk off n G) (hB : Below w.heap.size w w') : Asc w' blk off n G :=
  ⟨fun t ht => below_cell hB (h.cell t ht), h.asc⟩
theorem below_drewN' (w : World) (q : Nat) : Below w.heap.size w (w.drewN q) := pw_below_drewN (Below.refl _ _) q
set_option maxHeartbeats 3200000 in
set_option maxRecDepth 100000 in
theorem order2_asc (blk off cap n i j : Nat) (P : Addr) (G : Nat → Int) (w : World) (h : Asc w blk off n G) (hn : n ≤ 1000000) (hij : i ≤ j) (hj : j < n) :
    Calls Try.prog 41 #[.slice (some ⟨blk, off, none⟩) n cap, .int .i64 i, .int .i64 j, .pointer (some P)] w fun e w' => e = .returned (.tuple #[.int .i64 i, .int .i64 j]) ∧ ∃ q, w' = w.drewN q := by
  have hcw := h.cell
  have hl : ¬ G j < G i := by
    have := h.le (i := i) (j - i) (by omega)
    rwa [show i + (j - i) = j by omega] at this
  have hi : i < n := by omega
  clear h
  go_enter Try.func41, Try.ntmps41
  go_wp2
  go_quiet (first | (go_at_call 30; refine Calls.quiet_of_same (cmpLess _ _ _)))
  go_wp2
  all_goals (go_ret2)
  all_goals (exact ⟨rfl, _, rfl⟩)
set_option maxHeartbeats 3200000 in
set_option maxRecDepth 100000 in
theorem partial_asc (blk off cap n : Nat) (G : Nat → Int) (w : World) (h : Asc w blk off n G) (hn : n ≤ 1000000) (h0 : 0 < n) :
    Calls Try.prog 29 #[.slice (some ⟨blk, off, none⟩) n cap, .int .i64 0, .int .i64 n] w fun e w' => e = .returned (.bool true) ∧ ∃ q, w' = w.drewN q := by
  go_enter Try.func29, Try.ntmps29
  go_wp2
  go_loopw [7, 8] (fun x y wr => x = .int .i64 1 ∧ y = .int .i64 0 ∧ wr = w) (fun _ _ _ => 0)
  case atStart => exact ⟨rfl, rfl, rfl⟩
  case round =>
    obtain ⟨rfl, rfl, hw⟩ := hrel
    go_wp2
    go_loopw [7] (fun x wr2 => ∃ i q : Nat, x = .int .i64 i ∧ 1 ≤ i ∧ i ≤ n ∧ wr2 = w.drewN q) (fun x _ => n - (match x with | .int _ z => z.toNat | _ => 0))
    case atStart => exact ⟨1, 0, rfl, Nat.le_refl _, h0, rfl⟩
    case round =>
      obtain ⟨i, q, rfl, h1, h2, hw2⟩ := hrel
      have hcw : ∀ t, t < n → wr.cell? ⟨blk, off + t, none⟩ = some (.int .u16 (G t)) := fun t ht => by rw [hw2]; exact h.cell t ht
      have HW : Hid (wr = w.drewN q) := hw2
      clear hw2
      have hl : i < n → ¬ G i < G (i - 1) := fun hi => by
        have := h.asc (i - 1) (by omega)
        rwa [show i - 1 + 1 = i by omega] at this
      go_wp2
      by_cases hin : i < n
      · have hl2 : decide (G i < G (i - 1)) = false := decide_eq_false (by have := hl hin; omega)
        clear hl
        go_quiet (first | (go_at_call 30; refine Calls.quiet_of_same (cmpLess _ _ _)))
        go_wp2
        refine ⟨⟨i + 1, q + nq, by congr 1, by omega, by omega, ?_⟩, ?_⟩
        · rw [HW.out, drewN_drewN]
        · show n - ((i : Int) + 1).toNat < n - (i : Int).toNat
          omega
      · obtain rfl : i = n := by omega
        go_quiet (first | (go_at_call 30; refine Calls.quiet_of_same (cmpLess _ _ _)))
        go_wp2
        go_ret
        exact ⟨rfl, q + nq, by rw [HW.out, drewN_drewN]⟩
theorem order2_asc' (blk off cap n : Nat) (P : Addr) (G : Nat → Int) (hn : n ≤ 1000000) (w : World) (i j : Nat) (h : Asc w blk off n G) (hij : i ≤ j) (hj : j < n) :
    Calls Try.prog 41 #[.slice (some ⟨blk, off, none⟩) n cap, .int .i64 i, .int .i64 j, .pointer (some P)] w fun e w' => e = .returned (.tuple #[.int .i64 i, .int .i64 j]) ∧ Asc w' blk off n G ∧ Below w.heap.size w w' := by
  refine (order2_asc blk off cap n i j P G w h hn hij hj).mono ?_
  rintro e w' ⟨he, q, rfl⟩
  exact ⟨he, h.below (below_drewN' _ _), below_drewN' _ _⟩
theorem below_step {w w1 w2 : World} (h : Below w.heap.size w w1) (k : Below w1.heap.size w1 w2) : Below w.heap.size w w2 := h.trans (k.mono h.size)
set_option maxHeartbeats 800000 in
set_option maxRecDepth 100000 in
theorem median_asc (blk off cap n i j k : Nat) (P : Addr) (G : Nat → Int) (w : World) (h : Asc w blk off n G) (hn : n ≤ 1000000) (hij : i ≤ j) (hjk : j ≤ k) (hk : k < n) :
    Calls Try.prog 39 #[.slice (some ⟨blk, off, none⟩) n cap, .int .i64 i, .int .i64 j, .int .i64 k, .pointer (some P)] w fun e w' => e = .returned (.int .i64 j) ∧ Below w.heap.size w w' := by
  have A0 := Aside0.mk (And.intro h (Below.refl w.heap.size w))
  have hj : j < n := by omega
  have C := Aside0.mk (order2_asc' blk off cap n P G hn)
  clear h hn
  go_enter Try.func39, Try.ntmps39
  go_wp2_with (first
    | (go_at_call 41; refine (C.out _ i j A2.out.1 hij hj).mono ?_; rintro e w3 ⟨rfl, q1, q2⟩; have A3 := Aside0.mk (And.intro q1 (below_step A2.out.2 q2)); clear q1 q2)
    | (go_at_call 41; refine (C.out _ j k A1.out.1 hjk hk).mono ?_; rintro e w2 ⟨rfl, q1, q2⟩; have A2 := Aside0.mk (And.intro q1 (below_step A1.out.2 q2)); clear q1 q2)
    | (go_at_call 41; refine (C.out _ i j A0.out.1 hij hj).mono ?_; rintro e w1 ⟨rfl, q1, q2⟩; have A1 := Aside0.mk (And.intro q1 (below_step A0.out.2 q2)); clear q1 q2))
  go_ret
  exact ⟨rfl, A3.out.2⟩
theorem tdiv4 {n m : Nat} (h : n / 4 = m) : (n : Int).tdiv 4 = (m : Int) := by rw [Int.tdiv_eq_ediv_of_nonneg (by omega)]; omega
set_option maxHeartbeats 800000 in
set_option maxRecDepth 100000 in
theorem choose_asc (blk off cap n : Nat) (G : Nat → Int) (w : World) (h : Asc w blk off n G) (h1 : 12 < n) (h2 : n < 50) :
    Calls Try.prog 27 #[.slice (some ⟨blk, off, none⟩) n cap, .int .i64 0, .int .i64 n] w fun e w' => ∃ p : Nat, e = .returned (.tuple #[.int .i64 p, .int .i64 1]) ∧ Below w.heap.size w w' := by
  obtain ⟨m, hm⟩ : ∃ m, n / 4 = m := ⟨_, rfl⟩
  have f1 := tdiv4 hm
  have g1 : m < n := by omega
  have g2 : m * 2 < n := by omega
  have g3 : m * 3 < n := by omega
  have A0 := Aside0.mk h
  have C := Aside0.mk (show ∀ (w : World) (hh : Asc w blk off n G) (P : Addr), Calls Try.prog 39 #[.slice (some ⟨blk, off, none⟩) n cap, .int .i64 m, .int .i64 ((m : Int) * 2), .int .i64 ((m : Int) * 3), .pointer (some P)] w (fun e w' => e = .returned (.int .i64 ((m : Int) * 2)) ∧ Below w.heap.size w w') from fun w hh P => by
    have hh2 := median_asc blk off cap n m (m * 2) (m * 3) P G w hh (by omega) (by omega) (by omega) g3
    rw [show ((m * 2 : Nat) : Int) = (m : Int) * 2 by omega, show ((m * 3 : Nat) : Int) = (m : Int) * 3 by omega] at hh2
    exact hh2)
  have k1 : (8 : Int) ≤ (n : Int) := by omega
  have k2 : ¬ (50 : Int) ≤ (n : Int) := by omega
  have k3 : wrap64 ((m : Int) * 2) = ((m * 2 : Nat) : Int) := by rw [wrap64_in _ (by omega) (by omega)]; omega
  have k4 : wrap64 ((m : Int) * 3) = ((m * 3 : Nat) : Int) := by rw [wrap64_in _ (by omega) (by omega)]; omega
  have k5 : wrap64 ((m : Int)) = ((m : Nat) : Int) := by rw [wrap64_in _ (by omega) (by omega)]
  clear h
  go_enter Try.func27, Try.ntmps27
  go_wp2_with (go_at_call 39; refine (C.out _ (A0.out.below (below_alloc (Below.refl _ _) _)) _).mono ?_; rintro e w2 ⟨rfl, q⟩; have e9 : w2.cell? ⟨w.heap.size, 0, none⟩ = some (.int .i64 0) := below_cell q (blk_cell (blk_new w _) 0); have A2 := Aside0.mk (below_step (below_alloc (Below.refl _ _) _) q); clear q)
  go_ret2
  exact ⟨m * 2, by rw [Int.natCast_mul]; rfl, A2.out⟩
set_option maxHeartbeats 800000 in
set_option maxRecDepth 100000 in
theorem pdq_asc (blk off cap n : Nat) (lim : Int) (G : Nat → Int) (w : World) (h : Asc w blk off n G) (h2 : n < 50) (hl : 12 < n → lim ≠ 0) :
    Calls Try.prog 21 #[.slice (some ⟨blk, off, none⟩) n cap, .int .i64 0, .int .i64 n, .int .i64 lim] w fun e w' => e = .returned (.tuple #[]) ∧ Below w.heap.size w w' := by
  have A0 := Aside0.mk (And.intro h h2)
  by_cases hn : 12 < n
  · have hl0 := hl hn
    have k1 : ¬ (n : Int) ≤ 12 := by omega
    clear hl h
    go_enter Try.func21, Try.ntmps21
    go_wp2
    go_loopw [1, 2, 3, 8, 9] (fun x1 x2 x3 x8 x9 wr => x1 = .int .i64 0 ∧ x2 = .int .i64 n ∧ x3 = .int .i64 lim ∧ x8 = .bool true ∧ x9 = .bool true ∧ wr = w) (fun _ _ _ _ _ _ => 0)
    case atStart => exact ⟨rfl, rfl, rfl, rfl, rfl, rfl⟩
    case round =>
      obtain ⟨rfl, rfl, rfl, rfl, rfl, hw⟩ := hrel
      have hA : Asc wr blk off n G := by rw [hw]; exact A0.out.1
      have A1 := Aside0.mk (And.intro hA (show Below w.heap.size w wr by rw [hw]; exact Below.refl _ _))
      have hn50 := A0.out.2
      have C1 := Aside0.mk (choose_asc blk off cap n G wr hA hn hn50)
      have C2 := Aside0.mk (fun w (hh : Asc w blk off n G) => partial_asc blk off cap n G w hh (by omega) (by omega))
      clear hA hw
      go_wp2_with (first | (go_at_call 27; refine C1.out.mono ?_; rintro e w2 ⟨p, rfl, q⟩; have A2 := Aside0.mk (And.intro (A1.out.1.below q) (below_step A1.out.2 q)); clear q) | (go_at_call 29; refine (C2.out _ A2.out.1).mono ?_; rintro e w3 ⟨rfl, q, rfl⟩))
      all_goals (first | go_ret | go_end0 | refine bodyPost_ret (results_none rfl _ _ _) rfl ?_)
      all_goals (exact ⟨rfl, below_step A2.out.2 (below_drewN' _ _)⟩)
  · have k1 : (n : Int) ≤ 12 := by omega
    have C1 := fun w (hh : Asc w blk off n G) => ins_asc blk off cap n G w hh (by omega)
    clear hl h
    go_enter Try.func21, Try.ntmps21
    go_wp2
    go_loopw [1, 2, 3, 8, 9] (fun x1 x2 x3 x8 x9 wr => x1 = .int .i64 0 ∧ x2 = .int .i64 n ∧ x3 = .int .i64 lim ∧ x8 = .bool true ∧ x9 = .bool true ∧ wr = w) (fun _ _ _ _ _ _ => 0)
    case atStart => exact ⟨rfl, rfl, rfl, rfl, rfl, rfl⟩
    case round =>
      obtain ⟨rfl, rfl, rfl, rfl, rfl, hw⟩ := hrel
      have hA : Asc wr blk off n G := by rw [hw]; exact A0.out.1
      have A1 := Aside0.mk (And.intro hA (show Below w.heap.size w wr by rw [hw]; exact Below.refl _ _))
      clear hA hw
      go_wp2_with (go_at_call 24; refine (C1 _ A1.out.1).mono ?_; rintro e w2 ⟨rfl, q, rfl⟩)
      all_goals (first | go_ret | go_end0 | refine bodyPost_ret (results_none rfl _ _ _) rfl ?_)
      all_goals (exact ⟨rfl, below_step A1.out.2 (below_drewN' _ _)⟩)
set_option maxHeartbeats 800000 in
set_option maxRecDepth 100000 in
theorem ins_nil (w : World) : Calls Try.prog 24 #[.slice none 0 0, .int .i64 0, .int .i64 0] w fun e w' => e = .returned (.tuple #[]) ∧ w' = w := by
  go_enter Try.func24, Try.ntmps24
  go_wp2
  go_loopw [6] (fun vi wr => vi = .int .i64 1 ∧ wr = w) (fun _ _ => 0)
  case atStart => exact ⟨rfl, rfl⟩
  case round =>
    obtain ⟨rfl, rfl⟩ := hrel
    go_wp2
    go_end0
    exact ⟨rfl, rfl⟩
set_option maxHeartbeats 800000 in
set_option maxRecDepth 100000 in
theorem pdq_nil (lim : Int) (w : World) : Calls Try.prog 21 #[.slice none 0 0, .int .i64 0, .int .i64 0, .int .i64 lim] w fun e w' => e = .returned (.tuple #[]) ∧ w' = w := by
  go_enter Try.func21, Try.ntmps21
  go_wp2
  go_loopw [1, 2, 3, 8, 9] (fun x1 x2 x3 x8 x9 wr => x1 = .int .i64 0 ∧ x2 = .int .i64 0 ∧ x3 = .int .i64 lim ∧ x8 = .bool true ∧ x9 = .bool true ∧ wr = w) (fun _ _ _ _ _ _ => 0)
  case atStart => exact ⟨rfl, rfl, rfl, rfl, rfl, rfl⟩
  case round =>
    obtain ⟨rfl, rfl, rfl, rfl, rfl, hw⟩ := hrel
    go_wp2_with (go_at_call 24; refine (ins_nil _).mono ?_; rintro e w2 ⟨rfl, rfl⟩)
    all_goals (first | go_ret | go_end0 | refine bodyPost_ret (results_none rfl _ _ _) rfl ?_)
    all_goals (exact ⟨rfl, rfl⟩)
theorem bitLen_ne {n : Nat} (h : 12 < n) (h2 : n < 50) : (Lib.bitLen n : Int) ≠ 0 := by
  have h1 := Lib.bitLen_half n (by omega) (by omega)
  omega
set_option maxHeartbeats 800000 in
set_option maxRecDepth 100000 in
theorem sort_asc (blk off cap n : Nat) (G : Nat → Int) (w : World) (h : Asc w blk off n G) (h2 : n < 50) :
    Calls Try.prog 18 #[.slice (some ⟨blk, off, none⟩) n cap] w fun e w' => e = .returned (.tuple #[]) ∧ Below w.heap.size w w' := by
  have hb := Any.bits_Len Try.lays125 (n : Int) w (by omega) (by omega)
  change Calls Try.prog 22 _ _ _ at hb
  rw [Int.toNat_natCast] at hb
  have hp := pdq_asc blk off cap n (Lib.bitLen n) G w h h2 (fun hn => bitLen_ne hn h2)
  clear h
  go_enter Try.func18, Try.ntmps18
  go_wp2_with (first | (go_at_call 22; refine hb.mono ?_; rintro e w2 ⟨rfl, rfl⟩) | (go_at_call 21; refine hp.mono ?_; rintro e w3 ⟨rfl, q⟩))
  all_goals (first | go_ret | go_end0 | refine bodyPost_ret (results_none rfl _ _ _) rfl ?_)
  all_goals (exact ⟨rfl, q⟩)
set_option maxHeartbeats 800000 in
set_option maxRecDepth 100000 in
theorem sort_nil (w : World) : Calls Try.prog 18 #[.slice none 0 0] w fun e w' => e = .returned (.tuple #[]) ∧ w' = w := by
  have hb := Any.bits_Len Try.lays125 0 w (by omega) (by omega)
  change Calls Try.prog 22 _ _ _ at hb
  have hp := pdq_nil (Lib.bitLen (Int.toNat 0)) w
  go_enter Try.func18, Try.ntmps18
  go_wp2_with (first | (go_at_call 22; refine hb.mono ?_; rintro e w2 ⟨rfl, rfl⟩) | (go_at_call 21; refine hp.mono ?_; rintro e w3 ⟨rfl, q⟩))
  all_goals (first | go_ret | go_end0 | refine bodyPost_ret (results_none rfl _ _ _) rfl ?_)
  all_goals (exact ⟨rfl, rfl⟩)
end Go.Proofs.Ytjiligngjlejmaa.Vit
