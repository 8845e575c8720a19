/- Contracts of the decoder's columns: each theorem says its own conditions. -/
import Derived.Test.YticiilolmkbncaaDoorVf
namespace Go.Proofs.YticiilolmkbncaaDoor.Vit
open Go.RowKit Go.Proofs.YticiilolmkbncaaDoorW.PrintWords Go.Proofs.YticiilolmkbncaaDoorW.PrintLast Go.Proofs.YticiilolmkbncaaDoorW.PrintMore Go.Proofs.YticiilolmkbncaaDoor.Mem
attribute [local go_sem] max2_int min2_int max_two min_two max_three min_three max_four min_four   -- for this text's walks alone
set_option linter.unusedVariables false
set_option linter.unusedSimpArgs false

/-- What the edge of a state and a bit scores at a step. -/
def ge (f : Nat → Int) (t s i : Nat) : Int := gn (f (4 * t)) (f (4 * t + 1)) (f (4 * t + 2)) (f (4 * t + 3)) (ob (s + 64 * i) 0) (ob (s + 64 * i) 1) (ob (s + 64 * i) 2) (ob (s + 64 * i) 3)
/-- What a state may score, so many steps from the end. -/
def colv (f : Nat → Int) (n steps : Nat) : Nat → Nat → Int
  | 0, s => if s = 0 then 0 else none40
  | r + 1, s =>
    let t := steps - (r + 1)
    let a := stp none40 (ge f t s 0) (colv f n steps r (s / 2))
    if t < n then stp a (ge f t s 1) (colv f n steps r ((s + 64) / 2)) else a

theorem stp_in {top g n : Int} {b : Int} (h0 : 0 ≤ b) (ht : top = none40 ∨ -b - 4000 ≤ top ∧ top ≤ b + 4000) (hg : -4000 ≤ g ∧ g ≤ 4000) (hn : n = none40 ∨ -b ≤ n ∧ n ≤ b) (hb : b ≤ 100000000) :
    stp top g n = none40 ∨ -b - 4000 ≤ stp top g n ∧ stp top g n ≤ b + 4000 := by
  unfold stp
  have h40 : none40 = -1099511627776 := rfl
  split
  · exact ht
  · rename_i h
    right
    rcases hn with hn | hn
    · exact absurd hn h
    · rcases ht with ht | ht <;> omega

theorem colv_in (f : Nat → Int) (hf : ∀ j, -1000 ≤ f j ∧ f j ≤ 1000) (n steps : Nat) : ∀ r, r ≤ 5000 → ∀ s, colv f n steps r s = none40 ∨ -(4000 * r) ≤ colv f n steps r s ∧ colv f n steps r s ≤ 4000 * r
  | 0, _, s => by
    unfold colv
    split
    · right; omega
    · left; rfl
  | r + 1, hr, s => by
    have ih := colv_in f hf n steps r (by omega)
    have hg : ∀ t s i, -4000 ≤ ge f t s i ∧ ge f t s i ≤ 4000 := fun t s i => gn_in _ _ _ _ _ _ _ _ (hf _) (hf _) (hf _) (hf _)
    have h1 := stp_in (b := 4000 * r) (by omega) (Or.inl rfl) (hg (steps - (r + 1)) s 0) (ih (s / 2)) (by omega)
    unfold colv
    dsimp only
    split
    · have h2 := stp_in (b := 4000 * r) (by omega) h1 (hg (steps - (r + 1)) s 1) (ih ((s + 64) / 2)) (by omega)
      rcases h2 with h2 | h2
      · exact Or.inl h2
      · right; omega
    · rcases h1 with h1 | h1
      · exact Or.inl h1
      · right; omega

/-- The cells of the columns behind a step, and the first k of that step's own. -/
def MidV (A : Array Value) (V : Nat → Nat → Int) (steps t k : Nat) : Prop :=
  A.size = 64 * (steps + 1) ∧ (∀ u, t < u → u ≤ steps → ∀ s, s < 64 → A[64 * u + s]? = some (.int .i64 (V u s))) ∧ ∀ s, s < k → A[64 * t + s]? = some (.int .i64 (V t s))
theorem MidV.next {A : Array Value} {V : Nat → Nat → Int} {steps t k : Nat} (h : MidV A V steps t k) (hk : k < 64) (ht : t ≤ steps) : MidV (A.setIfInBounds (t * 64 + k) (.int .i64 (V t k))) V steps t (k + 1) := by
  obtain ⟨h1, h2, h3⟩ := h
  refine ⟨by simpa using h1, fun u hu hu2 s hs => ?_, fun s hs => ?_⟩
  · rw [Array.getElem?_setIfInBounds_ne (by omega)]
    exact h2 u hu hu2 s hs
  · by_cases hsk : s < k
    · rw [Array.getElem?_setIfInBounds_ne (by omega)]
      exact h3 s hsk
    · obtain rfl : s = k := by omega
      rw [show 64 * t + s = t * 64 + s by omega, Array.getElem?_setIfInBounds_self_of_lt (by omega)]
theorem MidV.down {A : Array Value} {V : Nat → Nat → Int} {steps t : Nat} (h : MidV A V steps (t + 1) 64) (ht : t + 1 ≤ steps) : MidV A V steps t 0 :=
  ⟨h.1, fun u hu hu2 s hs => by
    by_cases he : u = t + 1
    · subst he; exact h.2.2 s hs
    · exact h.2.1 u (by omega) hu2 s hs, fun s hs => by omega⟩
/-- The values of all columns. -/
def cv (f : Nat → Int) (n steps : Nat) (u s : Nat) : Int := colv f n steps (steps - u) s
theorem MidV.start {A : Array Value} {f : Nat → Int} {n steps : Nat} (h : MidV A (fun _ _ => none40) steps steps 64) : MidV (A.setIfInBounds (steps * 64) (.int .i64 0)) (cv f n steps) steps steps 64 := by
  obtain ⟨h1, h2, h3⟩ := h
  refine ⟨by simpa using h1, fun u hu hu2 s hs => by omega, fun s hs => ?_⟩
  unfold cv
  rw [Nat.sub_self]
  unfold colv
  by_cases h0 : s = 0
  · subst h0
    rw [show 64 * steps + 0 = steps * 64 by omega, Array.getElem?_setIfInBounds_self_of_lt (by omega)]
    rfl
  · rw [Array.getElem?_setIfInBounds_ne (by omega), if_neg h0]
    exact h3 s hs

/-- A loop's state. -/
def FillRel (w : World) (V : Nat → Nat → Int) (steps t k : Nat) (wr : World) : Prop :=
  k ≤ 64 ∧ (∃ A, wr.heap[w.heap.size]? = some (.cells A 84 (0, 0)) ∧ MidV A V steps t k) ∧ Below w.heap.size w wr
theorem FillRel.cell {w wr : World} {V : Nat → Nat → Int} {steps t k : Nat} (h : FillRel w V steps t k wr) (u s : Nat) (hu : u ≤ steps) (hs : s < 64) : ∃ v, wr.cell? ⟨w.heap.size, u * 64 + s, none⟩ = some v := by
  obtain ⟨_, ⟨A, h1, h2⟩, _⟩ := h
  have hlt : u * 64 + s < A.size := by have := h2.1; omega
  exact ⟨_, (blk_cell h1 _).trans (Array.getElem?_eq_getElem hlt)⟩
theorem FillRel.frozen {w wr : World} {V : Nat → Nat → Int} {steps t k : Nat} (h : FillRel w V steps t k wr) (o : Nat) : wr.frozen? ⟨w.heap.size, o, none⟩ = false := by
  obtain ⟨_, ⟨A, h1, _⟩, _⟩ := h
  rw [blk_frozen h1]
theorem FillRel.next {w wr : World} {V : Nat → Nat → Int} {steps t k : Nat} (h : FillRel w V steps t k wr) (hk : k < 64) (ht : t ≤ steps) :
    FillRel w V steps t (k + 1) (wr.setCell ⟨w.heap.size, t * 64 + k, none⟩ (.int .i64 (V t k))) := by
  obtain ⟨h0, ⟨A, h1, h2⟩, h3⟩ := h
  exact ⟨by omega, ⟨_, blk_set h1 _ _, h2.next hk ht⟩, h3.setCell (Nat.le_refl _) _⟩

theorem FillRel.below {w W w2 : World} {V : Nat → Nat → Int} {steps t k : Nat} (h : FillRel w V steps t k W) (hB : Below W.heap.size W w2) : FillRel w V steps t k w2 := by
  obtain ⟨h0, ⟨A, h1, h2⟩, h3⟩ := h
  exact ⟨h0, ⟨A, (hB.block _ (Array.getElem?_eq_some_iff.1 h1).1).trans h1, h2⟩, h3.trans (hB.mono h3.size)⟩
theorem FillRel.drew {w W : World} {V : Nat → Nat → Int} {steps t k : Nat} (h : FillRel w V steps t k W) : FillRel w V steps t k W.drew := by
  obtain ⟨h0, ⟨A, h1, h2⟩, h3⟩ := h
  exact ⟨h0, ⟨A, h1, h2⟩, pw_below_drewN h3 1⟩
/-- The graph's cells, by edge. -/
theorem graph_cell {w : World} {gb : Nat} {G : Array Value} (hg : w.heap[gb]? = some (.cells G 76 (0, 0))) (hG : IsGraph G 64) (k : Nat) (hk : k < 64) (j : Nat) (hj : j < 14) (v : Value) (hv : (row14 k)[j]? = some v) :
    w.cell? ⟨gb, k * 14 + j, none⟩ = some v := by
  rw [blk_cell hg, show k * 14 + j = 14 * k + j by omega]
  exact (hG.2 k hk j hj).trans hv
theorem cv_two {f : Nat → Int} {n steps t k : Nat} (ht : t < steps) (htn : t < n) : cv f n steps t k = stp (stp none40 (ge f t k 0) (cv f n steps (t + 1) (k / 2))) (ge f t k 1) (cv f n steps (t + 1) ((k + 64) / 2)) := by
  unfold cv
  obtain ⟨r, hr⟩ : ∃ r, steps - (t + 1) = r := ⟨_, rfl⟩
  rw [hr, show steps - t = r + 1 by omega]
  conv => lhs; unfold colv
  dsimp only
  rw [show steps - (r + 1) = t by omega, if_pos htn]
theorem cv_one {f : Nat → Int} {n steps t k : Nat} (ht : t < steps) (htn : n ≤ t) : cv f n steps t k = stp none40 (ge f t k 0) (cv f n steps (t + 1) (k / 2)) := by
  unfold cv
  obtain ⟨r, hr⟩ : ∃ r, steps - (t + 1) = r := ⟨_, rfl⟩
  rw [hr, show steps - t = r + 1 by omega]
  conv => lhs; unfold colv
  dsimp only
  rw [show steps - (r + 1) = t by omega, if_neg (by omega)]
theorem cv_in {f : Nat → Int} (hf : ∀ j, -1000 ≤ f j ∧ f j ≤ 1000) {n steps u s : Nat} (hs : steps ≤ 4102) : cv f n steps u s = none40 ∨ -1000000000 ≤ cv f n steps u s ∧ cv f n steps u s ≤ 1000000000 := by
  rcases colv_in f hf n steps (steps - u) (by omega) s with h | h
  · exact Or.inl h
  · right; unfold cv; omega

/-- What best asks of the world. -/
def BestAt (f : Nat → Int) (lb lo gb ob_ : Nat) (n steps t k : Nat) (W : World) : Prop :=
  (∀ j, j < 4 * steps → W.cell? ⟨lb, lo + j, none⟩ = some (.int .i64 (f j))) ∧ (∃ G, W.heap[gb]? = some (.cells G 76 (0, 0)) ∧ IsGraph G 64) ∧ (∀ s, s < 64 → W.cell? ⟨ob_, (t + 1) * 64 + s, none⟩ = some (.int .i64 (cv f n steps (t + 1) s)))
theorem BestAt.of {f : Nat → Int} {lb lo gb n steps t k : Nat} {w W : World} {G : Array Value} (hl : ∀ j, j < 4 * steps → w.cell? ⟨lb, lo + j, none⟩ = some (.int .i64 (f j))) (hg : w.heap[gb]? = some (.cells G 76 (0, 0))) (hG : IsGraph G 64)
    (hR : FillRel w (cv f n steps) steps t k W) (ht : t < steps) : BestAt f lb lo gb w.heap.size n steps t k W := by
  obtain ⟨_, ⟨A, h1, h2⟩, h3⟩ := hR
  refine ⟨fun j hj => below_cell h3 (hl j hj), ⟨G, (h3.block _ (by have := (Array.getElem?_eq_some_iff.1 hg).1; exact this)).trans hg, hG⟩, fun s hs => ?_⟩
  rw [blk_cell h1, show (t + 1) * 64 + s = 64 * (t + 1) + s by omega]
  exact h2.2.1 (t + 1) (by omega) (by omega) s hs
theorem BestAt.drewN {f : Nat → Int} {lb lo gb ob_ n steps t k : Nat} {W : World} (h : BestAt f lb lo gb ob_ n steps t k W) (q : Nat) : BestAt f lb lo gb ob_ n steps t k (W.drewN q) := h

theorem best_at2 {f : Nat → Int} (hf : ∀ j, -1000 ≤ f j ∧ f j ≤ 1000) {lb lo gb ob_ n steps t k c1 c2 len : Nat} {W : World} (h : BestAt f lb lo gb ob_ n steps t k W) (hlen : 4 ≤ len) (ht : t < steps) (htn : t < n) (hk : k < 64) (hs : steps ≤ 4102) :
    Calls Tryd.prog 63 #[.slice (some ⟨lb, lo + 4 * t, none⟩) len c1, .slice (some ⟨gb, k * 14, none⟩) 2 c2, .pointer (some ⟨ob_, (t + 1) * 64, none⟩)] W fun e w' => e = .returned (.int .i64 (cv f n steps t k)) ∧ Below W.heap.size W w' := by
  obtain ⟨hl, ⟨G, hg, hG⟩, hc⟩ := h
  have hx : ∀ j, j < 4 → W.cell? ⟨lb, lo + 4 * t + j, none⟩ = some (.int .i64 (f (4 * t + j))) := fun j hj => by rw [Nat.add_assoc]; exact hl _ (by omega)
  have E := fun j hj v hv => graph_cell hg hG k hk j hj v hv
  rw [cv_two ht htn]
  exact best_2 lb (lo + 4 * t) len c1 gb (k * 14) c2 ob_ ((t + 1) * 64) (f (4 * t)) (f (4 * t + 1)) (f (4 * t + 2)) (f (4 * t + 3)) k (k / 2) 0 (ob k 0) (ob k 1) (ob k 2) (ob k 3) k ((k + 64) / 2) 1 (ob (k + 64) 0) (ob (k + 64) 1) (ob (k + 64) 2) (ob (k + 64) 3) _ _ W hlen
    (hx 0 (by omega)) (hx 1 (by omega)) (hx 2 (by omega)) (hx 3 (by omega))
    (E 0 (by omega) _ rfl) (E 1 (by omega) _ rfl) (E 2 (by omega) _ rfl) (E 3 (by omega) _ rfl) (E 4 (by omega) _ rfl) (E 5 (by omega) _ rfl) (E 6 (by omega) _ rfl) (E 7 (by omega) _ rfl) (E 8 (by omega) _ rfl) (E 9 (by omega) _ rfl) (E 10 (by omega) _ rfl) (E 11 (by omega) _ rfl) (E 12 (by omega) _ rfl) (E 13 (by omega) _ rfl)
    (hc _ (by omega)) (by omega) (cv_in hf hs) (hc _ (by omega)) (by omega) (cv_in hf hs) (hf _) (hf _) (hf _) (hf _)
theorem best_at1 {f : Nat → Int} (hf : ∀ j, -1000 ≤ f j ∧ f j ≤ 1000) {lb lo gb ob_ n steps t k c1 c2 len : Nat} {W : World} (h : BestAt f lb lo gb ob_ n steps t k W) (hlen : 4 ≤ len) (ht : t < steps) (hk : k < 64) (hs : steps ≤ 4102) :
    Calls Tryd.prog 63 #[.slice (some ⟨lb, lo + 4 * t, none⟩) len c1, .slice (some ⟨gb, k * 14, none⟩) 1 c2, .pointer (some ⟨ob_, (t + 1) * 64, none⟩)] W fun e w' => e = .returned (.int .i64 (stp none40 (ge f t k 0) (cv f n steps (t + 1) (k / 2)))) ∧ Below W.heap.size W w' := by
  obtain ⟨hl, ⟨G, hg, hG⟩, hc⟩ := h
  have hx : ∀ j, j < 4 → W.cell? ⟨lb, lo + 4 * t + j, none⟩ = some (.int .i64 (f (4 * t + j))) := fun j hj => by rw [Nat.add_assoc]; exact hl _ (by omega)
  have E := fun j hj v hv => graph_cell hg hG k hk j hj v hv
  exact best_1 lb (lo + 4 * t) len c1 gb (k * 14) c2 ob_ ((t + 1) * 64) (f (4 * t)) (f (4 * t + 1)) (f (4 * t + 2)) (f (4 * t + 3)) k (k / 2) 0 (ob k 0) (ob k 1) (ob k 2) (ob k 3) _ W hlen
    (hx 0 (by omega)) (hx 1 (by omega)) (hx 2 (by omega)) (hx 3 (by omega))
    (E 0 (by omega) _ rfl) (E 1 (by omega) _ rfl) (E 2 (by omega) _ rfl) (E 3 (by omega) _ rfl) (E 4 (by omega) _ rfl) (E 5 (by omega) _ rfl) (E 6 (by omega) _ rfl)
    (hc _ (by omega)) (by omega) (cv_in hf hs) (hf _) (hf _) (hf _) (hf _)

theorem info84 : (Tryd.prog.info? 84).map (fun i => (i.zero, i.size, i.bytes)) = some (some (.agg (Array.replicate 64 (.int .i64 0))), 64, 512) := by kernel_rfl
theorem size84 : (Tryd.prog.info? 84).map (·.size) = some 64 := by kernel_rfl
theorem make84 (w : World) (k : Nat) (hk : k ≤ 5000) : ∃ Z : Array Value, Z.size = 64 * (k + 1) ∧
    (Instr.makeSlice 79 (.int .i64 ((k : Int) + 1)) (.int .i64 ((k : Int) + 1))).run Tryd.prog w = .ok (.slice (some ⟨w.heap.size, 0, none⟩) (k + 1) (k + 1)) (w.alloc (.cells Z 84)) := by
  obtain ⟨i, hi, hz⟩ := Option.map_eq_some_iff.1 info84
  simp only [Prod.mk.injEq] at hz
  obtain ⟨h1, h2, h3⟩ := hz
  have := run_makeSlice (P := Tryd.prog) w 79 84 i _ Tryd.underlying79 hi h1 .i64 .i64 ((k : Int) + 1) ((k : Int) + 1) (by omega) (by omega) (by rw [h2]; omega) (by rw [h3]; omega) (by omega)
  refine ⟨_, ?_, this⟩
  rw [size_madeCells, h2]
  omega

set_option maxHeartbeats 3200000 in
set_option maxRecDepth 100000 in
theorem columns_any (f : Nat → Int) (hf : ∀ j, -1000 ≤ f j ∧ f j ≤ 1000) (n steps L lb lo c gb : Nat) (G : Array Value) (hL : L = 4 * steps) (hLc : L ≤ c) (hs1 : 1 ≤ steps) (hs : steps ≤ 4102) (w : World)
    (hl : ∀ j, j < 4 * steps → w.cell? ⟨lb, lo + j, none⟩ = some (.int .i64 (f j))) (hg : w.heap[gb]? = some (.cells G 76 (0, 0))) (hG : IsGraph G 64) :
    Calls Tryd.prog 46 #[.slice (some ⟨lb, lo, none⟩) L c, .int .i64 (n : Int), .pointer (some ⟨gb, 0, none⟩)] w fun e w' =>
      ∃ A, e = .returned (.slice (some ⟨w.heap.size, 0, none⟩) (steps + 1) (steps + 1)) ∧ w'.heap[w.heap.size]? = some (.cells A 84 (0, 0)) ∧ MidV A (cv f n steps) steps 0 64 ∧ Below w.heap.size w w' := by
  have HH := Aside0.mk (And.intro hl (And.intro hg (And.intro hG hf)))
  have hq : (L : Int).tdiv 4 = (steps : Int) := by subst hL; rw [Int.tdiv_eq_ediv_of_nonneg (by omega)]; omega
  have hw1 : IntKind.i64.wrap ((steps : Int) + 1) = (steps : Int) + 1 := IntWalk.i64_in _ (by omega)
  obtain ⟨Z, hZ, hmake⟩ := make84 w steps (by omega)
  have HZ := Aside0.mk hZ
  clear hZ
  clear hl hg hG hf
  go_enter Tryd.func46, Tryd.ntmps46
  go_wp2_with fail
  go_loopw [19] (fun i wr => ∃ k : Nat, i = .int .i64 k ∧ FillRel w (fun _ _ => none40) steps steps k wr) (fun i _ => 64 - (intOf i).toNat)
  case atStart => exact ⟨0, rfl, by omega, ⟨Z, heap_alloc_new _ _, HZ.out, fun u h1 h2 => by omega, fun s hs => by omega⟩, below_alloc (Below.refl _ _) _⟩
  case round =>
    obtain ⟨k, rfl, hR⟩ := hrel
    have HR := Aside0.mk hR
    have hst : (steps : Int) < (steps : Int) + 1 := by omega
    by_cases hk : k < 64
    · have hlt : (k : Int) < 64 := by omega
      obtain ⟨v, hv⟩ := hR.cell steps k (Nat.le_refl _) hk
      have hfr := hR.frozen
      clear hR
      go_wp2_with fail
      exact ⟨⟨k + 1, by go_num, HR.out.next hk (Nat.le_refl _)⟩, by simp [intOf]; omega⟩
    · have hge : ¬ (k : Int) < 64 := by omega
      have hk64 : k = 64 := by have := hR.1; omega
      subst hk64
      obtain ⟨v, hv⟩ := hR.cell steps 0 (Nat.le_refl _) (by omega)
      rw [Nat.add_zero] at hv
      have hfr := hR.frozen
      clear hR
      have hsub : IntKind.i64.wrap ((steps : Int) - 1) = (steps : Int) - 1 := IntWalk.i64_in _ (by omega)
      go_wp2_with fail
      go_loopw [10] (fun i wr => ∃ m : Nat, m ≤ steps ∧ i = .int .i64 ((m : Int) - 1) ∧ FillRel w (cv f n steps) steps m 64 wr) (fun i _ => (intOf i + 1).toNat)
      case atStart =>
        obtain ⟨_, ⟨A, h1, h2⟩, h3⟩ := HR.out
        exact ⟨steps, Nat.le_refl _, by go_num, Nat.le_refl _, ⟨_, blk_set h1 _ _, h2.start⟩, h3.setCell (Nat.le_refl _) _⟩
      case round =>
        obtain ⟨m, hm, rfl, hR2⟩ := hrel
        have HR2 := Aside0.mk hR2
        clear HR hv hfr hR2
        by_cases hm0 : m = 0
        · subst hm0
          go_wp2_with fail
          go_ret
          obtain ⟨A, h1, h2⟩ := HR2.out.2.1
          exact ⟨A, rfl, h1, h2, HR2.out.2.2⟩
        · obtain ⟨t, rfl⟩ : ∃ t, m = t + 1 := ⟨m - 1, by omega⟩
          have htt : ((t + 1 : Nat) : Int) - 1 = (t : Int) := by omega
          have hge2 : (0 : Int) ≤ (t : Int) := by omega
          have hmul : IntKind.i64.wrap (4 * (t : Int)) = 4 * (t : Int) := IntWalk.i64_in _ (by omega)
          have hadd : IntKind.i64.wrap ((t : Int) + 1) = (t : Int) + 1 := IntWalk.i64_in _ (by omega)
          have ht1 : (t : Int) < (steps : Int) + 1 := by omega
          have ht2 : (t : Int) + 1 < (steps : Int) + 1 := by omega
          have ht3 : (4 : Int) * t ≤ 4 * steps := by omega
          have HT := Aside0.mk (And.intro (show t < steps by omega) hm)
          have q1 : (4 * (t : Int)).toNat = 4 * t := by omega
          have q2 : (0 : Int) ≤ 4 * (t : Int) := by omega
          have q3 : t ≤ steps := by omega
          have q5 : (0 : Int) ≤ (t : Int) + 1 := by omega
          have q4 : ¬ c = 4 * t := by omega
          rw [htt]
          by_cases htn : t < n
          · have htn' : ¬ (n : Int) ≤ (t : Int) := by omega
            have htd : decide ((n : Int) ≤ (t : Int)) = false := by simp; omega
            have htd2 : decide (n ≤ t) = false := by simp; omega
            go_wp2_with fail
            go_loopw [41] (fun i wr => ∃ k : Nat, i = .int .i64 k ∧ FillRel w (cv f n steps) steps t k wr) (fun i _ => 64 - (intOf i).toNat)
            case atStart => exact ⟨0, rfl, by omega, (match HR2.out.2.1 with | ⟨A, h1, h2⟩ => ⟨A, h1, h2.down hm⟩), HR2.out.2.2⟩
            case round =>
              obtain ⟨k, rfl, hR⟩ := hrel
              have HR := Aside0.mk hR
              by_cases hk : k < 64
              · have hlt : (k : Int) < 64 := by omega
                have HBA := Aside0.mk (BestAt.of HH.out.1 HH.out.2.1 HH.out.2.2.1 hR HT.out.1)
                have HC := Aside0.mk (best_at2 (c1 := c - 4 * t) (c2 := 2) (len := 4 * steps - 4 * t) (W := wr.drew) HH.out.2.2.2 HBA.out (by have := HT.out.1; omega) HT.out.1 htn hk hs)
                obtain ⟨v2, hv2⟩ := hR.cell t k (by omega) hk
                have HV := Aside0.mk (And.intro hv2 (hR.frozen (t * 64 + k)))
                clear hR hv2
                go_upto_region 18 with fail
                go_region_law ((go_simp; go_at_call 63; refine HC.out.mono ?_; rintro e w2 ⟨rfl, hB2⟩; have c2 := below_cell hB2 (show wr.drew.cell? _ = _ from HV.out.1); have fz2 := (hB2.frozen (lies_lt (w := wr.drew) HV.out.1)).trans HV.out.2; have HB2 := Aside0.mk hB2; clear hB2))
                have hF := (FillRel.below (HR.out.drew) HB2.out).next hk (Nat.le_of_lt HT.out.1)
                have HF := Aside0.mk hF
                clear hF
                go_wp2_with fail
                exact ⟨⟨k + 1, by go_num, HF.out⟩, by simp [intOf]; omega⟩
              · have hge : ¬ (k : Int) < 64 := by omega
                have hk64 : k = 64 := by have := hR.1; omega
                subst hk64
                clear hR
                go_wp2_with fail
                exact ⟨⟨t, by omega, rfl, HR.out⟩, by simp [intOf]⟩
          · have htn' : (n : Int) ≤ (t : Int) := by omega
            have htd : decide ((n : Int) ≤ (t : Int)) = true := by simp; omega
            have htd2 : decide (n ≤ t) = true := by simp; omega
            go_wp2_with fail
            go_loopw [41] (fun i wr => ∃ k : Nat, i = .int .i64 k ∧ FillRel w (cv f n steps) steps t k wr) (fun i _ => 64 - (intOf i).toNat)
            case atStart => exact ⟨0, rfl, by omega, (match HR2.out.2.1 with | ⟨A, h1, h2⟩ => ⟨A, h1, h2.down hm⟩), HR2.out.2.2⟩
            case round =>
              obtain ⟨k, rfl, hR⟩ := hrel
              have HR := Aside0.mk hR
              by_cases hk : k < 64
              · have hlt : (k : Int) < 64 := by omega
                have HBA := Aside0.mk (BestAt.of HH.out.1 HH.out.2.1 HH.out.2.2.1 hR HT.out.1)
                have HC := Aside0.mk (best_at1 (c1 := c - 4 * t) (c2 := 2) (len := 4 * steps - 4 * t) (W := wr.drew) HH.out.2.2.2 HBA.out (by have := HT.out.1; omega) HT.out.1 hk hs)
                obtain ⟨v2, hv2⟩ := hR.cell t k (by omega) hk
                have HV := Aside0.mk (And.intro hv2 (hR.frozen (t * 64 + k)))
                clear hR hv2
                go_upto_region 18 with fail
                go_region_law ((go_simp; go_at_call 63; refine HC.out.mono ?_; rintro e w2 ⟨rfl, hB2⟩; have c2 := below_cell hB2 (show wr.drew.cell? _ = _ from HV.out.1); have fz2 := (hB2.frozen (lies_lt (w := wr.drew) HV.out.1)).trans HV.out.2; have HB2 := Aside0.mk hB2; clear hB2))
                have hF := (FillRel.below (HR.out.drew) HB2.out).next hk (Nat.le_of_lt HT.out.1)
                rw [cv_one HT.out.1 (by omega)] at hF
                have HF := Aside0.mk hF
                clear hF
                go_wp2_with fail
                exact ⟨⟨k + 1, by go_num, HF.out⟩, by simp [intOf]; omega⟩
              · have hge : ¬ (k : Int) < 64 := by omega
                have hk64 : k = 64 := by have := hR.1; omega
                subst hk64
                clear hR
                go_wp2_with fail
                exact ⟨⟨t, by omega, rfl, HR.out⟩, by simp [intOf]⟩

end Go.Proofs.YticiilolmkbncaaDoor.Vit
