/- version.Code and harq.Versions. Each theorem says its own conditions. -/
import Derived.Test.YtnejnnfjbhpigaaDoorDn
namespace Go.Proofs.YtnejnnfjbhpigaaDoor.Vit
open Go.RowKit Go.Proofs.YtnejnnfjbhpigaaDoorW.PrintWords Go.Proofs.YtnejnnfjbhpigaaDoorW.PrintLast Go.Proofs.YtnejnnfjbhpigaaDoorW.PrintMore Go.Proofs.YtnejnnfjbhpigaaDoor.Mem Go.Proofs.YtnejnnfjbhpigaaDoor.Crc
attribute [local go_sem] max2_int min2_int max_two min_two max_three min_three max_four min_four   -- for this text's walks alone
set_option linter.unusedVariables false
set_option linter.unusedSimpArgs false

open Go.Proofs.YtnejnnfjbhpigaaDoor.Chk
set_option maxHeartbeats 3200000 in
set_option maxRecDepth 100000 in
theorem VCode_any (m : List Nat) (hm : Bits m) (A : Option Addr) (n c : Nat) (w : World) (hn : m.length = n) (hC : (Kd.int .u8).C w A n (ints m)) (hc : n ≤ c) (hl : n ≤ 10000) (v : Nat) (hv : v < 4) (ht : Taps w) :
    Calls Tryd.prog 46 #[.slice A n c, .int .i64 (v : Int)] w fun e w' => ∃ u, e = .returned (.tuple #[u, .int .i64 0]) ∧ (Kd.int .u8).R 5 w' w.heap.size (fun _ => True) u (ints (pickl (code m) v (n + 6))) ∧ Below w.heap.size w w' := by
  have hcc := CCode_any m hm A n c w hn hC hc hl ht
  have hv0 : ¬ (v : Int) < 0 := by omega
  have hv4 : ¬ (4 : Int) ≤ (v : Int) := by omega
  have hv4i : (v : Int) < 4 := by omega
  have HC := Aside0.mk (And.intro hcc (And.intro hm (And.intro hn hv)))
  clear hcc hm hn hC hc ht hv
  go_enter Tryd.func46, Tryd.ntmps46
  go_wp2_with fail
  refine HC.out.1.mono ?_
  rintro e w1 ⟨u1, rfl, hR1, hB1⟩
  obtain ⟨A1, c1, rfl, hc1, hC1⟩ := Kd.R_reads hR1
  have hcl : (ints (code m)).length = 4 * (n + 6) := by rw [ints_len, code_len, HC.out.2.2.1]
  obtain ⟨K, hK⟩ : ∃ K, 4 * (n + 6) = K := ⟨_, rfl⟩
  rw [hcl, hK] at hc1 hC1 ⊢
  have hsp := Split_any (code m) (code_bits m) A1 K c1 w1 (by rw [code_len, HC.out.2.2.1]; exact hK) hC1 hc1 (n + 6) hK.symm (by omega)
  have H1 := Aside0.mk (And.intro hsp hB1)
  clear hsp hR1 hc1 hC1 hB1 hcl
  go_wp2_with fail
  refine H1.out.1.mono ?_
  rintro e w2 ⟨s, rfl, hrow, hB2⟩
  obtain ⟨A0, d0, e0, _, _⟩ := Kd.R_reads (hrow 0 (by decide))
  obtain ⟨A1, d1, e1, _, _⟩ := Kd.R_reads (hrow 1 (by decide))
  obtain ⟨A2, d2, e2, _, _⟩ := Kd.R_reads (hrow 2 (by decide))
  obtain ⟨A3, d3, e3, _, _⟩ := Kd.R_reads (hrow 3 (by decide))
  generalize (ints (pickl (code m) 0 (n + 6))).length = l0 at e0
  generalize (ints (pickl (code m) 1 (n + 6))).length = l1 at e1
  generalize (ints (pickl (code m) 2 (n + 6))).length = l2 at e2
  generalize (ints (pickl (code m) 3 (n + 6))).length = l3 at e3
  have hM : (w2.alloc (.cells #[.slice A0 l0 d0, .slice A1 l1 d1, .slice A2 l2 d2, .slice A3 l3 d3] 50)).cell? ⟨w2.heap.size, v, none⟩ = some (s v) := by
    rw [← e0, ← e1, ← e2, ← e3]
    exact (blk_cell (heap_alloc_new w2 (.cells (fourS s) 50)) v).trans (fourS_get s HC.out.2.2.2)
  have H2 := Aside0.mk (And.intro (hrow v HC.out.2.2.2) (H1.out.2.trans (hB2.mono H1.out.2.size)))
  have h12 := H1.out.2.size
  rw [e0, e1, e2, e3]
  clear hrow hB2 e0 e1 e2 e3
  go_wp2_with fail
  go_ret2
  exact ⟨s v, rfl, Kd.R_lower (Kd.R_below H2.out.1 (below_alloc (Below.refl _ _) _)) h12, H2.out.2.trans ((below_alloc (Below.refl _ _) _).mono H2.out.2.size)⟩
theorem chg_cell (w : World) (g v : Nat) (x : Value) : Chg (fun k => k = g) w (w.setCell ⟨g, v, none⟩ x) := Chg.set_ (S := fun k => k = g) (Chg.refl _ _) (fun _ => rfl) _
def verK (m : List Nat) (k v : Nat) : List Nat := if v < k then verL m v else []
/-- What Versions' loop knows. -/
structure Vk (w : World) (g : Nat) (m : List Nat) (k : Nat) (s : Nat → Value) (W : World) : Prop where
  box : W.heap[g]? = some (.cells (fourS s) 50 (0, 0))
  row : ∀ v, v < 4 → (Kd.int .u8).R 5 W w.heap.size (fun _ => True) (s v) (ints (verK m k v))
  res : W.heap[w.heap.size]? = some (.cells nil4 50 (0, 0))
  lo : w.heap.size < g
  below : Below w.heap.size w W
theorem Vk.more {w W W' : World} {g k : Nat} {m : List Nat} {s : Nat → Value} (h : Vk w g m k s W) (hB : Below W.heap.size W W') : Vk w g m k s W' := ⟨below_cell_blk hB h.box, fun v hv => Kd.R_below (h.row v hv) hB, below_cell_blk hB h.res, h.lo, h.below.trans (hB.mono h.below.size)⟩
theorem Vk.put {w W : World} {g k : Nat} {m : List Nat} {s : Nat → Value} (h : Vk w g m k s W) (hk : k < 4) {u : Value} (hR : (Kd.int .u8).R 5 W w.heap.size (fun _ => True) u (ints (verL m k))) : Vk w g m (k + 1) (fun v => if v = k then u else s v) (W.setCell ⟨g, k, none⟩ u) := by
  have hlo := h.lo
  refine ⟨?_, fun v hv => ?_, ?_, h.lo, h.below.setCell (by show w.heap.size ≤ g; omega) _⟩
  · have h2 := blk_set h.box k u
    rw [fourS_set s hk] at h2
    exact h2
  · by_cases e : v = k
    · subst e
      rw [if_pos rfl]
      have e2 : verK m (v + 1) v = verL m v := if_pos (by omega)
      rw [e2]
      exact Kd.R_set hR h.box row_ty _ _
    · rw [if_neg e]
      have e2 : verK m (k + 1) v = verK m k v := by
        unfold verK
        by_cases h1 : v < k
        · rw [if_pos h1, if_pos (by omega)]
        · rw [if_neg h1, if_neg (by omega)]
      rw [e2]
      exact Kd.R_set (h.row v hv) h.box row_ty _ _
  · have h2 : (W.setCell ⟨g, k, none⟩ u).heap[w.heap.size]? = W.heap[w.heap.size]? := Below.heap_setCell W ⟨g, k, none⟩ u w.heap.size (by show w.heap.size ≠ g; omega)
    exact h2.trans h.res
theorem Versions_long (A : Option Addr) (n c : Nat) (w : World) (hn : 64 < n) : Calls Tryd.prog 21 #[.slice A n c] w fun e w' => e = .returned (.tuple #[.agg nil4, .int .i64 7]) ∧ Below w.heap.size w w' := by
  have h64 : (64 : Int) < (n : Int) := by omega
  go_enter Tryd.func21, Tryd.ntmps21
  go_wp2_with fail
  exact bodyPost_ret (v := .tuple #[.agg nil4, .int .i64 7]) (by simp [results, Tryd.results21, go_sem]) rfl ⟨rfl, below_alloc (below_alloc (Below.refl _ _) _) _⟩
set_option maxHeartbeats 3200000 in
set_option maxRecDepth 100000 in
theorem Versions_any (m : List Nat) (hm : ∀ x ∈ m, x < 256) (A : Option Addr) (n c : Nat) (w : World) (hn : m.length = n) (hC : (Kd.int .u8).C w A n (ints m)) (hl : n ≤ 64) (ht : Taps w) :
    Calls Tryd.prog 21 #[.slice A n c] w fun e w' => ∃ s : Nat → Value, e = .returned (.tuple #[.agg #[s 0, s 1, s 2, s 3], .int .i64 0]) ∧ (∀ v, v < 4 → (Kd.int .u8).R 5 w' w.heap.size (fun _ => True) (s v) (ints (verL m v))) ∧ Below w.heap.size w w' := by
  have h64 : ¬ (64 : Int) < (n : Int) := by omega
  obtain ⟨Wa, hWa⟩ : ∃ Wa, (w.alloc (.cells nil4 50)).alloc (.cells nil4 50) = Wa := ⟨_, rfl⟩
  have hV0 : Vk w (w.heap.size + 1) m 0 (fun _ => .slice none 0 0) Wa := by
    rw [← hWa]
    refine ⟨?_, fun v _ => ?_, below_cell_blk (below_alloc (Below.refl _ _) _) (heap_alloc_new w _), Nat.lt_succ_self _, below_alloc (below_alloc (Below.refl _ _) _) _⟩
    · have h := heap_alloc_new (w.alloc (.cells nil4 50)) (.cells nil4 50)
      rw [World.size_alloc] at h
      exact h
    · rw [show verK m 0 v = [] from if_neg (by omega)]
      exact Kd.R_nil _ _ _ _ _
  have hsz : Wa.heap.size = w.heap.size + 2 := by rw [← hWa, World.size_alloc, World.size_alloc]
  have hcl := Close32_any m hm A n c Wa hn (Kd.C_below hC hV0.below) (by omega)
  obtain ⟨g, hg⟩ : ∃ g, w.heap.size + 1 = g := ⟨_, rfl⟩
  rw [hg] at hV0
  have HC := Aside0.mk (And.intro hcl (And.intro hV0 (And.intro hn (And.intro hm (And.intro ht (And.intro hsz hg))))))
  clear hcl hV0 hn hC hm ht hsz
  go_enter Tryd.func21, Tryd.ntmps21
  go_wp2_with fail
  try rw [hWa]
  try rw [hg]
  clear hWa hg
  refine HC.out.1.mono ?_
  rintro e w4 ⟨u4, rfl, hR4, hB4⟩
  have hlc : (ints (closeB m)).length = n + 4 := by rw [ints_len, closeB_len, HC.out.2.2.1]
  obtain ⟨A4, c4, rfl, hc4, hC4⟩ := Kd.R_reads hR4
  rw [hlc] at hc4 hC4 ⊢
  have hof := BOf_any (closeB m) (closeB_lt HC.out.2.2.2.1) A4 (n + 4) c4 w4 (by rw [← ints_len]; exact hlc) hC4 (by omega)
  have H4 := Aside0.mk (And.intro hof hB4)
  clear hof hR4 hC4 hc4 hlc hB4
  go_wp2_with fail
  refine H4.out.1.mono ?_
  rintro e w5 ⟨u5, rfl, hR5, hB5⟩
  have hlm : (msgB m).length = 8 * (n + 4) := by rw [msgB_len, HC.out.2.2.1]
  have hlb : (ints (ofB (closeB m))).length = 8 * (n + 4) := by rw [ints_len]; exact hlm
  obtain ⟨A5, c5, rfl, hc5, hC5⟩ := Kd.R_reads hR5
  rw [hlb] at hc5 hC5 hR5 ⊢
  have hA5 : ∀ ad, A5 = some ad → ad.block ≠ g := fun ad had he => by
    have h1 := ((Kd.R_bound hR5).1 ad.block (by rw [had]; rfl)).2.1
    have h2 := H4.out.2.size
    have h3 := HC.out.2.2.2.2.2.1
    have h4 := HC.out.2.2.2.2.2.2
    omega
  have hB05 : Below Wa.heap.size Wa w5 := H4.out.2.trans (hB5.mono H4.out.2.size)
  obtain ⟨L, hL⟩ : ∃ L, 8 * (n + 4) = L := ⟨_, rfl⟩
  rw [hL] at hc5 hC5 hlm ⊢
  have H5 := Aside0.mk (And.intro (HC.out.2.1.more hB05) (And.intro hC5 (And.intro hc5 (And.intro hA5 (And.intro hlm hL)))))
  clear hR5 hB5 hlm hlb hc5 hC5 hA5 hB05 hL
  go_wp2_with fail
  go_loopw [16] (fun x wr => ∃ (k : Nat) (s : Nat → Value), x = .int .i64 k ∧ k ≤ 4 ∧ Vk w g m k s wr ∧ (Kd.int .u8).C wr A5 L (ints (msgB m))) (fun x _ => 4 - (intOf x).toNat)
  case atStart => exact ⟨0, _, rfl, Nat.zero_le _, H5.out.1, H5.out.2.1⟩
  case round =>
    obtain ⟨k, s, rfl, hk4, hV, hC5⟩ := hrel
    by_cases hk : k < 4
    · have hki : (k : Int) < 4 := by omega
      have hvc := VCode_any (msgB m) (msgB_bits m) A5 L c5 wr H5.out.2.2.2.2.1 hC5 H5.out.2.2.1 (by have := H5.out.2.2.2.2.2; omega) k hk (HC.out.2.2.2.2.1.below hV.below)
      have hvl : pickl (code (msgB m)) k (L + 6) = verL m k := by
        unfold verL
        rw [HC.out.2.2.1, H5.out.2.2.2.2.2]
      rw [hvl] at hvc
      have HR := Aside0.mk (And.intro hvc (And.intro hV hC5))
      clear hvc hV hC5 hvl
      go_wp2_with fail
      refine HR.out.1.mono ?_
      rintro e w7 ⟨u7, rfl, hR7, hB7⟩
      have hV7 := HR.out.2.1.more hB7
      have hRb := Kd.R_lower hR7 HR.out.2.1.below.size
      have hC7 := C_chg (Kd.C_below HR.out.2.2 hB7) (chg_cell w7 g k u7) (fun ad had hs => H5.out.2.2.2.1 ad had hs)
      have hP := hV7.put hk hRb
      have gc7 : w7.cell? ⟨g, k, none⟩ = some (s k) := (blk_cell hV7.box k).trans (fourS_get s hk)
      have gf7 : w7.frozen? ⟨g, k, none⟩ = false := blk_frozen hV7.box k
      obtain ⟨A7, c7, e7, _, _⟩ := Kd.R_reads hRb
      generalize (ints (verL m k)).length = L7 at e7
      subst e7
      have H7 := Aside0.mk (And.intro hP hC7)
      clear hR7 hB7 hV7 hRb hC7 hP
      go_wp2_with fail
      exact ⟨⟨k + 1, _, by go_num, by omega, H7.out.1, H7.out.2⟩, by simp only [intOf]; omega⟩
    · obtain rfl : k = 4 := by omega
      have hki : ¬ ((4 : Nat) : Int) < 4 := by omega
      have k0 : wr.cell? ⟨g, 0, none⟩ = some (s 0) := blk_cell hV.box 0
      have k1 : wr.cell? ⟨g, 1, none⟩ = some (s 1) := blk_cell hV.box 1
      have k2 : wr.cell? ⟨g, 2, none⟩ = some (s 2) := blk_cell hV.box 2
      have k3 : wr.cell? ⟨g, 3, none⟩ = some (s 3) := blk_cell hV.box 3
      have f0 := blk_frozen hV.res 0
      have f1 := blk_frozen hV.res 1
      have f2 := blk_frozen hV.res 2
      have f3 := blk_frozen hV.res 3
      have c0 : wr.cell? ⟨w.heap.size, 0, none⟩ = some (.slice none 0 0) := blk_cell hV.res 0
      have c1 : wr.cell? ⟨w.heap.size, 1, none⟩ = some (.slice none 0 0) := blk_cell hV.res 1
      have c2 : wr.cell? ⟨w.heap.size, 2, none⟩ = some (.slice none 0 0) := blk_cell hV.res 2
      have c3 : wr.cell? ⟨w.heap.size, 3, none⟩ = some (.slice none 0 0) := blk_cell hV.res 3
      obtain ⟨A0, d0, e0, _, _⟩ := Kd.R_reads (hV.row 0 (by decide))
      obtain ⟨A1, d1, e1, _, _⟩ := Kd.R_reads (hV.row 1 (by decide))
      obtain ⟨A2, d2, e2, _, _⟩ := Kd.R_reads (hV.row 2 (by decide))
      obtain ⟨A3, d3, e3, _, _⟩ := Kd.R_reads (hV.row 3 (by decide))
      generalize (ints (verK m 4 0)).length = l0 at e0
      generalize (ints (verK m 4 1)).length = l1 at e1
      generalize (ints (verK m 4 2)).length = l2 at e2
      generalize (ints (verK m 4 3)).length = l3 at e3
      rw [e0] at k0
      rw [e1] at k1
      rw [e2] at k2
      rw [e3] at k3
      have HS := Aside0.mk (And.intro hV (And.intro e0 (And.intro e1 (And.intro e2 e3))))
      clear hV hC5 e0 e1 e2 e3
      go_wp2_with fail
      obtain ⟨hS, e0, e1, e2, e3⟩ := HS.out
      have hr := hS.res
      have hrow : ∀ v, v < 4 → (Kd.int .u8).R 5 ((((wr.setCell ⟨w.heap.size, 0, none⟩ (.slice A0 l0 d0)).setCell ⟨w.heap.size, 1, none⟩ (.slice A1 l1 d1)).setCell ⟨w.heap.size, 2, none⟩ (.slice A2 l2 d2)).setCell ⟨w.heap.size, 3, none⟩ (.slice A3 l3 d3)) w.heap.size (fun _ => True) (s v) (ints (verL m v)) := fun v hv => by
        have h := hS.row v hv
        rw [show verK m 4 v = verL m v from if_pos hv] at h
        exact Kd.R_set (Kd.R_set (Kd.R_set (Kd.R_set h hr row_ty 0 _) (blk_set hr 0 _) row_ty 1 _) (blk_set (blk_set hr 0 _) 1 _) row_ty 2 _) (blk_set (blk_set (blk_set hr 0 _) 1 _) 2 _) row_ty 3 _
      have hB : Below w.heap.size w ((((wr.setCell ⟨w.heap.size, 0, none⟩ (.slice A0 l0 d0)).setCell ⟨w.heap.size, 1, none⟩ (.slice A1 l1 d1)).setCell ⟨w.heap.size, 2, none⟩ (.slice A2 l2 d2)).setCell ⟨w.heap.size, 3, none⟩ (.slice A3 l3 d3)) := (((hS.below.setCell (Nat.le_refl _) _).setCell (Nat.le_refl _) _).setCell (Nat.le_refl _) _).setCell (Nat.le_refl _) _
      exact bodyPost_ret (v := .tuple #[.agg #[.slice A0 l0 d0, .slice A1 l1 d1, .slice A2 l2 d2, .slice A3 l3 d3], .int .i64 0]) (by simp [results, Tryd.results21, go_sem, c0, c1, c2, c3]) rfl ⟨s, by rw [e0, e1, e2, e3], hrow, hB⟩
end Go.Proofs.YtnejnnfjbhpigaaDoor.Vit
