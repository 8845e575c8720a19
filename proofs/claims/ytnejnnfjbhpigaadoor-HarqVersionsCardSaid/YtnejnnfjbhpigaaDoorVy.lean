/- Contracts of the document's trellis and gain (shuttleref06.List, shuttleref07.Step, shuttleref09.gain): each theorem says its own conditions. -/
import Derived.Test.YtnejnnfjbhpigaaDoorVr
namespace Go.Proofs.YtnejnnfjbhpigaaDoor.Vit
open Go.RowKit Go.Proofs.YtnejnnfjbhpigaaDoorW.PrintWords Go.Proofs.YtnejnnfjbhpigaaDoorW.PrintLast Go.Proofs.YtnejnnfjbhpigaaDoorW.PrintMore Go.Proofs.YtnejnnfjbhpigaaDoor.Mem
attribute [local go_sem] max2_int min2_int max_two min_two max_three min_three max_four min_four   -- for this text's walks alone
set_option linter.unusedVariables false
set_option linter.unusedSimpArgs false

/-- The bits of a state, the oldest first, and one more. -/
def lstN (s : Nat) (n : Nat) : List Nat := (List.range n).map fun i => s / 2 ^ i % 2
theorem lstN_next (s n : Nat) : lstN s (n + 1) = lstN s n ++ [s / 2 ^ n % 2] := by
  unfold lstN
  rw [List.range_succ, List.map_append]
  rfl
theorem lstN_len (s n : Nat) : (lstN s n).length = n := by simp [lstN]
def lst (s b : Nat) : List Nat := lstN s 6 ++ [b]
theorem lst_bits (s : Nat) {b : Nat} (hb : b ≤ 1) : Bits (lst s b) := fun x hx => by
  rcases List.mem_append.1 hx with h | h
  · obtain ⟨i, _, rfl⟩ := List.mem_map.1 h
    omega
  · obtain rfl : x = b := by simpa using h
    exact hb
theorem lst_len (s b : Nat) : (lst s b).length = 7 := by unfold lst; rw [List.length_append, lstN_len]; rfl
theorem lst_st {s b : Nat} (hs : s < 64) (hb : b ≤ 1) : stt (lst s b) 6 + 64 * bitAt (lst s b) 6 0 = s + 64 * b := by
  have e : lst s b = [s / 1 % 2, s / 2 % 2, s / 4 % 2, s / 8 % 2, s / 16 % 2, s / 32 % 2, b] := rfl
  rw [e]
  unfold stt bitAt
  simp only [show (0 : Nat) ≤ 6 by omega, show (1 : Nat) ≤ 6 by omega, show (2 : Nat) ≤ 6 by omega, show (3 : Nat) ≤ 6 by omega, show (4 : Nat) ≤ 6 by omega, show (5 : Nat) ≤ 6 by omega, Nat.le_refl, if_true]
  show 32 * (s / 32 % 2) + 16 * (s / 16 % 2) + 8 * (s / 8 % 2) + 4 * (s / 4 % 2) + 2 * (s / 2 % 2) + s / 1 % 2 + 64 * b = s + 64 * b
  omega

set_option maxHeartbeats 3200000 in
set_option maxRecDepth 100000 in
theorem List_any (s b : Nat) (hs : s < 64) (hb : b ≤ 1) (w : World) :
    Calls Tryd.prog 64 #[.int .i64 (s : Int), .int .u8 (b : Int)] w fun e w' => ∃ v, e = .returned v ∧ (Kd.int .u8).R 5 w' w.heap.size (fun _ => True) v (ints (lst s b)) ∧ Below w.heap.size w w' := by
  go_enter Tryd.func64, Tryd.ntmps64
  go_wp2_with fail
  go_loopw [5, 6] (fun o k wr => ∃ i : Nat, k = .int .i64 i ∧ i ≤ 6 ∧ (Kd.int .u8).R 5 wr w.heap.size (fun _ => True) o (ints (lstN s i)) ∧ Below w.heap.size w wr) (fun _ k _ => 6 - (intOf k).toNat)
  case atStart => exact ⟨0, rfl, by omega, Kd.R_nil _ _ _ _ _, Below.refl _ _⟩
  case round =>
    obtain ⟨i, rfl, hi, hR, hB⟩ := hrel
    have HR := Aside0.mk (And.intro hR hB)
    clear hR hB
    by_cases h6 : i < 6
    · have h6' : (i : Int) < 6 := by omega
      have hb := shr_is (k := s) (i := i) (by omega)
      obtain ⟨P, hP⟩ : ∃ P, s / 2 ^ i % 2 = P := ⟨_, rfl⟩
      have hP1 : P ≤ 1 := by omega
      rw [hP] at hb
      have hw8 : IntKind.u8.wrap ((P : Nat) : Int) = (P : Int) := by rw [IntKind.wrap_u8]; omega
      have hmin : min i 64 = i := by omega
      have HP := Aside0.mk hP
      clear hP hP1
      go_wp2_with (first | ((with_reducible refine gate_builtin (b := .append) (xs := #[.tmp 11, .tmp 17]) rfl ?_); at_builtin; refine Kd.R_append (Kd.int .u8) (w0 := w) w.heap.size rfl (.tmp 11) (.tmp 17) 22 5 (.int .u8 0) 1 rfl Tryd.underlying22 info5 rfl (by decide) (by omega) u5 (ints (lstN s i)) (P : Int) [.int .u8 P] (fun _ => True) (fun _ => False) rfl rfl ?aP (fun _ hk => hk.elim) ?aF ?aO ?aB ?aS ?aL ?_; (case aP => exact rfl); (case aB => exact HR.out.2); (case aF => exact (fun _ _ => trivial)); (case aO => exact HR.out.1); (case aS => exact below_size HR.out.2); (case aL => rw [ints_len, lstN_len]; omega); intro v1 w7 ho hb hg hat; have HN := Aside0.mk (And.intro ho hb); clear ho hb hg hat))
      refine ⟨⟨i + 1, by go_num, by omega, ?_, HN.out.2⟩, by simp only [intOf]; omega⟩
      rw [lstN_next, ints_append, HP.out]
      exact HN.out.1
    · have h6' : ¬ (i : Int) < 6 := by omega
      obtain rfl : i = 6 := by omega
      go_wp2_with (first | ((with_reducible refine gate_builtin (b := .append) (xs := #[.tmp 19, .tmp 21]) rfl ?_); at_builtin; refine Kd.R_append (Kd.int .u8) (w0 := w) w.heap.size rfl (.tmp 19) (.tmp 21) 22 5 (.int .u8 0) 1 rfl Tryd.underlying22 info5 rfl (by decide) (by omega) u5 (ints (lstN s 6)) (b : Int) [.int .u8 b] (fun _ => True) (fun _ => False) rfl rfl ?aP (fun _ hk => hk.elim) ?aF ?aO ?aB ?aS ?aL ?_; (case aP => exact rfl); (case aB => exact HR.out.2); (case aF => exact (fun _ _ => trivial)); (case aO => exact HR.out.1); (case aS => exact below_size HR.out.2); (case aL => rw [ints_len, lstN_len]; omega); intro v1 w7 ho hb hg hat; have HN := Aside0.mk (And.intro ho hb); clear ho hb hg hat))
      go_ret
      refine ⟨_, rfl, ?_, HN.out.2⟩
      unfold lst
      rw [ints_append]
      exact HN.out.1

/-- An edge's cells. -/
def edgeA (s b i : Nat) : Array Value := #[.int .i64 (s : Int), .int .i64 ((s : Int) / 2 + 32 * (b : Int)), .int .u8 (b : Int), .int .u8 (if 0 < i then (ob (s + 64 * b) 0 : Int) else 0), .int .u8 (if 1 < i then (ob (s + 64 * b) 1 : Int) else 0), .int .u8 (if 2 < i then (ob (s + 64 * b) 2 : Int) else 0), .int .u8 (if 3 < i then (ob (s + 64 * b) 3 : Int) else 0)]
theorem edgeA_next (s b i : Nat) (h : i < 4) : edgeA s b (i + 1) = (edgeA s b i).setIfInBounds (3 + i) (.int .u8 (ob (s + 64 * b) i : Nat)) := by
  obtain ⟨x, hx⟩ : ∃ x, s + 64 * b = x := ⟨_, rfl⟩
  unfold edgeA
  rw [hx]
  generalize ob x = g
  match i, h with
  | 0, _ => simp
  | 1, _ => simp
  | 2, _ => simp
  | 3, _ => simp
set_option maxHeartbeats 1600000 in
set_option maxRecDepth 100000 in
theorem Step_any (s b : Nat) (hs : s < 64) (hb : b ≤ 1) (w : World) :
    Calls Tryd.prog 34 #[.int .i64 (s : Int), .int .u8 (b : Int)] w fun e w' => e = .returned (.agg (edgeA s b 4)) ∧ Below w.heap.size w w' := by
  have q1 : (s : Int).tdiv 2 = (s : Int) / 2 := by rw [Int.tdiv_eq_ediv_of_nonneg (by omega)]
  have q2 : wrap64 ((s : Int) / 2) = (s : Int) / 2 := by unfold wrap64; omega
  have q3 : wrap64 (b : Int) = (b : Int) := by unfold wrap64; omega
  have q4 : wrap64 (32 * (b : Int)) = 32 * (b : Int) := by unfold wrap64; omega
  have q5 : wrap64 ((s : Int) / 2 + 32 * (b : Int)) = (s : Int) / 2 + 32 * (b : Int) := by unfold wrap64; omega
  go_enter Tryd.func34, Tryd.ntmps34
  go_upto_region 2 with fail
  obtain ⟨W1, hW1⟩ : ∃ W1, ((w.alloc (.cells #[.int .i64 0, .int .i64 0, .int .u8 0, .int .u8 0, .int .u8 0, .int .u8 0, .int .u8 0] 69)).alloc (.cells #[.int .i64 (s : Int), .int .i64 ((s : Int) / 2 + 32 * (b : Int)), .int .u8 (b : Int), .int .u8 0, .int .u8 0, .int .u8 0, .int .u8 0] 69)) = W1 := ⟨_, rfl⟩
  have h0 : W1.heap[w.heap.size]? = some (.cells #[.int .i64 0, .int .i64 0, .int .u8 0, .int .u8 0, .int .u8 0, .int .u8 0, .int .u8 0] 69 (0, 0)) := by
    rw [← hW1]
    exact blk_alloc (heap_alloc_new w _) _
  have h1 : W1.heap[w.heap.size + 1]? = some (.cells (edgeA s b 0) 69 (0, 0)) := by
    rw [← hW1]
    have := heap_alloc_new (w.alloc (.cells #[.int .i64 0, .int .i64 0, .int .u8 0, .int .u8 0, .int .u8 0, .int .u8 0, .int .u8 0] 69)) (.cells (edgeA s b 0) 69)
    rw [World.size_alloc] at this
    exact this
  have hB1 : Below w.heap.size w W1 := by rw [← hW1]; exact below_alloc (below_alloc (Below.refl _ _) _) _
  have hz1 : W1.heap.size = w.heap.size + 2 := by rw [← hW1]; simp
  rw [hW1]
  have H1 := Aside0.mk (And.intro h0 (And.intro h1 (And.intro hB1 hz1)))
  clear hW1 h0 h1 hB1 hz1
  go_upto_region 3 with (go_at_call 64; refine (List_any s b hs hb _).mono ?_; rintro e w2 ⟨v2, rfl, hR2, hB2⟩; have H2 := Aside0.mk (And.intro hR2 hB2); clear hR2 hB2)
  obtain ⟨A2, c2, e2, hc2, hC2⟩ := Kd.R_reads H2.out.1
  rw [ints_len, lst_len] at e2 hc2 hC2
  subst e2
  have HC2 := Aside0.mk hC2
  clear hC2
  have hbit := fun i hi W hW => Bit_any (lst s b) (lst_bits s hb) A2 c2 6 i W hW (by rw [lst_len]; exact hc2) (by rw [lst_len]; omega) (by omega) hi
  rw [lst_len] at hbit
  have HBit := Aside0.mk hbit
  clear hbit
  go_wp2_with fail
  go_loopw [7] (fun k wr => ∃ i : Nat, k = .int .i64 i ∧ i ≤ 4 ∧ wr.heap[w.heap.size + 1]? = some (.cells (edgeA s b i) 69 (0, 0)) ∧ (∃ Z : Array Value, Z.size = 7 ∧ wr.heap[w.heap.size]? = some (.cells Z 69 (0, 0))) ∧ Below w.heap.size w wr ∧ (Kd.int .u8).R 5 wr (w.heap.size + 2) (fun k => w.heap.size + 2 ≤ k) (.slice A2 7 c2) (ints (lst s b))) (fun k _ => 4 - (intOf k).toNat)
  case atStart =>
    exact ⟨0, rfl, by omega, below_cell_blk H2.out.2 H1.out.2.1, ⟨_, rfl, below_cell_blk H2.out.2 H1.out.1⟩, H1.out.2.2.1.trans (H2.out.2.mono H1.out.2.2.1.size), by have h := Kd.R_mono (Kd.R_bound H2.out.1) (fun k hk => hk.2.1); rw [H1.out.2.2.2] at h; exact h⟩
  case round =>
    obtain ⟨i, rfl, hi, hcells, hz, hB, hCr⟩ := hrel
    have HR := Aside0.mk (And.intro hcells (And.intro hz (And.intro hB hCr)))
    clear hcells hz hB hCr
    by_cases h4 : i < 4
    · have h4' : (i : Int) < 4 := by omega
      obtain ⟨A9, c9, e9, hc9, hC9⟩ := Kd.R_reads HR.out.2.2.2
      rw [ints_len, lst_len] at e9 hC9
      injection e9 with e91 e92 e93
      subst e91
      obtain ⟨P, hP⟩ : ∃ P, bitv (lst s b) 6 i 7 = P := ⟨_, rfl⟩
      have hPo : P = ob (s + 64 * b) i := by rw [← hP, bitv_ob (lst_bits s hb) 6 i h4, lst_st hs hb]
      have hbi := HBit.out i h4 wr hC9
      rw [hP] at hbi
      obtain ⟨v0, hv0⟩ : ∃ v0, (edgeA s b i)[3 + i]? = some v0 := ⟨_, Array.getElem?_eq_getElem (by show 3 + i < 7; omega)⟩
      have HX := Aside0.mk (And.intro hbi (And.intro hPo hv0))
      clear hbi hPo hP hv0 hC9 hc9 e92 e93
      go_wp2_with (first | (go_at_call 62; refine HX.out.1.mono ?_; rintro e w5 ⟨rfl, hB5⟩; have hb5 := below_cell_blk hB5 HR.out.1; have k1 : w5.cell? ⟨w.heap.size + 1, 3 + i, none⟩ = some v0 := (blk_cell hb5 _).trans HX.out.2.2; have k2 : w5.frozen? ⟨w.heap.size + 1, 3 + i, none⟩ = false := blk_frozen hb5 _; have H5 := Aside0.mk (And.intro hb5 hB5); clear hb5 hB5))
      obtain ⟨Z, hZs, hZ⟩ := HR.out.2.1
      refine ⟨⟨i + 1, by go_num, by omega, ?_, ⟨Z, hZs, ?_⟩, ?_, ?_⟩, by simp only [intOf]; omega⟩
      · have e : edgeA s b (i + 1) = (edgeA s b i).setIfInBounds (3 + i) (.int .u8 (P : Int)) := by
          rw [HX.out.2.1]
          exact edgeA_next s b i h4
        rw [e]
        exact blk_set H5.out.1 (3 + i) (.int .u8 (P : Int))
      · rw [Below.heap_setCell _ _ _ _ (by show w.heap.size ≠ w.heap.size + 1; omega)]
        exact below_cell_blk H5.out.2 hZ
      · exact (HR.out.2.2.1.trans (H5.out.2.mono HR.out.2.2.1.size)).setCell (by show w.heap.size ≤ w.heap.size + 1; omega) _
      · exact Kd.R_far (Kd.R_below HR.out.2.2.2 H5.out.2) (fun k hk => by show k ≠ w.heap.size + 1; omega) _
    · have h4' : ¬ (i : Int) < 4 := by omega
      obtain rfl : i = 4 := by omega
      obtain ⟨Z, hZs, hZ⟩ := HR.out.2.1
      have M : ∀ j, wr.cell? ⟨w.heap.size + 1, j, none⟩ = (edgeA s b 4)[j]? := fun j => blk_cell HR.out.1 j
      have M0 := M 0
      have M1 := M 1
      have M2 := M 2
      have M3 := M 3
      have M4 := M 4
      have M5 := M 5
      have M6 := M 6
      have N : ∀ j, j < 7 → ∃ v, wr.cell? ⟨w.heap.size, j, none⟩ = some v := fun j hj => ⟨_, (blk_cell hZ j).trans (Array.getElem?_eq_getElem (by omega))⟩
      obtain ⟨n0, N0⟩ := N 0 (by omega)
      obtain ⟨n1, N1⟩ := N 1 (by omega)
      obtain ⟨n2, N2⟩ := N 2 (by omega)
      obtain ⟨n3, N3⟩ := N 3 (by omega)
      obtain ⟨n4, N4⟩ := N 4 (by omega)
      obtain ⟨n5, N5⟩ := N 5 (by omega)
      obtain ⟨n6, N6⟩ := N 6 (by omega)
      have F : ∀ j, wr.frozen? ⟨w.heap.size, j, none⟩ = false := fun j => blk_frozen hZ j
      have F0 := F 0
      have F1 := F 1
      have F2 := F 2
      have F3 := F 3
      have F4 := F 4
      have F5 := F 5
      have F6 := F 6
      clear M N F hZ hZs
      simp only [edgeA, List.getElem?_toArray, List.getElem?_cons_zero, List.getElem?_cons_succ] at M0 M1 M2 M3 M4 M5 M6
      have HB := Aside0.mk HR.out.2.2.1
      go_wp2_with fail
      exact bodyPost_ret (v := .agg (edgeA s b 4)) (by simp [results, Tryd.results34, go_sem, N0, N1, N2, N3, N4, N5, N6, edgeA]) rfl
        ⟨rfl, ((((((HB.out.setCell (Nat.le_refl _) _).setCell (Nat.le_refl _) _).setCell (Nat.le_refl _) _).setCell (Nat.le_refl _) _).setCell (Nat.le_refl _) _).setCell (Nat.le_refl _) _).setCell (Nat.le_refl _) _⟩
/-- Cells of a block, from a place on, read as a row. -/
theorem C_cells {k : IntKind} {W : World} {b off : Nat} (xs : List Int) (hl : xs.length ≤ 9223372036854775807) (h : ∀ j p, xs[j]? = some p → W.cell? ⟨b, off + j, none⟩ = some (.int k p)) : (Kd.int k).C W (some ⟨b, off, none⟩) xs.length xs := by
  refine ⟨rfl, hl, fun _ => ⟨_, rfl, fun j p hj => ⟨[.int k p], rfl, rfl, fun i u hu => ?_⟩⟩⟩
  match i, hu with
  | 0, hu =>
    obtain rfl : Value.int k p = u := by simpa using hu
    have e : (⟨b, off, none⟩ : Addr).add (j * (Kd.int k).sz + 0) = ⟨b, off + j, none⟩ := by
      show (⟨b, off, none⟩ : Addr).add (j * 1 + 0) = _
      unfold Addr.add
      split <;> simp_all
    rw [e]
    exact h j p hj
  | i + 1, hu => simp at hu

set_option maxHeartbeats 1600000 in
set_option maxRecDepth 100000 in
theorem gain9_any (A : Option Addr) (c : Nat) (x0 x1 x2 x3 : Int) (s b : Nat) (w : World) (hC : (Kd.int .i64).C w A 4 [x0, x1, x2, x3]) (hc : 4 ≤ c) (b0 : -1000 ≤ x0 ∧ x0 ≤ 1000) (b1 : -1000 ≤ x1 ∧ x1 ≤ 1000) (b2 : -1000 ≤ x2 ∧ x2 ≤ 1000) (b3 : -1000 ≤ x3 ∧ x3 ≤ 1000) :
    Calls Tryd.prog 68 #[.slice A 4 c, .agg (edgeA s b 4)] w fun e w' => e = .returned (.int .i64 (gn x0 x1 x2 x3 (ob (s + 64 * b) 0) (ob (s + 64 * b) 1) (ob (s + 64 * b) 2) (ob (s + 64 * b) 3))) ∧ Below w.heap.size w w' := by
  obtain ⟨o, ho⟩ : ∃ o : List Nat, [ob (s + 64 * b) 0, ob (s + 64 * b) 1, ob (s + 64 * b) 2, ob (s + 64 * b) 3] = o := ⟨_, rfl⟩
  obtain ⟨E, hE⟩ : ∃ E, edgeA s b 4 = E := ⟨_, rfl⟩
  have hsc := fun W h1 h2 => Score_any [x0, x1, x2, x3] o (fun y hy => by
    simp only [List.mem_cons, List.not_mem_nil, or_false] at hy
    rcases hy with rfl | rfl | rfl | rfl <;> assumption) A (some ⟨w.heap.size, 3, none⟩) c 4 4 W rfl (by rw [← ho]; rfl) (by decide) h1 h2 hc (Nat.le_refl _)
  have hgn : sc [x0, x1, x2, x3] o = gn x0 x1 x2 x3 (ob (s + 64 * b) 0) (ob (s + 64 * b) 1) (ob (s + 64 * b) 2) (ob (s + 64 * b) 3) := by
    rw [← ho]
    simp only [sc, gn]
    omega
  have hrow : ∀ W : World, W.heap[w.heap.size]? = some (.cells E 69 (0, 0)) → (Kd.int .u8).C W (some ⟨w.heap.size, 3, none⟩) 4 (ints o) := fun W hW => by
    have h := C_cells (k := .u8) (W := W) (b := w.heap.size) (off := 3) (ints o) (by rw [ints_len, ← ho]; simp) (fun j p hj => by
      rw [blk_cell hW, ← hE]
      rw [← ho] at hj
      match j, hj with
      | 0, hj => exact congrArg (fun q => some (Value.int .u8 q)) (Option.some.inj hj)
      | 1, hj => exact congrArg (fun q => some (Value.int .u8 q)) (Option.some.inj hj)
      | 2, hj => exact congrArg (fun q => some (Value.int .u8 q)) (Option.some.inj hj)
      | 3, hj => exact congrArg (fun q => some (Value.int .u8 q)) (Option.some.inj hj)
      | j + 4, hj => simp [ints] at hj)
    rw [ints_len, ← ho] at h
    rw [← ho]
    exact h
  rw [hgn] at hsc
  have HC := Aside0.mk (And.intro hC (And.intro hsc hrow))
  rw [hE]
  clear hC hsc hgn hrow ho b0 b1 b2 b3
  go_enter Tryd.func68, Tryd.ntmps68
  go_wp2_with fail
  refine (HC.out.2.1 _ (Kd.C_alloc HC.out.1 _) (HC.out.2.2 _ (heap_alloc_new w _))).mono ?_
  rintro e w1 ⟨rfl, rfl⟩
  go_wp2_with fail
  go_ret
  exact ⟨rfl, below_alloc (Below.refl _ _) _⟩
end Go.Proofs.YtnejnnfjbhpigaaDoor.Vit
