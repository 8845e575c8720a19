/- The document's sum of 32 bits. Each theorem says its own conditions. -/
import Derived.Test.YtnejnnfjbhpigaaDoorCa
namespace Go.Proofs.YtnejnnfjbhpigaaDoor.Vit
open Go.RowKit Go.Proofs.YtnejnnfjbhpigaaDoorW.PrintWords Go.Proofs.YtnejnnfjbhpigaaDoorW.PrintLast Go.Proofs.YtnejnnfjbhpigaaDoorW.PrintMore Go.Proofs.YtnejnnfjbhpigaaDoor.Mem Go.Proofs.YtnejnnfjbhpigaaDoor.Crc
attribute [local go_sem] max2_int min2_int max_two min_two max_three min_three max_four min_four   -- for this text's walks alone
set_option linter.unusedVariables false
set_option linter.unusedSimpArgs false

def mapL (f : Nat → Nat) (N : Nat) : List Nat := (List.range N).map f
theorem mapL_len (f : Nat → Nat) (N : Nat) : (mapL f N).length = N := by simp [mapL]
theorem mapL_next (f : Nat → Nat) (N : Nat) : mapL f (N + 1) = mapL f N ++ [f N] := by unfold mapL; rw [List.range_succ, List.map_append]; rfl
theorem mapL_get (f : Nat → Nat) {N j : Nat} (h : j < N) : (mapL f N).getD j 0 = f j := by simp [mapL, List.getD_eq_getElem?_getD, h]
/-- A bit of a byte, as the walk reckons it. -/
theorem byte_bit {x k : Nat} (hx : x < 256) : Go.bits .and .u8 ((x : Int) / 2 ^ k) 1 = ((bit x k : Nat) : Int) := by
  have hlt : x / 2 ^ k < 2 ^ 8 := Nat.lt_of_le_of_lt (Nat.div_le_self _ _) hx
  have h := (bits_nat .u8 8 (by decide) wraps_u8 (x / 2 ^ k) 1 hlt (by decide)).1
  rw [Nat.and_one_is_mod] at h
  rw [show (x : Int) / 2 ^ k = ((x / 2 ^ k : Nat) : Int) by simp]
  exact h
theorem mapL_set (f g : Nat → Nat) {N i y : Nat} (hi : i < N) (hy : g i = y) (hg : ∀ j, j < N → j ≠ i → g j = f j) : (ints (mapL f N)).set i ((y : Nat) : Int) = ints (mapL g N) := by
  unfold ints mapL
  apply List.ext_getElem?
  intro j
  rw [List.getElem?_set]
  by_cases hj : j < N
  · by_cases hij : i = j
    · subst hij
      rw [if_pos rfl, if_pos (by simp; exact hi)]
      simp [hi, hy]
    · rw [if_neg hij]
      simp [hj, hg j hj (fun e => hij e.symm)]
  · rw [if_neg (by omega), List.getElem?_eq_none (by simp; omega), List.getElem?_eq_none (by simp; omega)]
theorem rdOf_map (f : Nat → Nat) {N y : Nat} (h : y < N) : rdOf (0 : Int) (ints (mapL f N)) (y : Int) = ((f y : Nat) : Int) := by
  simp [rdOf, ints, mapL, h]
/-- The bits, the first ones turned. -/
def flp (b : List Nat) (i j : Nat) : Nat := bitsL b j ^^^ (if j < i then 1 else 0)
theorem flp_zero (b : List Nat) : flp b 0 = bitsL b := by
  funext j
  unfold flp
  rw [if_neg (by omega), Nat.xor_zero]
theorem xor_u8 {a b : Nat} (ha : a < 256) (hb : b < 256) : Go.bits .xor .u8 (a : Int) (b : Int) = ((a ^^^ b : Nat) : Int) := bits_xor .u8 8 (by decide) wraps_u8 a b ha hb
theorem flp_bit (b : List Nat) (y : Nat) {M : Nat} (h : y < M) : ∃ v z : Nat, rdOf (0 : Int) (ints (mapL (flp b y) M)) (y : Int) = (v : Int) ∧ Go.bits .xor .u8 (v : Int) 1 = (z : Int) ∧ (ints (mapL (flp b y) M)).set y (z : Int) = ints (mapL (flp b (y + 1)) M) := by
  have hle := bitsL_le b y
  refine ⟨_, _, rdOf_map _ h, xor_u8 (b := 1) ?_ (by omega), mapL_set _ _ h ?_ ?_⟩
  · unfold flp
    rw [if_neg (by omega), Nat.xor_zero]
    omega
  · unfold flp
    rw [if_pos (by omega), if_neg (by omega), Nat.xor_zero]
  · intro j hj hne
    unfold flp
    by_cases h1 : j < y
    · rw [if_pos h1, if_pos (by omega)]
    · rw [if_neg h1, if_neg (by omega)]
def pcV : Array Value := #[.int .u8 1, .int .u8 0, .int .u8 0, .int .u8 0, .int .u8 0, .int .u8 0, .int .u8 1, .int .u8 0, .int .u8 0, .int .u8 1, .int .u8 1, .int .u8 0, .int .u8 0, .int .u8 0, .int .u8 0, .int .u8 0, .int .u8 1, .int .u8 0, .int .u8 0, .int .u8 0, .int .u8 1, .int .u8 1, .int .u8 1, .int .u8 0, .int .u8 1, .int .u8 1, .int .u8 0, .int .u8 1, .int .u8 1, .int .u8 0, .int .u8 1, .int .u8 1, .int .u8 1]
theorem pcV_one : pcV.all (·.oneCell') = true := by simp [pcV, Value.oneCell']
theorem info33 : (Tryd.prog.info? 139).map (·.size) = some 33 := by kernel_rfl
theorem pcV_get : ∀ k, k < 33 → pcV[k]? = some (.int .u8 ((Crc.pc.getD k 0 : Nat) : Int)) := by
  have h : pcV = (Crc.pc.map fun x : Nat => Value.int .u8 (x : Int)).toArray := by kernel_rfl
  intro k hk
  rw [h]
  simp only [List.getElem?_toArray, List.getElem?_map, List.getD_eq_getElem?_getD]
  rw [List.getElem?_eq_getElem (by rw [Crc.pc_len]; exact hk)]
  rfl
/-- The row of bits in the midst of the division. -/
def DV (w : World) (g M cp T : Nat) (P : Nat → Nat → Prop) (wr : World) : Prop :=
  ∃ L : List Nat, L.length = M ∧ (∀ j, j < M → P j (L.getD j 0)) ∧ (Kd.int .u8).R 5 wr w.heap.size (fun k => w.heap.size ≤ k) (.slice (some ⟨g, 0, none⟩) M cp) (ints L) ∧ wr.heap[T]? = some (.cells pcV 139 (0, 0)) ∧ w.heap.size ≤ g ∧ g ≠ T ∧ Below w.heap.size w wr
theorem DV.imp {w : World} {g M cp T : Nat} {P Q : Nat → Nat → Prop} {wr : World} (h : DV w g M cp T P wr) (hPQ : ∀ j v, j < M → P j v → Q j v) : DV w g M cp T Q wr := by
  obtain ⟨L, h1, h2, h3⟩ := h
  exact ⟨L, h1, fun j hj => hPQ j _ hj (h2 j hj), h3⟩
theorem DV.drew {w : World} {g M cp T : Nat} {P : Nat → Nat → Prop} {wr : World} (h : DV w g M cp T P wr) (n : Nat) : DV w g M cp T P (wr.drewN n) := by
  obtain ⟨L, h1, h2, h3, h4, h5, h6, h7⟩ := h
  exact ⟨L, h1, h2, Kd.R_drewN h3 n, h4, h5, h6, pw_below_drewN h7 n⟩
theorem DV.cell {w : World} {g M cp T : Nat} {P : Nat → Nat → Prop} {wr : World} (h : DV w g M cp T P wr) {q : Nat} (hq : q < M) : ∃ v : Nat, P q v ∧ wr.cell? ⟨g, q, none⟩ = some (.int .u8 (v : Int)) ∧ wr.frozen? ⟨g, q, none⟩ = false ∧
    ∀ (z : Nat) (Q : Nat → Nat → Prop), Q q z → (∀ j u, j < M → j ≠ q → P j u → Q j u) → DV w g M cp T Q (wr.setCell ⟨g, q, none⟩ (.int .u8 (z : Int))) := by
  obtain ⟨L, h1, h2, h3, h4, h5, h6, h7⟩ := h
  obtain ⟨c1, c2⟩ := Kd.R_celln (0 : Int) h3 (q : Int) (by omega) (by omega)
  rw [Int.toNat_natCast] at c1 c2
  have hv : rdOf (0 : Int) (ints L) (q : Int) = ((L.getD q 0 : Nat) : Int) := by
    simp [rdOf, ints, List.getD_eq_getElem?_getD, show q < L.length by omega]
  rw [hv] at c1
  refine ⟨_, h2 q hq, c1, c2, fun z Q hz hQ => ?_⟩
  have h8 := Kd.R_putn h3 (q : Int) (z : Int)
  rw [Int.toNat_natCast] at h8
  have hset : (ints L).set q (z : Int) = ints (L.set q z) := by unfold ints; rw [List.map_set]
  rw [hset] at h8
  refine ⟨L.set q z, by rw [List.length_set]; exact h1, fun j hj => ?_, h8, blk_far h4 (fun e => h6 e.symm) _, h5, h6, h7.setCell (p := ⟨g, q, none⟩) h5 _⟩
  rw [List.getD_eq_getElem?_getD, List.getElem?_set]
  by_cases hjq : q = j
  · subst hjq
    rw [if_pos rfl, if_pos (by omega)]
    exact hz
  · rw [if_neg hjq, ← List.getD_eq_getElem?_getD]
    exact hQ j _ hj (fun e => hjq e.symm) (h2 j hj)
theorem row_le (b : List Nat) (i j : Nat) : row (bitsL b) i j ≤ 1 := by
  unfold row
  have h1 := bitsL_le b j
  have h2 : (if j < i + 32 then bit (D (bitsL b) i) (j - i) else 0) ≤ 1 := by
    split
    · exact bit_le _ _
    · omega
  have := Nat.xor_lt_two_pow (n := 1) (x := bitsL b j) (y := if j < i + 32 then bit (D (bitsL b) i) (j - i) else 0) (by omega) (by omega)
  omega
theorem pc_le : ∀ k, k < 33 → Crc.pc.getD k 0 ≤ 1 := by
  have h : (List.range 33).all (fun k => decide (Crc.pc.getD k 0 ≤ 1)) = true := by decide +kernel
  intro k hk
  have := List.all_eq_true.1 h k (List.mem_range.2 hk)
  simpa using this
/-- What stands at a place, so many coefficients having been taken off. -/
def offs (b : List Nat) (i k j v : Nat) : Prop := i ≤ j → v = row (bitsL b) i j ^^^ (if j < i + k then Crc.pc.getD (j - i) 0 else 0)
set_option maxHeartbeats 3200000 in
set_option maxRecDepth 100000 in
theorem Sumr_any (b : List Nat) (hb : ∀ x ∈ b, x < 256) (A : Option Addr) (n c : Nat) (w : World) (hn : b.length = n) (hC : (Kd.int .u8).C w A n (ints b)) (hl : n ≤ 100000) :
    Calls Tryd.prog 63 #[.slice A n c] w fun e w' => e = .returned (.int .u32 (Crc.sum b : Nat)) ∧ Below w.heap.size w w' := by
  have HC := Aside0.mk (And.intro hC (And.intro hn hb))
  clear hC hn hb
  go_enter Tryd.func63, Tryd.ntmps63
  go_wp2
  go_loopw [3, 4, 5] (fun x3 x4 _ wr => ∃ i : Nat, x4 = .int .i64 i ∧ i ≤ n ∧ (Kd.int .u8).R 5 wr w.heap.size (fun k => w.heap.size ≤ k) x3 (ints (mapL (bitsL b) (8 * i))) ∧ Below w.heap.size w wr) (fun _ x4 _ _ => n - (intOf x4).toNat)
  case atStart => exact ⟨0, rfl, Nat.zero_le _, Kd.R_nil _ _ _ _ _, Below.refl _ _⟩
  case round =>
    obtain ⟨i, rfl, hi, hR, hB⟩ := hrel
    have HR := Aside0.mk (And.intro hR hB)
    clear hR
    by_cases hin : i < n
    · have hlt : (i : Int) < (n : Int) := by omega
      have hib : i < b.length := by have := HC.out.2.1; omega
      have hrd : rd (ints b) (i : Int) = ((b[i] : Nat) : Int) := by simp [rd, ints, List.getD_eq_getElem?_getD, List.getElem?_eq_getElem hib]
      have hx256 : b[i] < 256 := HC.out.2.2 _ (List.getElem_mem hib)
      have hbx : ∀ k, k < 8 → bitsL b (8 * i + k) = bit b[i] k := fun k hk => by
        unfold bitsL
        rw [if_pos (by omega), show (8 * i + k) / 8 = i by omega, show (8 * i + k) % 8 = k by omega, List.getD_eq_getElem?_getD, List.getElem?_eq_getElem hib]
        rfl
      obtain ⟨x, hx⟩ : ∃ x, b[i] = x := ⟨_, rfl⟩
      rw [hx] at hrd hx256 hbx
      have HX := Aside0.mk (And.intro hrd (And.intro hx256 hbx))
      clear hrd hx256 hbx hx hB
      go_wp2
      go_loopw [3, 5] (fun y3 y5 wq => ∃ k : Nat, y5 = .int .i64 k ∧ k ≤ 8 ∧ (Kd.int .u8).R 5 wq w.heap.size (fun k => w.heap.size ≤ k) y3 (ints (mapL (bitsL b) (8 * i + k))) ∧ Below w.heap.size w wq) (fun _ y5 _ => 8 - (intOf y5).toNat)
      case atStart => exact ⟨0, rfl, Nat.zero_le _, HR.out.1, HR.out.2⟩
      case round =>
        obtain ⟨k, rfl, hk, hR2, hB2⟩ := hrel
        have HR2 := Aside0.mk (And.intro hR2 hB2)
        clear hR2
        by_cases hk8 : k < 8
        · have hlt8 : (k : Int) < 8 := by omega
          obtain ⟨ad, hA, hcell⟩ := Kd.at_int (Kd.C_below HC.out.1 hB2) (i : Int) (by omega) hlt
          cases hA
          rw [HX.out.1, Int.toNat_natCast] at hcell
          have e2 := byte_bit (k := k) HX.out.2.1
          obtain ⟨y, hy⟩ : ∃ y, bit x k = y := ⟨_, rfl⟩
          have hnx := mapL_next (bitsL b) (8 * i + k)
          rw [HX.out.2.2 k hk8, hy] at hnx
          rw [hy] at e2
          have HN := Aside0.mk hnx
          have h0k : (0 : Int) ≤ (k : Int) := by omega
          clear hy hnx hB2
          go_wp2_with ((with_reducible refine gate_builtin (b := .append) (xs := #[.tmp 24, .tmp 32]) rfl ?_); at_builtin; refine Kd.R_append (Kd.int .u8) (w0 := w) w.heap.size rfl (.tmp 24) (.tmp 32) 22 5 (.int .u8 0) 1 rfl Tryd.underlying22 info5 rfl (by decide) (by omega) u3 (ints (mapL (bitsL b) (8 * i + k))) ((y : Int)) [.int .u8 (y : Int)] (fun k => w.heap.size ≤ k) (fun _ => False) rfl rfl ?aP (fun _ hk => hk.elim) ?aF ?aO ?aB ?aS ?aL ?_; (case aP => exact rfl); (case aB => exact HR2.out.2); (case aF => exact (fun k hk => Nat.le_trans (below_size HR2.out.2) hk)); (case aO => exact HR2.out.1); (case aS => exact below_size HR2.out.2); (case aL => rw [ints_len, mapL_len]; omega); intro v1 w7 ho hb7 hg hat; have HK := Aside0.mk (And.intro ho hb7); clear ho hb7 hg hat)
          refine ⟨⟨k + 1, by go_num, by omega, ?_, HK.out.2⟩, by simp only [intOf]; omega⟩
          rw [← Nat.add_assoc, HN.out, ints_append]
          exact HK.out.1
        · have hge8 : ¬ (k : Int) < 8 := by omega
          obtain rfl : k = 8 := by omega
          clear hB2
          go_wp2
          exact ⟨⟨i + 1, by go_num, by omega, HR2.out.1, HR2.out.2⟩, by simp only [intOf]; omega⟩
    · have hge : ¬ (i : Int) < (n : Int) := by omega
      obtain rfl : i = n := by omega
      clear hB
      go_wp2
      go_loopw [3, 6] (fun x3 x6 wr => ∃ z : Nat, x6 = .int .i64 z ∧ z ≤ 32 ∧ (Kd.int .u8).R 5 wr w.heap.size (fun k => w.heap.size ≤ k) x3 (ints (mapL (bitsL b) (8 * i + z))) ∧ Below w.heap.size w wr) (fun _ x6 _ => 32 - (intOf x6).toNat)
      case atStart => exact ⟨0, rfl, Nat.zero_le _, HR.out.1, HR.out.2⟩
      case round =>
        obtain ⟨z, rfl, hz, hR2, hB2⟩ := hrel
        have HR2 := Aside0.mk (And.intro hR2 hB2)
        clear hR2 hB2
        by_cases hz32 : z < 32
        · have hltz : (z : Int) < 32 := by omega
          have hnx := mapL_next (bitsL b) (8 * i + z)
          rw [show bitsL b (8 * i + z) = 0 by unfold bitsL; rw [if_neg (by have := HC.out.2.1; omega)]] at hnx
          have HN := Aside0.mk hnx
          clear hnx
          go_wp2_with ((with_reducible refine gate_builtin (b := .append) (xs := #[.tmp 38, .tmp 39]) rfl ?_); at_builtin; refine Kd.R_append (Kd.int .u8) (w0 := w) w.heap.size rfl (.tmp 38) (.tmp 39) 22 5 (.int .u8 0) 1 rfl Tryd.underlying22 info5 rfl (by decide) (by omega) u3 (ints (mapL (bitsL b) (8 * i + z))) (0) [.int .u8 0] (fun k => w.heap.size ≤ k) (fun _ => False) rfl rfl ?aP (fun _ hk => hk.elim) ?aF ?aO ?aB ?aS ?aL ?_; (case aP => exact rfl); (case aB => exact HR2.out.2); (case aF => exact (fun k hk => Nat.le_trans (below_size HR2.out.2) hk)); (case aO => exact HR2.out.1); (case aS => exact below_size HR2.out.2); (case aL => rw [ints_len, mapL_len]; omega); intro v1 w7 ho hb7 hg hat; have HK := Aside0.mk (And.intro ho hb7); clear ho hb7 hg hat)
          refine ⟨⟨z + 1, by go_num, by omega, ?_, HK.out.2⟩, by simp only [intOf]; omega⟩
          rw [← Nat.add_assoc, HN.out, ints_append]
          exact HK.out.1
        · have hgez : ¬ (z : Int) < 32 := by omega
          obtain rfl : z = 32 := by omega
          go_wp2
          obtain ⟨M, hM⟩ : ∃ M, 8 * i + 32 = M := ⟨_, rfl⟩
          have hR3 := HR2.out.1
          rw [hM] at hR3
          obtain ⟨g, cp, hv, hg1, hg2, _⟩ := Kd.R_form hR3 (by rw [ints_len, mapL_len]; omega)
          rw [ints_len, mapL_len] at hv
          subst hv
          have hM32 : (32 : Int) ≤ (M : Int) := by omega
          have HM := Aside0.mk (And.intro hM (And.intro hg1 (And.intro hg2 hR3)))
          clear hM hg1 hg2 hR3
          go_loopw [7] (fun x7 wr2 => ∃ y : Nat, x7 = .int .i64 y ∧ y ≤ 32 ∧ (Kd.int .u8).R 5 wr2 w.heap.size (fun k => w.heap.size ≤ k) (.slice (some ⟨g, 0, none⟩) M cp) (ints (mapL (flp b y) M)) ∧ Below w.heap.size w wr2) (fun x7 _ => 32 - (intOf x7).toNat)
          case atStart => exact ⟨0, rfl, Nat.zero_le _, by rw [flp_zero]; exact HM.out.2.2.2, HR2.out.2⟩
          case round =>
            obtain ⟨y, rfl, hy, hR4, hB4⟩ := hrel
            have HR4 := Aside0.mk (And.intro hR4 hB4)
            by_cases hy32 : y < 32
            · have hlty : (y : Int) < 32 := by omega
              have hltM : (y : Int) < (M : Int) := by omega
              obtain ⟨c1, c2⟩ := Kd.R_celln (0 : Int) hR4 (y : Int) (by omega) hltM
              obtain ⟨v, z, hv1, hv2, hv3⟩ := flp_bit b y (M := M) (by omega)
              rw [hv1] at c1
              rw [Int.toNat_natCast] at c1 c2
              have hput := (Kd.R_putn hR4 (y : Int) (z : Int))
              rw [Int.toNat_natCast, hv3] at hput
              have HP := Aside0.mk hput
              clear hput hv1 hv3 hR4 hB4
              go_wp2
              exact ⟨⟨y + 1, by go_num, by omega, HP.out, HR4.out.2.setCell (p := ⟨g, y, none⟩) HM.out.2.1 _⟩, by simp only [intOf]; omega⟩
            · have hgey : ¬ (y : Int) < 32 := by omega
              obtain rfl : y = 32 := by omega
              clear hR4 hB4
              go_upto_region 17 with fail
              obtain ⟨Z, hZ⟩ : ∃ Z : Array Value, #[.int .u8 0, .int .u8 0, .int .u8 0, .int .u8 0, .int .u8 0, .int .u8 0, .int .u8 0, .int .u8 0, .int .u8 0, .int .u8 0, .int .u8 0, .int .u8 0, .int .u8 0, .int .u8 0, .int .u8 0, .int .u8 0, .int .u8 0, .int .u8 0, .int .u8 0, .int .u8 0, .int .u8 0, .int .u8 0, .int .u8 0, .int .u8 0, .int .u8 0, .int .u8 0, .int .u8 0, .int .u8 0, .int .u8 0, .int .u8 0, .int .u8 0, .int .u8 0, .int .u8 0] = Z := ⟨_, rfl⟩
              have hZs : pcV.size = Z.size := by rw [← hZ]; rfl
              have HZ := Aside0.mk (And.intro hZ hZs)
              clear hZ hZs
              refine wp_region_lit ?_
              refine wpList_plain rfl (fun _ hK => ?_)
              go_simp
              refine hK _ _ ?_
              clear hK
              refine wpList_plain rfl (fun _ hK => ?_)
              go_simp
              refine hK _ _ ?_
              clear hK
              rw [HZ.out.1]
              refine wpList_store_mid rfl 139 _ _ rfl wr.heap.size 0 pcV rfl rfl (there_of_row (heap_alloc_new wr _) (by rw [HZ.out.2]; omega)) info33 pcV_one ?_
              refine wpList_nil ?_
              obtain ⟨W, hW⟩ : ∃ W, (World.setCells (wr.alloc (.cells Z 139)) wr.heap.size 0 pcV.toList) = W := ⟨_, rfl⟩
              change Exit.then _ _ .normal _ (World.setCells (wr.alloc (.cells Z 139)) wr.heap.size 0 pcV.toList)
              have h1 := whole_row (heap_alloc_new wr (.cells Z 139)) HZ.out.2
              have hBW : Below wr.heap.size wr W := by rw [← hW]; exact below_setCells (Nat.le_refl _) _ _ _ (below_alloc (Below.refl _ _) _)
              rw [hW] at h1 ⊢
              have HW := Aside0.mk (And.intro h1 hBW)
              clear hW h1 hBW
              obtain ⟨T, hT⟩ : ∃ T, wr.heap.size = T := ⟨_, rfl⟩
              rw [hT]
              have hD0 : DV w g M cp T (offs b 0 0) W := by
                refine ⟨mapL (flp b 32) M, mapL_len _ _, fun j hj hle => ?_, ?_, by rw [← hT]; exact HW.out.1, HM.out.2.1, ?_, ?_⟩
                · rw [mapL_get _ hj, row_first]
                  show _ = _ ^^^ (if j < 0 then _ else 0)
                  rw [if_neg (Nat.not_lt_zero j), Nat.xor_zero]
                  rfl
                · exact Kd.R_step HR4.out.1 (fun k hk hlt => HW.out.2.block k hlt)
                · have h1 := Kd.R_form HR4.out.1 (by rw [ints_len, mapL_len]; omega)
                  obtain ⟨g', cap', he, _, hlt, _⟩ := h1
                  injection he with he1 he2 he3
                  injection he1 with he1
                  injection he1 with he1
                  omega
                · exact HR4.out.2.trans (HW.out.2.mono HR4.out.2.size)
              have hMn : M = 8 * i + 32 := HM.out.1.symm
              have HD0 := Aside0.mk hD0
              have HMN := Aside0.mk hMn
              have hMb : (M : Int) ≤ 900000 := by omega
              clear hD0 hMn hT
              go_wp2
              go_loopw [9, 10] (fun x9 _ wr2 => ∃ y : Nat, x9 = .int .i64 y ∧ y ≤ 8 * i ∧ DV w g M cp T (offs b y 0) wr2) (fun x9 _ _ => 8 * i - (intOf x9).toNat)
              case atStart => exact ⟨0, rfl, Nat.zero_le _, HD0.out⟩
              case round =>
                obtain ⟨y, rfl, hy, hD⟩ := hrel
                have HD := Aside0.mk hD
                by_cases hyn : y < 8 * i
                · have hyM : y < M := by have := HMN.out; omega
                  have hltM : (y : Int) < (M : Int) := by omega
                  have hlt32 : (y : Int) + 32 < (M : Int) := by have := HMN.out; omega
                  obtain ⟨v, hv, hc, _, _⟩ := hD.cell hyM
                  have hv2 : v = row (bitsL b) y y := by rw [hv (Nat.le_refl _), if_neg (by omega), Nat.xor_zero]
                  have hvle := row_le b y y
                  by_cases hv0 : v = 0
                  · subst hv0
                    clear hD hv
                    have HV := Aside0.mk hv2
                    clear hv2 hvle
                    go_wp2
                    refine ⟨⟨y + 1, by go_num, by omega, HD.out.imp (fun j u hj hu hle => ?_)⟩, by simp only [intOf]; omega⟩
                    have := hu (by omega)
                    rw [this, if_neg (by omega), if_neg (by omega), Nat.xor_zero, Nat.xor_zero, row_next0 _ (bitsL_le b) _ _ (by omega) HV.out.symm]
                  · obtain rfl : v = 1 := by omega
                    have HV := Aside0.mk hv2
                    clear hD hv hv2 hvle hv0
                    go_wp2
                    go_loopw [10] (fun x10 wr3 => ∃ k : Nat, x10 = .int .i64 k ∧ k ≤ 33 ∧ DV w g M cp T (offs b y k) wr3) (fun x10 _ => 33 - (intOf x10).toNat)
                    case atStart => exact ⟨0, rfl, by omega, HD.out⟩
                    case round =>
                      obtain ⟨k, rfl, hk, hDk⟩ := hrel
                      have HDk := Aside0.mk hDk
                      by_cases hk33 : k < 33
                      · have hle32 : (k : Int) ≤ 32 := by omega
                        have hlt33 : (k : Int) < 33 := by omega
                        obtain ⟨q, hq⟩ : ∃ q, y + k = q := ⟨_, rfl⟩
                        have hqM : q < M := by have := HMN.out; omega
                        have hqM2 : (q : Int) < (M : Int) := by omega
                        obtain ⟨v, hv, hc2, hf2, hset⟩ := hDk.cell hqM
                        have hv2 : v = row (bitsL b) y q := by rw [hv (by omega), if_neg (by omega), Nat.xor_zero]
                        have hvle := row_le b y q
                        rw [← hv2] at hvle
                        obtain ⟨p, hp⟩ : ∃ p, Crc.pc.getD k 0 = p := ⟨_, rfl⟩
                        have hple := pc_le k hk33
                        rw [hp] at hple
                        have hcp : wr.cell? ⟨T, k, none⟩ = some (.int .u8 (p : Int)) := by
                          obtain ⟨L, _, _, _, h4, _⟩ := hDk
                          rw [blk_cell h4, pcV_get k hk33, hp]
                        obtain ⟨z, hz⟩ : ∃ z, v ^^^ p = z := ⟨_, rfl⟩
                        have hx : Go.bits .xor .u8 (v : Int) (p : Int) = (z : Int) := by rw [← hz]; exact xor_u8 (by omega) (by omega)
                        have hnx := hset z (offs b y (k + 1)) (fun _ => by rw [← hz, hv2, if_pos (by omega), show q - y = k by omega, hp]) (fun j u hj hne hu hle => by
                          rw [hu hle]
                          congr 1
                          by_cases h1 : j < y + k
                          · rw [if_pos h1, if_pos (by omega)]
                          · rw [if_neg h1, if_neg (by omega)])
                        have hs1 : IntKind.i64.wrap ((y : Int) + (k : Int)) = (q : Int) := by rw [IntWalk.i64_in _ (by omega)]; omega
                        have hs2 : wrap64 ((y : Int) + (k : Int)) = (q : Int) := by rw [w64_in _ (by omega) (by omega)]; omega
                        have HN := Aside0.mk hnx
                        clear hDk hset hv hv2 hvle hp hple hz hnx hq
                        go_wp2_with fail
                        go_region_law (fail)
                        go_wp2
                        all_goals exact ⟨⟨k + 1, by congr 1, hk33, HN.out.drew 1⟩, by simp only [intOf]; clear hs1 hs2; omega⟩
                      · have hgt32 : ¬ (k : Int) ≤ 32 := by omega
                        obtain rfl : k = 33 := by omega
                        clear hDk
                        go_wp2
                        refine ⟨⟨y + 1, by go_num, by omega, HDk.out.imp (fun j u hj hu hle => ?_)⟩, by simp only [intOf]; omega⟩
                        have := hu (by omega)
                        rw [this, if_neg (show ¬ j < y + 1 + 0 by omega), Nat.xor_zero, row_next1 _ (bitsL_le b) _ _ (by omega) HV.out.symm]
                        congr 1
                        by_cases h1 : j < y + 33
                        · rw [if_pos h1, if_pos (by omega)]
                        · rw [if_neg h1, if_neg (by omega)]
                · have hgn : ¬ (y : Int) + 32 < (M : Int) := by have := HMN.out; omega
                  have hyn2 : y = 8 * i := by omega
                  have hms : (M : Int) - 32 = (y : Int) := by have := HMN.out; omega
                  have hMy : M - y = 32 := by have := HMN.out; omega
                  have hcp : ¬ cp = y := by have := (Kd.R_reads' HM.out.2.2.2).2.1; have := HMN.out; omega
                  have hbd : y + 32 = M := by have := HMN.out; omega
                  have HY := Aside0.mk (And.intro hyn2 hbd)
                  have hb2 : y ≤ 900000 := by omega
                  clear hD hyn2 hbd hy hyn
                  go_wp2
                  go_loopw [12, 13] (fun x12 x13 wr3 => ∃ k : Nat, x13 = .int .i64 k ∧ k ≤ 32 ∧ x12 = .int .u32 ((low (reg b) k : Nat) : Int) ∧ wr3 = wr) (fun _ x13 _ => 32 - (intOf x13).toNat)
                  case atStart => exact ⟨0, rfl, by omega, by unfold low; rw [Nat.pow_zero, Nat.mod_one]; rfl, rfl⟩
                  case round =>
                    obtain ⟨k, rfl, hk, rfl, rfl⟩ := hrel
                    by_cases hk32 : k < 32
                    · have hltk : (k : Int) < 32 := by omega
                      obtain ⟨v, hv, hc, _, _⟩ := HD.out.cell (q := y + k) (by have := HY.out.2; omega)
                      have hv2 : v = bit (reg b) k := by
                        rw [hv (by omega), if_neg (by omega), Nat.xor_zero, HY.out.1, ← HC.out.2.1]
                        exact row_last b HC.out.2.2 k hk32
                      have hR := reg_lt b HC.out.2.2
                      have hnx := low_or (reg b) k
                      have hl1 : low (reg b) k < 4294967296 := Nat.lt_of_le_of_lt (Nat.mod_le _ _) hR
                      rw [← hv2] at hnx
                      obtain ⟨l0, hl0⟩ : ∃ l0, low (reg b) k = l0 := ⟨_, rfl⟩
                      obtain ⟨z, hz⟩ : ∃ z, v * 2 ^ k = z := ⟨_, rfl⟩
                      have hz1 : z < 4294967296 := by
                        have h1 : v ≤ 1 := by rw [hv2]; exact bit_le _ _
                        have h2 : 2 ^ k ≤ 2 ^ 31 := Nat.pow_le_pow_right (by omega) (by omega)
                        have h3 : v * 2 ^ k ≤ 1 * 2 ^ k := Nat.mul_le_mul_right _ h1
                        rw [hz] at h3
                        omega
                      have hsh : IntKind.u32.wrap ((v : Int) * 2 ^ k) = (z : Int) := by
                        rw [show (v : Int) * 2 ^ k = ((v * 2 ^ k : Nat) : Int) by simp, hz]
                        exact wraps_u32 _ (by omega) (by omega)
                      have hv8 : v ≤ 1 := by rw [hv2]; exact bit_le _ _
                      have hw : IntKind.u32.wrap (v : Int) = (v : Int) := wraps_u32 _ (by omega) (by omega)
                      rw [hl0, hz] at hnx
                      rw [hl0] at hl1 ⊢
                      have hor := or_u32 hl1 hz1
                      rw [← hnx] at hor
                      obtain ⟨l1, hl11⟩ : ∃ l1, low (reg b) (k + 1) = l1 := ⟨_, rfl⟩
                      rw [hl11] at hor
                      have HL := Aside0.mk hl11
                      clear hl11 hnx hl0 hl1 hz hz1 hR hv2 hv hv8
                      go_wp2
                      exact ⟨⟨k + 1, by go_num, by omega, by rw [HL.out], trivial⟩, by simp only [intOf]; omega⟩
                    · have hgek : ¬ (k : Int) < 32 := by omega
                      obtain rfl : k = 32 := by omega
                      have hR := reg_lt b HC.out.2.2
                      rw [low_all hR]
                      have hnot := not_u32 hR
                      have hf : reg b ^^^ 4294967295 = Crc.sum b := rfl
                      rw [hf] at hnot
                      obtain ⟨S, hS⟩ : ∃ S, Crc.sum b = S := ⟨_, rfl⟩
                      rw [hS] at hnot
                      have HS := Aside0.mk hS
                      clear hS hf hR
                      go_wp2
                      go_ret
                      obtain ⟨L, _, _, _, _, _, _, hBf⟩ := HD.out
                      exact ⟨by rw [HS.out]; rfl, hBf⟩
end Go.Proofs.YtnejnnfjbhpigaaDoor.Vit
