/- Bytes as bits and back (bits.Of; the document's Of and Bytes): each theorem says its own conditions. -/
import Derived.Test.YtnejnnfjbhpigaaDoorCg
namespace Go.Proofs.YtnejnnfjbhpigaaDoor.Vit
open Go.RowKit Go.Proofs.YtnejnnfjbhpigaaDoorW.PrintWords Go.Proofs.YtnejnnfjbhpigaaDoorW.PrintLast Go.Proofs.YtnejnnfjbhpigaaDoorW.PrintMore Go.Proofs.YtnejnnfjbhpigaaDoor.Mem Go.Proofs.YtnejnnfjbhpigaaDoor.Crc
attribute [local go_sem] max2_int min2_int max_two min_two max_three min_three max_four min_four   -- for this text's walks alone
set_option linter.unusedVariables false
set_option linter.unusedSimpArgs false

open Go.Proofs.YtnejnnfjbhpigaaDoor.Chk
/-- The bits of bytes, the highest first. -/
def ofb (b : List Nat) (j : Nat) : Nat := bit (b.getD (j / 8) 0) (7 - j % 8)
def ofB (b : List Nat) : List Nat := mapL (ofb b) (8 * b.length)
theorem ofB_len (b : List Nat) : (ofB b).length = 8 * b.length := mapL_len _ _
theorem ofb_le (b : List Nat) (j : Nat) : ofb b j ≤ 1 := bit_le _ _
theorem mapL_bits {f : Nat → Nat} (hf : ∀ j, f j ≤ 1) (N : Nat) : Bits (mapL f N) := fun x hx => by
  obtain ⟨j, _, rfl⟩ := List.mem_map.1 hx
  exact hf j
theorem ofB_bits (b : List Nat) : Bits (ofB b) := mapL_bits (ofb_le b) _
theorem ofb_at {b : List Nat} {i : Nat} (hi : i < b.length) {k : Nat} (hk : k < 8) : ofb b (8 * i + k) = bit b[i] (7 - k) := by
  unfold ofb
  rw [show (8 * i + k) / 8 = i by omega, show (8 * i + k) % 8 = k by omega, List.getD_eq_getElem?_getD, List.getElem?_eq_getElem hi]
  rfl
theorem rd_ints {b : List Nat} {i : Nat} (hi : i < b.length) : rd (ints b) (i : Int) = ((b[i] : Nat) : Int) := by simp [rd, ints, List.getD_eq_getElem?_getD, List.getElem?_eq_getElem hi]
set_option maxHeartbeats 3200000 in
set_option maxRecDepth 100000 in
theorem BOf_any (b : List Nat) (hb : ∀ x ∈ b, x < 256) (A : Option Addr) (n c : Nat) (w : World) (hn : b.length = n) (hC : (Kd.int .u8).C w A n (ints b)) (hl : n ≤ 100000) :
    Calls Tryd.prog 44 #[.slice A n c] w fun e w' => ∃ u, e = .returned u ∧ (Kd.int .u8).R 5 w' w.heap.size (fun k => w.heap.size ≤ k) u (ints (ofB b)) ∧ Below w.heap.size w w' := by
  have HC := Aside0.mk (And.intro hC (And.intro hn hb))
  clear hC hn hb
  go_enter Tryd.func44, Tryd.ntmps44
  go_wp2
  go_loopw [3, 9] (fun x3 x9 wr => ∃ i : Nat, x9 = .int .i64 i ∧ i ≤ n ∧ (Kd.int .u8).R 5 wr w.heap.size (fun k => w.heap.size ≤ k) x3 (ints (mapL (ofb b) (8 * i))) ∧ Below w.heap.size w wr) (fun _ x9 _ => n - (intOf x9).toNat)
  case atStart => exact ⟨0, rfl, Nat.zero_le _, Kd.R_nil _ _ _ _ _, Below.refl _ _⟩
  case round =>
    obtain ⟨i, rfl, hi, hR, hB⟩ := hrel
    have HR := Aside0.mk (And.intro hR hB)
    clear hR
    by_cases hin : i < n
    · have hlt : (i : Int) < (n : Int) := by omega
      have hib : i < b.length := by have := HC.out.2.1; omega
      obtain ⟨ad, hA, hcell⟩ := Kd.at_int (Kd.C_below HC.out.1 hB) (i : Int) (by omega) hlt
      cases hA
      have hrd := rd_ints hib
      have hx256 : b[i] < 256 := HC.out.2.2 _ (List.getElem_mem hib)
      have hbx : ∀ k, k < 8 → ofb b (8 * i + k) = bit b[i] (7 - k) := fun k hk => ofb_at hib hk
      obtain ⟨x, hx⟩ : ∃ x, b[i] = x := ⟨_, rfl⟩
      rw [hx] at hrd hx256 hbx
      rw [hrd, Int.toNat_natCast] at hcell
      have HX := Aside0.mk (And.intro hx256 hbx)
      clear hrd hx256 hbx hx hB
      go_wp2
      go_loopw [3, 13] (fun y3 y13 wq => ∃ k : Nat, y13 = .int .i64 k ∧ k ≤ 8 ∧ (Kd.int .u8).R 5 wq w.heap.size (fun k => w.heap.size ≤ k) y3 (ints (mapL (ofb b) (8 * i + k))) ∧ Below w.heap.size w wq) (fun _ y13 _ => 8 - (intOf y13).toNat)
      case atStart => exact ⟨0, rfl, Nat.zero_le _, HR.out.1, HR.out.2⟩
      case round =>
        obtain ⟨k, rfl, hk, hR2, hB2⟩ := hrel
        have HR2 := Aside0.mk (And.intro hR2 hB2)
        clear hR2 hB2
        by_cases hk8 : k < 8
        · have hlt8 : (k : Int) < 8 := by omega
          have e2 := byte_bit (k := 7 - k) HX.out.1
          obtain ⟨y, hy⟩ : ∃ y, bit x (7 - k) = y := ⟨_, rfl⟩
          have hnx := mapL_next (ofb b) (8 * i + k)
          rw [HX.out.2 k hk8, hy] at hnx
          rw [hy] at e2
          have HN := Aside0.mk hnx
          have h7 : (k : Int) ≤ 7 := by omega
          have h7b : 0 ≤ 7 - (k : Int) := by omega
          have h7c : (7 - (k : Int)).toNat = 7 - k := by omega
          clear hy hnx
          go_wp2_with ((with_reducible refine gate_builtin (b := .append) (xs := #[.tmp 16, .tmp 22]) rfl ?_); at_builtin; refine Kd.R_append (Kd.int .u8) (w0 := w) w.heap.size rfl (.tmp 16) (.tmp 22) 22 5 (.int .u8 0) 1 rfl Tryd.underlying22 info5 rfl (by decide) (by omega) u3 (ints (mapL (ofb b) (8 * i + k))) ((y : Int)) [.int .u8 y] (fun k => w.heap.size ≤ k) (fun _ => False) rfl rfl ?aP (fun _ hk => hk.elim) ?aF ?aO ?aB ?aS ?aL ?_; (case aP => exact rfl); (case aB => exact HR2.out.2); (case aF => exact (fun k hk => Nat.le_trans (below_size HR2.out.2) hk)); (case aO => exact HR2.out.1); (case aS => exact below_size HR2.out.2); (case aL => rw [ints_len, mapL_len]; omega); intro v1 w7 ho hb7 hg hat; have HK := Aside0.mk (And.intro ho hb7); clear ho hb7 hg hat)
          refine ⟨⟨k + 1, by go_num, by omega, ?_, HK.out.2⟩, by simp only [intOf]; omega⟩
          rw [← Nat.add_assoc, HN.out, ints_append]
          exact HK.out.1
        · have hge8 : ¬ (k : Int) < 8 := by omega
          obtain rfl : k = 8 := by omega
          go_wp2
          exact ⟨⟨i + 1, by go_num, by omega, HR2.out.1, HR2.out.2⟩, by simp only [intOf]; omega⟩
    · have hge : ¬ (i : Int) < (n : Int) := by omega
      obtain rfl : i = n := by omega
      clear hB
      go_wp2
      go_ret
      refine ⟨_, rfl, ?_, HR.out.2⟩
      unfold ofB
      rw [HC.out.2.1]
      exact HR.out.1
theorem quo_bit {x : Nat} (hx : x < 256) : ∀ k, k < 8 → ∀ d : Nat, 2 ^ (7 - k) = d → ((x : Int).tdiv (d : Int)).tmod 2 = ((bit x (7 - k) : Nat) : Int) := by
  intro k hk d hd
  rw [Int.tdiv_eq_ediv_of_nonneg (by omega), Int.tmod_eq_emod_of_nonneg (Int.ediv_nonneg (by omega) (by omega)), ← hd]
  unfold bit
  simp
theorem halves : ∀ k, k < 8 → 2 ^ (7 - k) / 2 = if k = 7 then 0 else 2 ^ (7 - (k + 1)) := by
  have h : (List.range 8).all (fun k => 2 ^ (7 - k) / 2 == if k = 7 then 0 else 2 ^ (7 - (k + 1))) = true := by decide +kernel
  intro k hk
  have := List.all_eq_true.1 h k (List.mem_range.2 hk)
  simpa using this
/-- The divisor behind so many rounds. -/
def dvr (k : Nat) : Nat := if k < 8 then 2 ^ (7 - k) else 0
theorem dvr_le (k : Nat) : dvr k ≤ 128 := by
  unfold dvr
  split
  · have : 2 ^ (7 - k) ≤ 2 ^ 7 := Nat.pow_le_pow_right (by omega) (by omega)
    omega
  · omega
theorem dvr_half {k : Nat} (hk : k < 8) : dvr k / 2 = dvr (k + 1) := by
  unfold dvr
  rw [if_pos hk, halves k hk]
  by_cases h : k = 7
  · rw [if_pos h, if_neg (by omega)]
  · rw [if_neg h, if_pos (by omega)]
theorem dvr_pos {k : Nat} (hk : k < 8) : 0 < dvr k := by unfold dvr; rw [if_pos hk]; exact Nat.two_pow_pos _
set_option maxHeartbeats 3200000 in
set_option maxRecDepth 100000 in
theorem ROf_any (b : List Nat) (hb : ∀ x ∈ b, x < 256) (A : Option Addr) (n c : Nat) (w : World) (hn : b.length = n) (hC : (Kd.int .u8).C w A n (ints b)) (hl : n ≤ 100000) :
    Calls Tryd.prog 32 #[.slice A n c] w fun e w' => ∃ u, e = .returned u ∧ (Kd.int .u8).R 5 w' w.heap.size (fun k => w.heap.size ≤ k) u (ints (ofB b)) ∧ Below w.heap.size w w' := by
  have HC := Aside0.mk (And.intro hC (And.intro hn hb))
  clear hC hn hb
  go_enter Tryd.func32, Tryd.ntmps32
  go_wp2
  go_loopw [3, 4] (fun x3 x4 wr => ∃ i : Nat, x4 = .int .i64 i ∧ i ≤ n ∧ (Kd.int .u8).R 5 wr w.heap.size (fun k => w.heap.size ≤ k) x3 (ints (mapL (ofb b) (8 * i))) ∧ Below w.heap.size w wr) (fun _ x4 _ => n - (intOf x4).toNat)
  case atStart => exact ⟨0, rfl, Nat.zero_le _, Kd.R_nil _ _ _ _ _, Below.refl _ _⟩
  case round =>
    obtain ⟨i, rfl, hi, hR, hB⟩ := hrel
    have HR := Aside0.mk (And.intro hR hB)
    clear hR
    by_cases hin : i < n
    · have hlt : (i : Int) < (n : Int) := by omega
      have hib : i < b.length := by have := HC.out.2.1; omega
      obtain ⟨ad, hA, hcell⟩ := Kd.at_int (Kd.C_below HC.out.1 hB) (i : Int) (by omega) hlt
      cases hA
      have hrd := rd_ints hib
      have hx256 : b[i] < 256 := HC.out.2.2 _ (List.getElem_mem hib)
      have hbx : ∀ k, k < 8 → ofb b (8 * i + k) = bit b[i] (7 - k) := fun k hk => ofb_at hib hk
      obtain ⟨x, hx⟩ : ∃ x, b[i] = x := ⟨_, rfl⟩
      rw [hx] at hrd hx256 hbx
      rw [hrd, Int.toNat_natCast] at hcell
      have hxi : (x : Int) < 256 := by omega
      have HX := Aside0.mk (And.intro hx256 hbx)
      clear hrd hx256 hbx hx hB
      go_wp2
      go_loopw [3, 6] (fun y3 y6 wq => ∃ k : Nat, y6 = .int .i64 (dvr k : Nat) ∧ k ≤ 8 ∧ (Kd.int .u8).R 5 wq w.heap.size (fun k => w.heap.size ≤ k) y3 (ints (mapL (ofb b) (8 * i + k))) ∧ Below w.heap.size w wq) (fun _ y6 _ => (intOf y6).toNat)
      case atStart => exact ⟨0, rfl, Nat.zero_le _, HR.out.1, HR.out.2⟩
      case round =>
        obtain ⟨k, rfl, hk, hR2, hB2⟩ := hrel
        have HR2 := Aside0.mk (And.intro hR2 hB2)
        clear hR2 hB2
        by_cases hk8 : k < 8
        · obtain ⟨d, hd⟩ : ∃ d, dvr k = d := ⟨_, rfl⟩
          have hdp := dvr_pos hk8
          have hdl := dvr_le k
          have hdh := dvr_half hk8
          have hdq : 2 ^ (7 - k) = d := by rw [← hd]; unfold dvr; rw [if_pos hk8]
          rw [hd] at hdp hdl hdh ⊢
          have hpos : (0 : Int) < (d : Int) := by omega
          obtain ⟨d2, hd2⟩ : ∃ d2, dvr (k + 1) = d2 := ⟨_, rfl⟩
          rw [hd2] at hdh
          have hh : (d : Int).tdiv 2 = (d2 : Int) := by rw [Int.tdiv_eq_ediv_of_nonneg (by omega)]; omega
          have hh2 : (d : Int) / 2 = (d2 : Int) := by omega
          have e2 := quo_bit HX.out.1 k hk8 d hdq
          obtain ⟨y, hy⟩ : ∃ y, bit x (7 - k) = y := ⟨_, rfl⟩
          have hyle : y ≤ 1 := by rw [← hy]; exact bit_le _ _
          have hnx := mapL_next (ofb b) (8 * i + k)
          rw [HX.out.2 k hk8, hy] at hnx
          rw [hy] at e2
          have hw8 : IntKind.u8.wrap (y : Int) = (y : Int) := wraps_u8 _ (by omega) (by omega)
          obtain ⟨q, hq⟩ : ∃ q : Nat, (x : Int).tdiv (d : Int) = (q : Int) := ⟨((x : Int).tdiv (d : Int)).toNat, by rw [Int.toNat_of_nonneg (Int.tdiv_nonneg (by omega) (by omega))]⟩
          have hq256 : q ≤ x := by
            rw [Int.tdiv_eq_ediv_of_nonneg (by omega)] at hq
            have : (x : Int) / (d : Int) ≤ (x : Int) := Int.ediv_le_self _ (by omega)
            omega
          have hqi : (q : Int) < 256 := by omega
          rw [hq] at e2
          have HN := Aside0.mk (And.intro hnx (And.intro hd2 hdp))
          have hdl2 : d2 < d := by omega
          clear hy hnx hdh hd hd2 hdq hyle hq256
          have hne : ¬ (d : Int) = 0 := by omega
          have hdi : (d : Int) ≤ 128 := by omega
          clear hdl
          go_wp2_with ((with_reducible refine gate_builtin (b := .append) (xs := #[.tmp 22, .tmp 28]) rfl ?_); at_builtin; refine Kd.R_append (Kd.int .u8) (w0 := w) w.heap.size rfl (.tmp 22) (.tmp 28) 22 5 (.int .u8 0) 1 rfl Tryd.underlying22 info5 rfl (by decide) (by omega) u3 (ints (mapL (ofb b) (8 * i + k))) ((y : Int)) [.int .u8 y] (fun k => w.heap.size ≤ k) (fun _ => False) rfl rfl ?aP (fun _ hk => hk.elim) ?aF ?aO ?aB ?aS ?aL ?_; (case aP => exact rfl); (case aB => exact HR2.out.2); (case aF => exact (fun k hk => Nat.le_trans (below_size HR2.out.2) hk)); (case aO => exact HR2.out.1); (case aS => exact below_size HR2.out.2); (case aL => rw [ints_len, mapL_len]; omega); intro v1 w7 ho hb7 hg hat; have HK := Aside0.mk (And.intro ho hb7); clear ho hb7 hg hat)
          refine ⟨⟨k + 1, by rw [HN.out.2.1], by omega, ?_, HK.out.2⟩, by simp only [intOf]; clear e2 hh hh2 hq hw8; omega⟩
          rw [← Nat.add_assoc, HN.out.1, ints_append]
          exact HK.out.1
        · obtain rfl : k = 8 := by omega
          have h0 : dvr 8 = 0 := rfl
          rw [h0]
          clear h0
          go_wp2
          exact ⟨⟨i + 1, by go_num, by omega, HR2.out.1, HR2.out.2⟩, by simp only [intOf]; omega⟩
    · have hge : ¬ (i : Int) < (n : Int) := by omega
      obtain rfl : i = n := by omega
      clear hB
      go_wp2
      go_ret
      refine ⟨_, rfl, ?_, HR.out.2⟩
      unfold ofB
      rw [HC.out.2.1]
      exact HR.out.1
end Go.Proofs.YtnejnnfjbhpigaaDoor.Vit

namespace Go.Proofs.YtnejnnfjbhpigaaDoor.Vit
open Go.RowKit Go.Proofs.YtnejnnfjbhpigaaDoorW.PrintWords Go.Proofs.YtnejnnfjbhpigaaDoorW.PrintLast Go.Proofs.YtnejnnfjbhpigaaDoorW.PrintMore Go.Proofs.YtnejnnfjbhpigaaDoor.Mem Go.Proofs.YtnejnnfjbhpigaaDoor.Crc
attribute [local go_sem] max2_int min2_int max_two min_two max_three min_three max_four min_four   -- for this text's walks alone
set_option linter.unusedVariables false
set_option linter.unusedSimpArgs false

open Go.Proofs.YtnejnnfjbhpigaaDoor.Chk
def rby (l : List Nat) (j : Nat) : Nat → Nat
  | 0 => 0
  | k + 1 => 2 * rby l j k + l.getD (8 * j + k) 0
theorem rby_all (l : List Nat) (j : Nat) : rby l j 8 = pby l j 8 := by
  simp only [rby, pby]
  omega
theorem rby_lt {l : List Nat} (hb : Bits l) (j : Nat) : ∀ k, k ≤ 8 → rby l j k < 2 ^ k
  | 0, _ => by simp [rby]
  | k + 1, h => by
    have h1 := rby_lt hb j k (by omega)
    have h2 := getD_bit hb (8 * j + k)
    show 2 * rby l j k + l.getD (8 * j + k) 0 < 2 ^ (k + 1)
    rw [Nat.pow_succ]
    omega
theorem rby_256 {l : List Nat} (hb : Bits l) (j : Nat) {k : Nat} (hk : k ≤ 8) : rby l j k < 256 := by
  have h1 := rby_lt hb j k hk
  have h2 : 2 ^ k ≤ 2 ^ 8 := Nat.pow_le_pow_right (by omega) hk
  omega
def byL (l : List Nat) (n : Nat) : List Nat := (List.range n).map fun j => pby l j 8
theorem byL_len (l : List Nat) (n : Nat) : (byL l n).length = n := by simp [byL]
theorem byL_next (l : List Nat) (n : Nat) : byL l (n + 1) = byL l n ++ [pby l n 8] := by unfold byL; rw [List.range_succ, List.map_append]; rfl
set_option maxHeartbeats 3200000 in
set_option maxRecDepth 100000 in
theorem RBytes_any (l : List Nat) (hb : Bits l) (A : Option Addr) (n c : Nat) (w : World) (hn : l.length = n) (hC : (Kd.int .u8).C w A n (ints l)) (hl : n ≤ 100000) :
    Calls Tryd.prog 42 #[.slice A n c] w fun e w' => ∃ u, e = .returned u ∧ (Kd.int .u8).R 5 w' w.heap.size (fun k => w.heap.size ≤ k) u (ints (bytesB l)) ∧ Below w.heap.size w w' := by
  have HC := Aside0.mk (And.intro hC (And.intro hn hb))
  clear hC hn hb
  go_enter Tryd.func42, Tryd.ntmps42
  go_wp2
  go_loopw [3, 4] (fun x3 x4 wr => ∃ j : Nat, x4 = .int .i64 (8 * j : Nat) ∧ j ≤ (n + 7) / 8 ∧ (Kd.int .u8).R 5 wr w.heap.size (fun k => w.heap.size ≤ k) x3 (ints (byL l j)) ∧ Below w.heap.size w wr) (fun _ x4 _ => n + 8 - (intOf x4).toNat)
  case atStart => exact ⟨0, rfl, Nat.zero_le _, Kd.R_nil _ _ _ _ _, Below.refl _ _⟩
  case round =>
    obtain ⟨j, rfl, hj, hR, hB⟩ := hrel
    have HR := Aside0.mk (And.intro hR hB)
    clear hR
    obtain ⟨i, hi⟩ : ∃ i, 8 * j = i := ⟨_, rfl⟩
    rw [hi]
    by_cases hin : i < n
    · have hlt : (i : Int) < (n : Int) := by omega
      have hib : (i : Int) ≤ 100000 := by omega
      go_wp2
      go_loopw [5, 6] (fun y5 y6 wq => ∃ k : Nat, y6 = .int .i64 k ∧ k ≤ 8 ∧ y5 = .int .i64 (rby l j k : Nat) ∧ wq = wr) (fun _ y6 _ => 8 - (intOf y6).toNat)
      case atStart => exact ⟨0, rfl, Nat.zero_le _, rfl, rfl⟩
      case round =>
        obtain ⟨k, rfl, hk, rfl, rfl⟩ := hrel
        by_cases hk8 : k < 8
        · have hlt8 : (k : Int) < 8 := by omega
          have hr256 := rby_256 HC.out.2.2 j (Nat.le_of_lt hk8)
          obtain ⟨r, hr⟩ : ∃ r, rby l j k = r := ⟨_, rfl⟩
          rw [hr] at hr256 ⊢
          have hrb : (r : Int) < 256 := by omega
          by_cases hik : i + k < n
          · have hlt2 : (i : Int) + (k : Int) < (n : Int) := by omega
            obtain ⟨ad, hA, hcell⟩ := Kd.at_int (Kd.C_below HC.out.1 hB) ((i + k : Nat) : Int) (by omega) (by omega)
            cases hA
            obtain ⟨g, hg⟩ : ∃ g, l.getD (8 * j + k) 0 = g := ⟨_, rfl⟩
            have hrd : rd (ints l) ((i + k : Nat) : Int) = (g : Int) := by rw [← hg, hi]; unfold rd; rw [Int.toNat_natCast]; exact ints_getD l _
            have hgle : g ≤ 1 := by rw [← hg]; exact getD_bit HC.out.2.2 _
            rw [hrd, Int.toNat_natCast] at hcell
            obtain ⟨q, hq⟩ : ∃ q, i + k = q := ⟨_, rfl⟩
            have hsum : (i : Int) + (k : Int) = (q : Int) := by omega
            rw [hq] at hcell
            have hqn : (q : Int) < (n : Int) := by omega
            have hgi : (g : Int) ≤ 1 := by omega
            have hnx : rby l j (k + 1) = 2 * r + g := by rw [← hr, ← hg]; rfl
            have HN := Aside0.mk hnx
            have hdec : decide (q < n) = true := by simp; omega
            clear hrd hg hnx hr hq hik hi hin
            go_wp2
            exact ⟨⟨k + 1, by go_num, by omega, by rw [HN.out]; go_num, trivial⟩, by simp only [intOf]; omega⟩
          · have hlt2 : ¬ (i : Int) + (k : Int) < (n : Int) := by omega
            have hg0 : l.getD (8 * j + k) 0 = 0 := by rw [List.getD_eq_getElem?_getD, List.getElem?_eq_none (by have := HC.out.2.1; omega)]; rfl
            have hnx : rby l j (k + 1) = 2 * r := by show 2 * rby l j k + l.getD (8 * j + k) 0 = _; rw [hg0, hr]; omega
            have HN := Aside0.mk hnx
            clear hg0 hnx hr hik hi hin
            go_wp2
            exact ⟨⟨k + 1, by go_num, by omega, by rw [HN.out]; go_num, trivial⟩, by simp only [intOf]; omega⟩
        · have hge8 : ¬ (k : Int) < 8 := by omega
          obtain rfl : k = 8 := by omega
          have hr256 := rby_256 HC.out.2.2 j (Nat.le_refl 8)
          have hnx := byL_next l j
          rw [← rby_all] at hnx
          obtain ⟨r, hr⟩ : ∃ r, rby l j 8 = r := ⟨_, rfl⟩
          rw [hr] at hr256 hnx ⊢
          have hw8 : IntKind.u8.wrap (r : Int) = (r : Int) := wraps_u8 _ (by omega) (by omega)
          have hrb : (r : Int) < 256 := by omega
          have HN := Aside0.mk (And.intro hnx hi)
          clear hnx hr hB
          clear hi
          go_wp2_with ((with_reducible refine gate_builtin (b := .append) (xs := #[.tmp 34, .tmp 37]) rfl ?_); at_builtin; refine Kd.R_append (Kd.int .u8) (w0 := w) w.heap.size rfl (.tmp 34) (.tmp 37) 22 5 (.int .u8 0) 1 rfl Tryd.underlying22 info5 rfl (by decide) (by omega) u3 (ints (byL l j)) ((r : Int)) [.int .u8 r] (fun k => w.heap.size ≤ k) (fun _ => False) rfl rfl ?aP (fun _ hk => hk.elim) ?aF ?aO ?aB ?aS ?aL ?_; (case aP => exact rfl); (case aB => exact HR.out.2); (case aF => exact (fun k hk => Nat.le_trans (below_size HR.out.2) hk)); (case aO => exact HR.out.1); (case aS => exact below_size HR.out.2); (case aL => rw [ints_len, byL_len]; omega); intro v1 w7 ho hb7 hg hat; have HK := Aside0.mk (And.intro ho hb7); clear ho hb7 hg hat)
          have hi := HN.out.2
          refine ⟨⟨j + 1, by rw [show 8 * (j + 1) = i + 8 by omega]; go_num, by omega, ?_, HK.out.2⟩, by simp only [intOf]; omega⟩
          rw [HN.out.1, ints_append]
          exact HK.out.1
    · have hge : ¬ (i : Int) < (n : Int) := by omega
      have hjn : (n + 7) / 8 = j := by omega
      clear hB hi
      go_wp2
      go_ret
      refine ⟨_, rfl, ?_, HR.out.2⟩
      have : bytesB l = byL l j := by unfold bytesB byL; rw [HC.out.2.1, hjn]
      rw [this]
      exact HR.out.1
/-- A sum's bytes, the lowest first. -/
def sumL (s : Nat) (n : Nat) : List Nat := (List.range n).map fun k => s / 256 ^ k % 256
theorem sumL_len (s n : Nat) : (sumL s n).length = n := by simp [sumL]
theorem sumL_next (s n : Nat) : sumL s (n + 1) = sumL s n ++ [s / 256 ^ n % 256] := by unfold sumL; rw [List.range_succ, List.map_append]; rfl
theorem sumL_lt (s n : Nat) : ∀ x ∈ sumL s n, x < 256 := fun x hx => by
  obtain ⟨k, _, rfl⟩ := List.mem_map.1 hx
  omega
set_option maxHeartbeats 3200000 in
set_option maxRecDepth 100000 in
theorem bytes32_any (s : Nat) (hs : s < 4294967296) (w : World) :
    Calls Tryd.prog 69 #[.int .u32 (s : Int)] w fun e w' => ∃ u, e = .returned u ∧ (Kd.int .u8).R 5 w' w.heap.size (fun k => w.heap.size ≤ k) u (ints (sumL s 4)) ∧ Below w.heap.size w w' := by
  have HS := Aside0.mk hs
  go_enter Tryd.func69, Tryd.ntmps69
  go_wp2
  go_loopw [0, 3, 4] (fun x0 x3 x4 wr => ∃ k : Nat, x4 = .int .i64 k ∧ k ≤ 4 ∧ x0 = .int .u32 ((s / 256 ^ k : Nat) : Int) ∧ (Kd.int .u8).R 5 wr w.heap.size (fun k => w.heap.size ≤ k) x3 (ints (sumL s k)) ∧ Below w.heap.size w wr) (fun _ _ x4 _ => 4 - (intOf x4).toNat)
  case atStart => exact ⟨0, rfl, Nat.zero_le _, by simp, Kd.R_nil _ _ _ _ _, Below.refl _ _⟩
  case round =>
    obtain ⟨k, rfl, hk, rfl, hR, hB⟩ := hrel
    have HR := Aside0.mk (And.intro hR hB)
    clear hR hB
    by_cases hk4 : k < 4
    · have hlt : (k : Int) < 4 := by omega
      have hnx := sumL_next s k
      have hq2 : s / 256 ^ (k + 1) = s / 256 ^ k / 256 := by rw [Nat.pow_succ, Nat.div_div_eq_div_mul]
      obtain ⟨q, hq⟩ : ∃ q, s / 256 ^ k = q := ⟨_, rfl⟩
      have hqs : q ≤ s := by rw [← hq]; exact Nat.div_le_self _ _
      rw [hq] at hnx hq2 ⊢
      obtain ⟨y, hy⟩ : ∃ y, q % 256 = y := ⟨_, rfl⟩
      rw [hy] at hnx
      have hw8 : IntKind.u8.wrap (q : Int) = (y : Int) := by rw [IntKind.wrap_u8]; omega
      have hw9 : (q : Int) % 256 = (y : Int) := by omega
      obtain ⟨q1, hq1⟩ : ∃ q1, q / 256 = q1 := ⟨_, rfl⟩
      rw [hq1] at hq2
      have hd : (q : Int) / 256 = (q1 : Int) := by omega
      have HN := Aside0.mk (And.intro hnx hq2)
      clear hnx hq2 hq hy hq1 hqs
      go_wp2_with ((with_reducible refine gate_builtin (b := .append) (xs := #[.tmp 6, .tmp 9]) rfl ?_); at_builtin; refine Kd.R_append (Kd.int .u8) (w0 := w) w.heap.size rfl (.tmp 6) (.tmp 9) 22 5 (.int .u8 0) 1 rfl Tryd.underlying22 info5 rfl (by decide) (by omega) u3 (ints (sumL s k)) ((y : Int)) [.int .u8 y] (fun k => w.heap.size ≤ k) (fun _ => False) rfl rfl ?aP (fun _ hk => hk.elim) ?aF ?aO ?aB ?aS ?aL ?_; (case aP => exact rfl); (case aB => exact HR.out.2); (case aF => exact (fun k hk => Nat.le_trans (below_size HR.out.2) hk)); (case aO => exact HR.out.1); (case aS => exact below_size HR.out.2); (case aL => rw [ints_len, sumL_len]; omega); intro v1 w7 ho hb7 hg hat; have HK := Aside0.mk (And.intro ho hb7); clear ho hb7 hg hat)
      refine ⟨⟨k + 1, by go_num, by omega, by rw [HN.out.2], ?_, HK.out.2⟩, by simp only [intOf]; omega⟩
      rw [HN.out.1, ints_append]
      exact HK.out.1
    · have hge : ¬ (k : Int) < 4 := by omega
      obtain rfl : k = 4 := by omega
      go_wp2
      go_ret
      exact ⟨_, rfl, HR.out.1, HR.out.2⟩
end Go.Proofs.YtnejnnfjbhpigaaDoor.Vit

namespace Go.Proofs.YtnejnnfjbhpigaaDoor.Vit
open Go.RowKit Go.Proofs.YtnejnnfjbhpigaaDoorW.PrintWords Go.Proofs.YtnejnnfjbhpigaaDoorW.PrintLast Go.Proofs.YtnejnnfjbhpigaaDoorW.PrintMore Go.Proofs.YtnejnnfjbhpigaaDoor.Mem Go.Proofs.YtnejnnfjbhpigaaDoor.Crc
attribute [local go_sem] max2_int min2_int max_two min_two max_three min_three max_four min_four   -- for this text's walks alone
set_option linter.unusedVariables false
set_option linter.unusedSimpArgs false

open Go.Proofs.YtnejnnfjbhpigaaDoor.Chk
theorem C_none {w : World} {n : Nat} {xs : List Int} (h : (Kd.int .u8).C w none n xs) : n = 0 ∧ xs = [] := by
  have hl := Kd.C_len h
  have h0 : n = 0 := by
    by_cases h0 : 0 < n
    · obtain ⟨ad, hA, _⟩ := Kd.at_int h 0 (by omega) (by omega)
      cases hA
    · omega
  exact ⟨h0, List.eq_nil_of_length_eq_zero (by omega)⟩
set_option maxHeartbeats 3200000 in
set_option maxRecDepth 100000 in
theorem CloneB_any (xs : List Int) (A : Option Addr) (n c : Nat) (w : World) (hC : (Kd.int .u8).C w A n xs) (hl : n ≤ 1000000) :
    Calls Tryd.prog 60 #[.slice A n c] w fun e w' => ∃ u, e = .returned u ∧ (Kd.int .u8).R 5 w' w.heap.size (fun k => w.heap.size ≤ k) u xs ∧ Below w.heap.size w w' := by
  cases A with
  | none =>
    obtain ⟨rfl, rfl⟩ := C_none hC
    have he : ∀ W : World, (binOp .eql 22 (.slice none 0 c) (.slice none 0 0)).run Tryd.prog W = .ok (.bool true) W := fun _ => rfl
    clear hC
    go_enter Tryd.func60, Tryd.ntmps60
    go_wp2
    go_ret
    exact ⟨_, rfl, Kd.R_nil _ _ _ _ _, Below.refl _ _⟩
  | some ad =>
    have HC := Aside0.mk hC
    have he : ∀ W : World, (binOp .eql 22 (.slice (some ad) n c) (.slice none 0 0)).run Tryd.prog W = .ok (.bool false) W := fun _ => rfl
    clear hC
    go_enter Tryd.func60, Tryd.ntmps60
    go_wp2_with (at_builtin; refine Kd.R_append_rows (Kd.int .u8) (w0 := w) w.heap.size rfl _ _ _ _ (.int .u8 0) 1 rfl Tryd.underlying22 info5 rfl (by decide) (by decide) (.slice (some ⟨w.heap.size, 0, none⟩) 0 0) [] xs (some ad) n c (fun k => w.heap.size ≤ k) (fun _ => False) rfl rfl (Kd.R_of_own (World.ownsRow_made w #[] 0 (Nat.le_refl _) (Nat.zero_le _) rfl) (fun k hk => by simp [Value.ownBlock] at hk; omega)) (Kd.C_below HC.out (below_alloc (Below.refl _ _) _)) (fun x cs h => h) (fun _ hk => hk.elim) (fun k hk => by simp at hk; omega) (below_alloc (Below.refl _ _) _) (by simp) (by simp; omega) ?_; intro v1 w1 hR1 hB1 hG1 hat1; have H1 := Aside0.mk (And.intro hR1 hB1); clear hR1 hB1 hG1 hat1)
    go_ret
    exact ⟨_, rfl, by have h := H1.out.1; rw [List.nil_append] at h; exact h, H1.out.2⟩
set_option maxHeartbeats 3200000 in
set_option maxRecDepth 100000 in
theorem EqualB_any (a b : List Nat) (A B : Option Addr) (n m c d : Nat) (w : World) (ha : a.length = n) (hb : b.length = m) (hC : (Kd.int .u8).C w A n (ints a)) (hD : (Kd.int .u8).C w B m (ints b)) (hl : n ≤ 1000000) (hm : m ≤ 1000000) :
    Calls Tryd.prog 82 #[.slice A n c, .slice B m d] w fun e w' => e = .returned (.bool (decide (a = b))) ∧ Below w.heap.size w w' := by
  have HC := Aside0.mk (And.intro hC (And.intro hD (And.intro ha hb)))
  clear hC hD ha hb
  by_cases hnm : n = m
  · subst hnm
    go_enter Tryd.func82, Tryd.ntmps82
    go_wp2
    go_loopw [5, 13] (fun _ x13 wr => ∃ k : Nat, x13 = .int .i64 k ∧ k ≤ n ∧ Aside0 (a.take k = b.take k) ∧ Below w.heap.size w wr) (fun _ x13 _ => n - (intOf x13).toNat)
    case atStart => exact ⟨0, rfl, Nat.zero_le _, ⟨rfl⟩, Below.refl _ _⟩
    case round =>
      obtain ⟨k, rfl, hk, hE, hB⟩ := hrel
      by_cases hkn : k < n
      · have hlt : (k : Int) < (n : Int) := by omega
        have hka : k < a.length := by have := HC.out.2.2.1; omega
        have hkb : k < b.length := by have := HC.out.2.2.2; omega
        obtain ⟨ad, hA, hcell⟩ := Kd.at_int (Kd.C_below HC.out.1 hB) (k : Int) (by omega) hlt
        cases hA
        obtain ⟨bd, hB2, hcell2⟩ := Kd.at_int (Kd.C_below HC.out.2.1 hB) (k : Int) (by omega) hlt
        cases hB2
        rw [rd_ints hka, Int.toNat_natCast] at hcell
        rw [rd_ints hkb, Int.toNat_natCast] at hcell2
        have ta := List.take_succ_eq_append_getElem hka
        have tb := List.take_succ_eq_append_getElem hkb
        obtain ⟨x, hx⟩ : ∃ x, a[k] = x := ⟨_, rfl⟩
        obtain ⟨y, hy⟩ : ∃ y, b[k] = y := ⟨_, rfl⟩
        rw [hx] at hcell ta
        rw [hy] at hcell2 tb
        have HT := Aside0.mk (And.intro ta (And.intro tb (And.intro hx (And.intro hy hB))))
        clear ta tb hx hy hB
        by_cases hxy : x = y
        · subst hxy
          go_wp2_with fail
          go_quiet (fail)
          go_wp2
          refine ⟨⟨k + 1, by go_num, by omega, ⟨?_⟩, pw_below_drewN HT.out.2.2.2.2 _⟩, by simp only [intOf]; omega⟩
          rw [HT.out.1, HT.out.2.1, hE.out]
        · have hne : ¬ (x : Int) = (y : Int) := by omega
          have HXY := Aside0.mk hxy
          have hneb : ((x : Int) == (y : Int)) = false := by rw [beq_eq_false_iff_ne]; exact hne
          clear hxy
          go_wp2_with fail
          go_quiet (fail)
          go_wp2
          go_ret
          refine ⟨?_, pw_below_drewN HT.out.2.2.2.2 _⟩
          refine congrArg (fun q => Ending.returned (Value.bool q)) ?_
          symm
          rw [decide_eq_false_iff_not]
          rintro rfl
          exact HXY.out (HT.out.2.2.1.symm.trans HT.out.2.2.2.1)
      · have hge : ¬ (k : Int) < (n : Int) := by omega
        obtain rfl : k = n := by omega
        have HB := Aside0.mk hB
        clear hB
        go_wp2
        go_ret
        refine ⟨?_, HB.out⟩
        refine congrArg (fun q => Ending.returned (Value.bool q)) ?_
        symm
        rw [decide_eq_true_iff]
        have := hE.out
        rwa [List.take_of_length_le (by have := HC.out.2.2.1; omega), List.take_of_length_le (by have := HC.out.2.2.2; omega)] at this
  · have hne : ¬ (n : Int) = (m : Int) := by omega
    have hneb : ((n : Int) == (m : Int)) = false := by rw [beq_eq_false_iff_ne]; exact hne
    have HN := Aside0.mk hnm
    clear hnm
    go_enter Tryd.func82, Tryd.ntmps82
    go_wp2
    go_ret
    refine ⟨?_, Below.refl _ _⟩
    refine congrArg (fun q => Ending.returned (Value.bool q)) ?_
    symm
    rw [decide_eq_false_iff_not]
    rintro rfl
    exact HN.out (HC.out.2.2.1.symm.trans HC.out.2.2.2)
/-- Bytes with their sum behind. -/
def closeB (b : List Nat) : List Nat := b ++ sumL (Crc.sum b) 4
theorem closeB_len (b : List Nat) : (closeB b).length = b.length + 4 := by unfold closeB; rw [List.length_append, sumL_len]
theorem closeB_lt {b : List Nat} (hb : ∀ x ∈ b, x < 256) : ∀ x ∈ closeB b, x < 256 := fun x hx => by
  rcases List.mem_append.1 hx with h | h
  · exact hb x h
  · exact sumL_lt _ _ x h
theorem sum_lt {b : List Nat} (hb : ∀ x ∈ b, x < 256) : Crc.sum b < 4294967296 := Nat.xor_lt_two_pow (n := 32) (reg_lt b hb) (by omega)
set_option maxHeartbeats 3200000 in
set_option maxRecDepth 100000 in
theorem Close32_any (b : List Nat) (hb : ∀ x ∈ b, x < 256) (A : Option Addr) (n c : Nat) (w : World) (hn : b.length = n) (hC : (Kd.int .u8).C w A n (ints b)) (hl : n ≤ 10000) :
    Calls Tryd.prog 45 #[.slice A n c] w fun e w' => ∃ u, e = .returned u ∧ (Kd.int .u8).R 5 w' w.heap.size (fun k => w.heap.size ≤ k) u (ints (closeB b)) ∧ Below w.heap.size w w' := by
  have HC := Aside0.mk (And.intro hC (And.intro hn hb))
  clear hC hn hb
  obtain ⟨S, hS⟩ : ∃ S, Crc.sum b = S := ⟨_, rfl⟩
  have HS := Aside0.mk hS
  clear hS
  go_enter Tryd.func45, Tryd.ntmps45
  go_wp2_with fail
  refine (CloneB_any (ints b) A n c _ HC.out.1 (by omega)).mono ?_
  rintro e w1 ⟨u1, rfl, hR1, hB1⟩
  have H1 := Aside0.mk (And.intro hR1 hB1)
  clear hR1 hB1
  go_wp2_with fail
  have hs := Sum32_any b HC.out.2.2 A n c w1 HC.out.2.1 (Kd.C_below HC.out.1 H1.out.2) (by omega)
  rw [HS.out] at hs
  have HSU := Aside0.mk hs
  clear hs
  refine HSU.out.mono ?_
  rintro e w2 ⟨rfl, hB2⟩
  have H2 := Aside0.mk hB2
  clear hB2
  go_wp2_with fail
  refine (bytes32_any S (by rw [← HS.out]; exact sum_lt HC.out.2.2) _).mono ?_
  rintro e w3 ⟨u3, rfl, hR3, hB3⟩
  obtain ⟨A3, c3, rfl, hc3, hC3⟩ := Kd.R_reads hR3
  have h4 : (ints (sumL S 4)).length = 4 := by rw [ints_len, sumL_len]
  rw [h4] at hC3 hc3 ⊢
  have hB13 : Below w1.heap.size w1 w3 := H2.out.trans (hB3.mono H2.out.size)
  have hRk := Kd.R_below H1.out.1 hB13
  have H3 := Aside0.mk (And.intro hC3 (And.intro hRk (H1.out.2.trans (hB13.mono H1.out.2.size))))
  clear hC3 hc3 hR3 hB3 hB13 hRk h4
  go_wp2_with (at_builtin; refine Kd.R_append_rows (Kd.int .u8) (w0 := w) w.heap.size rfl _ _ _ _ (.int .u8 0) 1 rfl Tryd.underlying22 info5 rfl (by decide) (by decide) u1 (ints b) (ints (sumL S 4)) A3 4 c3 (fun k => w.heap.size ≤ k) (fun _ => False) rfl rfl H3.out.2.1 H3.out.1 (fun x cs h => h) (fun _ hk => hk.elim) (fun k hk => Nat.le_trans (below_size H3.out.2.2) hk) H3.out.2.2 (below_size H3.out.2.2) (by rw [ints_len, HC.out.2.1]; omega) ?_; intro v1 w7 hR7 hB7 hG7 hat7; have H7 := Aside0.mk (And.intro hR7 hB7); clear hR7 hB7 hG7 hat7)
  go_ret
  refine ⟨_, rfl, ?_, H7.out.2⟩
  have h := H7.out.1
  rw [← ints_append, ← HS.out] at h
  exact h
end Go.Proofs.YtnejnnfjbhpigaaDoor.Vit
