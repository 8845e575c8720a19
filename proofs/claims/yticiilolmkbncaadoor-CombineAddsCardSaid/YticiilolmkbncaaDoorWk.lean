/- The law CombineAdds: in every row of versions, also raw ones, the numbers and counts are told, and what is decoded; of none nothing is. Each theorem says its own conditions. -/
import Derived.Test.YticiilolmkbncaaDoorWi
import Derived.Test.YticiilolmkbncaaDoorWj
import Derived.Deep.CutRange
import Derived.Deep.RegionHeld3
namespace Go.Proofs.YticiilolmkbncaaDoor.Vit
open Go.RowKit Go.Proofs.YticiilolmkbncaaDoorW.PrintWords Go.Proofs.YticiilolmkbncaaDoorW.PrintLast Go.Proofs.YticiilolmkbncaaDoorW.PrintMore Go.Proofs.YticiilolmkbncaaDoor.Mem
attribute [local go_sem] max2_int min2_int max_two min_two max_three min_three max_four min_four   -- for this text's walks alone
set_option linter.unusedVariables false
set_option linter.unusedSimpArgs false

theorem neq4_same (a b c d : Int) (W : World) : (binOp .neq 47 (.agg #[.int .i64 a, .int .i64 b, .int .i64 c, .int .i64 d]) (.agg #[.int .i64 a, .int .i64 b, .int .i64 c, .int .i64 d])).run Tryd.prog W = .ok (.bool false) W := by
  obtain ⟨i0, hi, _⟩ := Option.map_eq_some_iff.1 info3
  have hc : Tryd.prog.cellsOf 3 = 1 := by kernel_rfl
  rw [run_neq_struct, run_equalIn_array W 9999 _ _ (Tryd.underlying47) hi, hc]
  have hr : List.range 4 = [0, 1, 2, 3] := rfl
  rw [hr]
  simp [Op.eqItems, go_sem, Tryd.underlying3]
theorem addv_in (xs : List Int) (v : Nat) (p : List Nat) (h : ∀ x ∈ xs, -31 ≤ x ∧ x ≤ 31) : ∀ t, ∀ x ∈ addv xs v p t, -31 ≤ x ∧ x ≤ 31
  | 0 => h
  | t + 1 => fun x hx => by
    unfold addv at hx
    rcases List.mem_or_eq_of_mem_set hx with h1 | h1
    · exact addv_in xs v p h t x h1
    · rw [h1]
      exact clip_in _
/-- A list, made as long as need be by noughts. -/
def padl (xs : List Int) (n : Nat) : List Nat := few1 xs n ++ zs (n - (few1 xs n).length)
theorem padl_len (xs : List Int) (n : Nat) : (padl xs n).length = n := by
  unfold padl
  rw [List.length_append, zs_len, few1_len]
  omega
theorem padl_bits (xs : List Int) (n : Nat) : Bits (padl xs n) := (few1_bits _ _).append (zs_bits _)
theorem ints_bits {p : List Int} (h0 : ∀ x ∈ p, 0 ≤ x) (h1 : ¬ ∃ x ∈ p, 1 < x) : ∃ l : List Nat, p = ints l ∧ Bits l := by
  refine ⟨p.map Int.toNat, ?_, fun b hb => ?_⟩
  · unfold ints
    rw [List.map_map]
    have : ∀ x ∈ p, ((fun n : Nat => (n : Int)) ∘ Int.toNat) x = x := fun x hx => by
      have := h0 x hx
      simp
      omega
    rw [List.map_congr_left this, List.map_id']
  · obtain ⟨x, hx, rfl⟩ := List.mem_map.1 hb
    have := Classical.byContradiction fun h => h1 ⟨x, hx, Int.not_le.1 h⟩
    omega
/-- The combiner's buffer and the document's, behind what came. -/
structure Both (n b z s7 : Nat) (A1 : Option Addr) (m : List Nat) (w wr : World) (k sb br sr : Nat) (X : List Int) (cs : Nat → Nat) : Prop where
  one : IsBuf wr b sb n X cs
  two : IsRef wr br sr n X cs
  apart : sb ≠ sr
  far : (sb < s7 ∨ z ≤ sb) ∧ z ≤ br ∧ z ≤ sr
  few : ∀ i, cs i ≤ k
  inn : ∀ x ∈ X, -31 ≤ x ∧ x ≤ 31
  list : (Kd.int .u8).C wr A1 n (ints m)
  below : Below w.heap.size w wr
  low : w.heap.size ≤ b ∧ w.heap.size ≤ sb
theorem Both.full {n b z s7 k sb br sr : Nat} {A1 : Option Addr} {m : List Nat} {w wr w' : World} {X : List Int} {cs : Nat → Nat} (h : Both n b z s7 A1 m w wr k sb br sr X cs) (hB : Below wr.heap.size wr w') : Both n b z s7 A1 m w w' k sb br sr X cs :=
  ⟨h.one.below hB, h.two.below hB, h.apart, h.far, h.few, h.inn, Kd.C_below h.list hB, h.below.trans (hB.mono h.below.size), h.low⟩
/-- A version comes to both. -/
theorem Both.add {n b z s7 k sb br sr v : Nat} {p : List Nat} {A1 : Option Addr} {m : List Nat} {w wr w1 w2 w3 : World} {X : List Int} {cs : Nat → Nat} (h : Both n b z s7 A1 m w wr k sb br sr X cs) (hA : ∀ ad, A1 = some ad → s7 ≤ ad.block ∧ ad.block < z) (hb : b < s7) (hz : w.heap.size ≤ z)
    (hI : IsBuf w1 b sb n (addv X v p (n + 6)) (bump cs v)) (hc : Chg (fun k => k = b ∨ k = sb) wr w1) (hB : Below w1.heap.size w1 w2)
    (hR : IsRef w3 br sr n (addv X v p (n + 6)) (bump cs v)) (hc2 : Chg (fun k => k = br ∨ k = sr) w2 w3) : Both n b z s7 A1 m w w3 (k + 1) sb br sr (addv X v p (n + 6)) (bump cs v) := by
  have hbb : b ≠ br := fun e => by
    have h1 := h.one.blk
    have h2 := h.two.blk
    rw [e] at h1
    rw [h1] at h2
    injection h2 with h2
    injection h2 with _ h2
    exact absurd h2 (by decide)
  have hbs : b ≠ sr := fun e => absurd h.one.blk (by rw [e, h.two.row]; intro h; injection h with h; injection h with _ h; exact absurd h (by decide))
  have hsb : sb ≠ br := fun e => absurd h.one.row (by rw [e, h.two.blk]; intro h; injection h with h; injection h with _ h; exact absurd h (by decide))
  have hl1 : (Kd.int .u8).C w1 A1 n (ints m) := C_chg h.list hc (fun ad had e => by have := hA ad had; have := h.far.1; omega)
  have hB1 : Below w.heap.size w w1 := h.below.trans (hc.below h.below.size (fun i hi => by have := h.low; omega))
  have hB2 := hB1.trans (hB.mono hB1.size)
  refine ⟨(hI.below hB).chg hc2 (by omega) (by have := h.apart; omega), hR, h.apart, h.far, bump_le h.few v, addv_in _ _ _ h.inn _, C_chg (Kd.C_below hl1 hB) hc2 (fun ad had e => by have := hA ad had; have := h.far; omega), hB2.trans (hc2.below hB2.size (fun i hi => by have := h.far; omega)), h.low⟩
end Go.Proofs.YticiilolmkbncaaDoor.Vit
