/- Plain words of this seat's walks, and the contract of the document's numeral (shuttleref30.Number): each theorem says its own conditions. -/
import Derived.Test.YtjillkcognlljaaDoorMem
import Derived.Test.YtjillkcognlljaaDoorShelf
import Derived.Test.YtjillkcognlljaaDoorProg
import Derived.Below
import Derived.Deep.Draws
import Derived.Deep.AppendLies
import Derived.Maps.AppendAt
import Derived.OwnWalk
import Derived.Laws.BytesArg
import Derived.Laws.MakeOwn
import Derived.Laws.OwnMore
import Derived.Deep.OwnRows
import Derived.Tactics
import Derived.Lib.ConvBytes
import Derived.Laws.Slices
import Derived.WalkKit
import Derived.KernelRfl
import Derived.RowKit3
import Derived.Deep.LoopGhost
import Derived.Deep.QuietTactic
import Derived.BigQuiet
import Derived.WideLaws
import Derived.Deep.DeepCutAuto
import Derived.Deep.CutBlock
import Derived.Deep.CutRange
import Derived.Deep.RegionHeld3
import Derived.Laws.Rows
import Derived.Lib.AppendStr
import Derived.ArgAppend
import Derived.Laws.IdiomCopy
import Derived.OrdersHeld
import Derived.Laws.BitsLemmas
import Derived.RowKit
import Derived.WalkSpells
import Derived.Lib.ItoaLen
import Derived.Lib.ItoaMem
namespace Go.Proofs.YtjillkcognlljaaDoor.Vit
open Go.RowKit Go.Proofs.YtjillkcognlljaaDoorW.PrintWords Go.Proofs.YtjillkcognlljaaDoorW.PrintLast Go.Proofs.YtjillkcognlljaaDoorW.PrintMore Go.Proofs.YtjillkcognlljaaDoor.Mem
attribute [local go_sem] max2_int min2_int max_two min_two max_three min_three max_four min_four   -- for this text's walks alone
set_option linter.unusedVariables false
set_option linter.unusedSimpArgs false

theorem wrap64_in (x : Int) (h1 : -9223372036854775808 ≤ x) (h2 : x ≤ 9223372036854775807) : wrap64 x = x := by unfold wrap64; omega
theorem lies_lt {w : World} {a : Addr} {v : Value} (h : w.cell? a = some v) : a.block < w.heap.size := by
  unfold World.cell? at h
  split at h
  · rename_i hb
    exact (Array.getElem?_eq_some_iff.1 hb).1
  · simp at h
theorem below_cell {w wx : World} (hb : Below w.heap.size w wx) {a : Addr} {v : Value} (h : w.cell? a = some v) : wx.cell? a = some v := (hb.cell (lies_lt h)).trans h
theorem below_cell_blk {w W : World} (hB : Below w.heap.size w W) {b : Nat} {o : Obj} (h : w.heap[b]? = some o) : W.heap[b]? = some o := (hB.block b (Array.getElem?_eq_some_iff.1 h).1).trans h
theorem C_block {k : IntKind} {W : World} {b t : Nat} (xs : List Int) (hl : xs.length ≤ 9223372036854775807) (h : W.heap[b]? = some (.cells (xs.map (Value.int k)).toArray t (0, 0))) : (Kd.int k).C W (some ⟨b, 0, none⟩) xs.length xs := by
  refine ⟨rfl, hl, fun _ => ⟨_, rfl, fun j p hj => ⟨[.int k p], rfl, rfl, fun i u hu => ?_⟩⟩⟩
  match i, hu with
  | 0, hu =>
    obtain rfl : Value.int k p = u := by simpa using hu
    have e : (⟨b, 0, none⟩ : Addr).add (j * (Kd.int k).sz + 0) = ⟨b, j, none⟩ := by
      show (⟨b, 0, none⟩ : Addr).add (j * 1 + 0) = _
      unfold Addr.add
      split <;> simp_all
    rw [e, blk_cell h]
    simp [hj]
  | i + 1, hu => simp at hu

/-! ### Numerals -/
/-- What the numeral's loop knows. -/
def DS (U u : Nat) (l : List UInt8) : Prop := u ≤ U ∧ ((l = [] ∧ u = U) ∨ (l ≠ [] ∧ u = 0 ∧ l = Lib.decDigits U) ∨ (l ≠ [] ∧ 0 < u ∧ Lib.decDigits u ++ l = Lib.decDigits U))
theorem DS.next {U u : Nat} {l : List UInt8} (h : DS U u l) (hg : 0 < u ∨ l = []) : DS U (u / 10) (UInt8.ofNat (48 + u % 10) :: l) := by
  obtain ⟨hle, h⟩ := h
  have key : Lib.decDigits u ++ l = Lib.decDigits U := by
    rcases h with ⟨h1, h2⟩ | ⟨h1, h2, h3⟩ | ⟨h1, h2, h3⟩
    · rw [h1, h2, List.append_nil]
    · rcases hg with hg | hg
      · omega
      · exact absurd hg h1
    · exact h3
  refine ⟨by omega, ?_⟩
  by_cases h10 : u < 10
  · refine Or.inr (Or.inl ⟨by simp, by omega, ?_⟩)
    rw [Lib.decDigits, dif_pos h10] at key
    rw [show u % 10 = u by omega]
    exact key
  · refine Or.inr (Or.inr ⟨by simp, by omega, ?_⟩)
    rw [Lib.decDigits, dif_neg h10, List.append_assoc] at key
    exact key
theorem DS.len {U u : Nat} {l : List UInt8} (h : DS U u l) (hU : U < 18446744073709551616) : l.length ≤ 20 := by
  have h20 := Lib.nDigits_le20 U hU
  have hd := Lib.decDigits_length U
  obtain ⟨_, h⟩ := h
  rcases h with ⟨h1, h2⟩ | ⟨h1, h2, h3⟩ | ⟨h1, h2, h3⟩
  · rw [h1]; simp
  · rw [h3]; omega
  · rw [← h3, List.length_append] at hd
    omega
theorem DS.end {U u : Nat} {l : List UInt8} (h : DS U u l) (h0 : ¬ 0 < u) (hl : l ≠ []) : l = Lib.decDigits U := by
  obtain ⟨_, h⟩ := h
  rcases h with ⟨h1, h2⟩ | ⟨h1, h2, h3⟩ | ⟨h1, h2, h3⟩
  · exact absurd h1 hl
  · exact h3
  · omega
def em : Value → Nat
  | .string s => if s.size = 0 then 1 else 0
  | _ => 0
theorem cat_toArray (a b : List UInt8) : (⟨a.toArray⟩ : ByteArray) ++ ⟨b.toArray⟩ = ⟨(a ++ b).toArray⟩ := by
  apply ByteArray.ext
  simp
/-- One byte as a string. -/
theorem one_string (d : Nat) (W : World) : (convert 39 9 (.slice (some ⟨W.heap.size, 0, none⟩) 1 1)).run Tryd.prog (W.alloc (.cells #[.int .u8 (d : Int)] 5)) = .ok (.string ⟨#[UInt8.ofNat d]⟩) (W.alloc (.cells #[.int .u8 (d : Int)] 5)) := by
  have hC := C_block (k := .u8) (W := W.alloc (.cells #[.int .u8 (d : Int)] 5)) (b := W.heap.size) [(d : Int)] (by show 1 ≤ 9223372036854775807; omega) (heap_alloc_new W _)
  exact Kd.C_string Tryd.underlying39 Tryd.underlying5 Tryd.underlying9 hC
theorem u64_in {v : Nat} (h : v < 18446744073709551616) : IntKind.u64.wrap (v : Int) = (v : Int) := by rw [IntKind.wrap_u64]; omega
theorem dig_cat (d : Nat) (l : List UInt8) : (⟨#[48 + UInt8.ofNat d]⟩ : ByteArray) ++ ⟨l.toArray⟩ = ⟨(UInt8.ofNat (48 + d) :: l).toArray⟩ := by
  rw [show (48 : UInt8) + UInt8.ofNat d = UInt8.ofNat (48 + d) by simp [UInt8.ofNat_add]]
  exact cat_toArray [_] l
theorem em_cons (x : UInt8) (l : List UInt8) : em (.string ⟨(x :: l).toArray⟩) = 0 := by
  show (if (x :: l).toArray.size = 0 then 1 else 0) = 0
  simp
set_option maxHeartbeats 1600000 in
set_option maxRecDepth 100000 in
theorem Number_pos (U : Nat) (hU : U ≤ 9223372036854775807) (w : World) : Calls Tryd.prog 23 #[.int .i64 (U : Int)] w fun e w' => e = .returned (.string ⟨(Lib.decDigits U).toArray⟩) ∧ Below w.heap.size w w' := by
  have q0 : IntKind.u64.wrap (U : Int) = (U : Int) := u64_in (by omega)
  have q1 : ¬ (U : Int) < 0 := by omega
  go_enter Tryd.func23, Tryd.ntmps23
  go_wp2_with fail
  go_loopw [3, 4] (fun x y wr => ∃ (u : Nat) (l : List UInt8), x = .int .u64 u ∧ y = .string ⟨l.toArray⟩ ∧ DS U u l ∧ Below w.heap.size w wr) (fun x y _ => 2 * (intOf x).toNat + em y)
  case atStart => exact ⟨U, [], rfl, rfl, ⟨Nat.le_refl _, Or.inl ⟨rfl, rfl⟩⟩, Below.refl _ _⟩
  case round =>
    obtain ⟨u, l, rfl, rfl, hD, hB⟩ := hrel
    have hu := hD.1
    have hl := hD.len (by omega)
    have HD := Aside0.mk (And.intro hD hB)
    clear hD hB
    by_cases hz : 0 < u
    · have hz' : (0 : Int) < (u : Int) := by omega
      have HN := Aside0.mk (HD.out.1.next (Or.inl hz))
      obtain ⟨d, hd⟩ : ∃ d, u % 10 = d := ⟨_, rfl⟩
      have hd10 : d < 10 := by omega
      have hcv : ∀ W : World, (convert 39 9 (.slice (some ⟨W.heap.size, 0, none⟩) 1 1)).run Tryd.prog (W.alloc (.cells #[.int .u8 (48 + (d : Int))] 5)) = .ok (.string ⟨#[UInt8.ofNat (48 + d)]⟩) (W.alloc (.cells #[.int .u8 (48 + (d : Int))] 5)) := fun W => by
        have h := one_string (48 + d) W
        rw [show ((48 + d : Nat) : Int) = 48 + (d : Int) by omega] at h
        exact h
      obtain ⟨v, hv⟩ : ∃ v, u / 10 = v := ⟨_, rfl⟩
      have b1 : (u : Int).tmod 10 = (d : Int) := by rw [Int.tmod_eq_emod_of_nonneg (by omega)]; omega
      have b2 : (u : Int).tdiv 10 = (v : Int) := by rw [Int.tdiv_eq_ediv_of_nonneg (by omega)]; omega
      have hv64 : v < 18446744073709551616 := by omega
      have HV := Aside0.mk (And.intro hd hv)
      clear hd hv
      have r3 : IntKind.u64.wrap (d : Int) = (d : Int) := u64_in (by omega)
      have r4 : IntKind.u64.wrap (48 + (d : Int)) = 48 + (d : Int) := by rw [IntKind.wrap_u64]; omega
      have r5 : IntKind.u8.wrap (48 + (d : Int)) = 48 + (d : Int) := by rw [IntKind.wrap_u8]; omega
      have r6 : IntKind.u64.wrap (v : Int) = (v : Int) := u64_in hv64
      clear hv64
      go_wp2_with fail
      refine ⟨⟨v, UInt8.ofNat (48 + d) :: l, rfl, congrArg Value.string (dig_cat d l), by rw [← HV.out.1, ← HV.out.2]; exact HN.out, below_alloc HD.out.2 _⟩, ?_⟩
      rw [dig_cat d l, em_cons]
      simp only [intOf, Int.toNat_natCast]
      have := HV.out.2
      omega
    · obtain rfl : u = 0 := by omega
      by_cases hl0 : l = []
      · subst hl0
        have hU0 : U = 0 := by
          rcases HD.out.1.2 with h | h | h
          · exact h.2.symm
          · exact absurd rfl h.1
          · exact absurd rfl h.1
        subst hU0
        have hcv : ∀ W : World, (convert 39 9 (.slice (some ⟨W.heap.size, 0, none⟩) 1 1)).run Tryd.prog (W.alloc (.cells #[.int .u8 48] 5)) = .ok (.string ⟨#[48]⟩) (W.alloc (.cells #[.int .u8 48] 5)) := fun W => one_string 48 W
        go_wp2_with fail
        refine ⟨⟨0, [48], rfl, congrArg Value.string (cat_toArray [48] []), ⟨by omega, Or.inr (Or.inl ⟨by simp, rfl, by rw [Lib.decDigits, dif_pos (by omega)]; rfl⟩)⟩, below_alloc HD.out.2 _⟩, ?_⟩
        have e : (⟨#[48]⟩ : ByteArray) ++ ⟨#[]⟩ = ⟨([48] : List UInt8).toArray⟩ := cat_toArray [48] []
        rw [e, em_cons 48 []]
        decide
      · have hne : l.isEmpty = false := by simp [hl0]
        have HF := Aside0.mk (HD.out.1.end (by omega) hl0)
        go_wp2_with fail
        go_ret
        exact ⟨by rw [← HF.out]; rfl, HD.out.2⟩
set_option maxHeartbeats 1600000 in
set_option maxRecDepth 100000 in
theorem Number_neg (n x : Int) (U : Nat) (hU1 : 1 ≤ U) (hU : U ≤ 9223372036854775808) (hn : n < 0) (q0 : IntKind.u64.wrap n = x) (q1 : IntKind.u64.wrap (-x) = (U : Int)) (w : World) : Calls Tryd.prog 23 #[.int .i64 n] w fun e w' => e = .returned (.string ⟨(45 :: Lib.decDigits U).toArray⟩) ∧ Below w.heap.size w w' := by
  go_enter Tryd.func23, Tryd.ntmps23
  go_wp2_with fail
  go_loopw [3, 4] (fun x y wr => ∃ (u : Nat) (l : List UInt8), x = .int .u64 u ∧ y = .string ⟨l.toArray⟩ ∧ DS U u l ∧ Below w.heap.size w wr) (fun x y _ => 2 * (intOf x).toNat + em y)
  case atStart => exact ⟨U, [], rfl, rfl, ⟨Nat.le_refl _, Or.inl ⟨rfl, rfl⟩⟩, Below.refl _ _⟩
  case round =>
    obtain ⟨u, l, rfl, rfl, hD, hB⟩ := hrel
    have hu := hD.1
    have hl := hD.len (by omega)
    have HD := Aside0.mk (And.intro hD hB)
    clear hD hB
    by_cases hz : 0 < u
    · have hz' : (0 : Int) < (u : Int) := by omega
      have HN := Aside0.mk (HD.out.1.next (Or.inl hz))
      obtain ⟨d, hd⟩ : ∃ d, u % 10 = d := ⟨_, rfl⟩
      have hd10 : d < 10 := by omega
      have hcv : ∀ W : World, (convert 39 9 (.slice (some ⟨W.heap.size, 0, none⟩) 1 1)).run Tryd.prog (W.alloc (.cells #[.int .u8 (48 + (d : Int))] 5)) = .ok (.string ⟨#[UInt8.ofNat (48 + d)]⟩) (W.alloc (.cells #[.int .u8 (48 + (d : Int))] 5)) := fun W => by
        have h := one_string (48 + d) W
        rw [show ((48 + d : Nat) : Int) = 48 + (d : Int) by omega] at h
        exact h
      obtain ⟨v, hv⟩ : ∃ v, u / 10 = v := ⟨_, rfl⟩
      have b1 : (u : Int).tmod 10 = (d : Int) := by rw [Int.tmod_eq_emod_of_nonneg (by omega)]; omega
      have b2 : (u : Int).tdiv 10 = (v : Int) := by rw [Int.tdiv_eq_ediv_of_nonneg (by omega)]; omega
      have hv64 : v < 18446744073709551616 := by omega
      have HV := Aside0.mk (And.intro hd hv)
      clear hd hv
      have r3 : IntKind.u64.wrap (d : Int) = (d : Int) := u64_in (by omega)
      have r4 : IntKind.u64.wrap (48 + (d : Int)) = 48 + (d : Int) := by rw [IntKind.wrap_u64]; omega
      have r5 : IntKind.u8.wrap (48 + (d : Int)) = 48 + (d : Int) := by rw [IntKind.wrap_u8]; omega
      have r6 : IntKind.u64.wrap (v : Int) = (v : Int) := u64_in hv64
      clear hv64
      go_wp2_with fail
      refine ⟨⟨v, UInt8.ofNat (48 + d) :: l, rfl, congrArg Value.string (dig_cat d l), by rw [← HV.out.1, ← HV.out.2]; exact HN.out, below_alloc HD.out.2 _⟩, ?_⟩
      rw [dig_cat d l, em_cons]
      simp only [intOf, Int.toNat_natCast]
      have := HV.out.2
      omega
    · obtain rfl : u = 0 := by omega
      by_cases hl0 : l = []
      · subst hl0
        have hU0 : U = 0 := by
          rcases HD.out.1.2 with h | h | h
          · exact h.2.symm
          · exact absurd rfl h.1
          · exact absurd rfl h.1
        omega
      · have hne : l.isEmpty = false := by simp [hl0]
        have HF := Aside0.mk (HD.out.1.end (by omega) hl0)
        go_wp2_with fail
        go_ret
        exact ⟨by rw [← HF.out]; exact congrArg (fun s => Ending.returned (Value.string s)) (cat_toArray [45] l), HD.out.2⟩
theorem Number_any (n : Int) (h0 : -9223372036854775808 ≤ n) (h1 : n ≤ 9223372036854775807) (w : World) : Calls Tryd.prog 23 #[.int .i64 n] w fun e w' => e = .returned (.string ⟨(Lib.itoa n).toArray⟩) ∧ Below w.heap.size w w' := by
  by_cases hn : n < 0
  · obtain ⟨U, rfl⟩ : ∃ U : Nat, n = -(U : Int) := ⟨n.natAbs, by omega⟩
    rw [Lib.itoa_neg U (by omega)]
    exact Number_neg _ _ U (by omega) (by omega) hn rfl (by rw [IntKind.wrap_u64, IntKind.wrap_u64]; omega) w
  · obtain ⟨U, rfl⟩ : ∃ U : Nat, n = (U : Int) := ⟨n.toNat, by omega⟩
    rw [Lib.itoa_nonneg]
    exact Number_pos U (by omega) w
end Go.Proofs.YtjillkcognlljaaDoor.Vit
