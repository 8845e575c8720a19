/- Plain words: what reads as data of an array of numbers; and what the row's listed table (internal/strconv.uint64pow10) gives a walk. -/
import Derived.Test.YtjillkcognlljaaDoorTie
import Derived.Test.YtjillkcognlljaaDoorOpen
import Derived.Test.YtjillkcognlljaaDoorSc
import Derived.ProofKit
import Derived.OpenShut
import Derived.LaidMore
import Derived.Lay
import Derived.SevenTiedAt
import Derived.Stop.Joined
import Derived.Stop.LaidErr
import Derived.Lib.LaidTab
namespace Go.Proofs.YtjillkcognlljaaDoor.Opn
open Go.RowKit Go.Deep Go.WideShapes

theorem okWide_array {P : Program} {w : World} {r : _} {base : Nat} {t e : TypeId} {n : Nat} {v : Value} (ht : P.underlying t = some (.array n e)) (h : Value.okWide P w r base t v) : ∃ cs, v = .agg cs ∧ cs.size = P.cellsOf t := by
  simp only [Value.okWide, ht] at h
  obtain ⟨cs, h1, h2, _⟩ := h
  exact ⟨cs, h1, h2⟩
/-- Eight numbers. -/
theorem ints8 {H : Type} {enc : TypeId × Value → H} {P : Program} {W : World} {base : Nat} {spare : Nat → Bool} {held : Bool} {t e : TypeId} {cs : Array Value} {x : DataW H} {ps : List MemPlace} (ht : P.underlying t = some (.array 8 e)) (he : P.underlying e = some (.int .i64)) (hc : P.cellsOf e = 1)
    (hct : P.cellsOf t = 8) (hT : DataW.Trod enc P W base spare held t (.agg cs) x ps) : ∃ c : Nat → Int, cs = Vit.cnts c ∧ ∀ k, -9223372036854775808 ≤ c k ∧ c k ≤ 9223372036854775807 := by
  obtain ⟨fuel, hf⟩ := hT
  obtain ⟨xs, m, _, _, hl, hx, hel⟩ := DataW.trod_array ht hf
  rw [hct] at hl
  rw [hc] at hel
  have hel2 : ∀ i, i < 8 → ∃ n : Int, cs.toList[i]? = some (.int .i64 n) ∧ (Lit.int .i64 n).wf = true := by
    intro i hi
    have h1 := hel i hi
    obtain ⟨y, hy⟩ : ∃ y, xs[i]? = some y := ⟨_, List.getElem?_eq_getElem (by omega)⟩
    rw [hy] at h1
    obtain ⟨n, a, b, c⟩ := DataW.trod_int he h1
    refine ⟨n, ?_, c⟩
    have hd : ((cs.toList.drop (i * 1)).take 1)[0]? = some (.int .i64 n) := by
      have : (Value.agg cs).cells.toList = cs.toList := rfl
      rw [this] at a
      rw [a]
      rfl
    rw [Nat.mul_one, List.getElem?_take_of_lt (by omega), List.getElem?_drop, Nat.add_zero] at hd
    exact hd
  have hwf : ∀ n : Int, (Lit.int .i64 n).wf = true → -9223372036854775808 ≤ n ∧ n ≤ 9223372036854775807 := fun n h => by
    have h2 : IntKind.i64.min ≤ n ∧ n ≤ IntKind.i64.max := by simpa [Lit.wf] using h
    have e1 : IntKind.i64.min = -9223372036854775808 := by decide
    have e2 : IntKind.i64.max = 9223372036854775807 := by decide
    rw [e1, e2] at h2
    exact h2
  obtain ⟨n0, a0, b0⟩ := hel2 0 (by omega)
  obtain ⟨n1, a1, b1⟩ := hel2 1 (by omega)
  obtain ⟨n2, a2, b2⟩ := hel2 2 (by omega)
  obtain ⟨n3, a3, b3⟩ := hel2 3 (by omega)
  obtain ⟨n4, a4, b4⟩ := hel2 4 (by omega)
  obtain ⟨n5, a5, b5⟩ := hel2 5 (by omega)
  obtain ⟨n6, a6, b6⟩ := hel2 6 (by omega)
  obtain ⟨n7, a7, b7⟩ := hel2 7 (by omega)
  refine ⟨fun k => match k with | 0 => n0 | 1 => n1 | 2 => n2 | 3 => n3 | 4 => n4 | 5 => n5 | 6 => n6 | _ => n7, ?_, fun k => ?_⟩
  · obtain ⟨l⟩ := cs
    have hl8 : l.length = 8 := by
      have : (Value.agg ⟨l⟩).cells.toList = l := rfl
      rw [this] at hl
      exact hl
    match l, hl8 with
    | [x0, x1, x2, x3, x4, x5, x6, x7], _ =>
      simp only [List.getElem?_cons_zero, List.getElem?_cons_succ, Option.some.injEq] at a0 a1 a2 a3 a4 a5 a6 a7
      subst a0 a1 a2 a3 a4 a5 a6 a7
      rfl
  · dsimp only
    split
    · exact hwf _ b0
    · exact hwf _ b1
    · exact hwf _ b2
    · exact hwf _ b3
    · exact hwf _ b4
    · exact hwf _ b5
    · exact hwf _ b6
    · exact hwf _ b7
theorem tab_of_laid {W : World} (h : laidMetH Tryd.prog [("math/bits.deBruijn32tab", Rows.laid_math_bits_deBruijn32tab), ("math/bits.deBruijn64tab", Rows.laid_math_bits_deBruijn64tab), ("internal/strconv.uint64pow10", Rows.laid_internal_strconv_uint64pow10)] W) : Vit.Tab W := by
  rw [MakeChecks.laidMetH_plain _ _ _ (by kernel_rfl)] at h
  have e : (Rows.laid_internal_strconv_uint64pow10 : DataW Unit) = Lib.tabData .u64 Lib.pow10Tab := by kernel_rfl
  have h3 := laidMet.tail (laidMet.tail h)
  rw [e] at h3
  exact Lib.tabIs_of_head Vit.glob_pow (show (Tryd.prog.globals[1]?).map (·.type) = some 166 by kernel_rfl) Tryd.underlying166 Tryd.underlying57 (by kernel_rfl) (by kernel_rfl) h3
end Go.Proofs.YtjillkcognlljaaDoor.Opn
