/- A queue of the program in memory, and its methods' contracts (Kept, Under, Waiting): no conditions but those of each theorem. -/
import Derived.Test.YtfhfeelkjpcogaaMem
import Derived.Test.YtfhfeelkjpcogaaProg
import Derived.Below
import Derived.Deep.Draws
import Derived.Deep.AppendLies
import Derived.Maps.AppendAt
import Derived.OwnWalk
import Derived.Laws.BytesArg
import Derived.Laws.MakeOwn
import Derived.Laws.OwnMore
import Derived.Deep.OwnRows
import Derived.Tactics
import Derived.Lib.ConvBytes
import Derived.Laws.Slices
import Derived.WalkKit
import Derived.KernelRfl
import Derived.RowKit3
import Derived.Deep.LoopGhost
import Derived.Deep.QuietTactic
import Derived.BigQuiet
import Derived.WideLaws
import Derived.Deep.DeepCutAuto
import Derived.Deep.CutBlock
import Derived.Deep.RegionHeld3
import Derived.Laws.Rows
import Derived.Lib.AppendStr
import Derived.ArgAppend
import Derived.Laws.IdiomCopy
import Derived.OrdersHeld
import Derived.Laws.BitsLemmas
import Derived.RowKit
namespace Go.Proofs.Ytfhfeelkjpcogaa.Fifo
open Go.RowKit Go.Proofs.YtfhfeelkjpcogaaW.PrintWords Go.Proofs.YtfhfeelkjpcogaaW.PrintLast Go.Proofs.Ytfhfeelkjpcogaa.Mem
set_option linter.unusedVariables false
set_option linter.unusedSimpArgs false

abbrev D : Kd (List Int) := Kd.slice 5 (Kd.int .u8)
theorem D_types : ∀ q, q ∈ (34 : Nat) :: D.E → q ≠ 53 := by decide

/-- A queue: its struct at block g, its rows; what it uses lies in ok. -/
def IsQ (ok : Nat → Prop) (w : World) (base g : Nat) (most : Int) (U W : List (List Int)) (d : Int) : Prop :=
  ∃ v1 v2, w.heap[g]? = some (.cells #[.int .i64 most, v1, v2, .int .i64 d] 53 (0, 0)) ∧ base ≤ g ∧ ok g ∧
    D.Q 34 w base ok v1 U ∧ D.Q 34 w base ok v2 W ∧ NeRow v1 v2

theorem IsQ.step {ok : Nat → Prop} {w w1 : World} {base g : Nat} {most d : Int} {U W : List (List Int)} (h : IsQ ok w base g most U W d)
    (hm : ∀ k, ok k → k < w.heap.size → w1.heap[k]? = w.heap[k]?) : IsQ ok w1 base g most U W d := by
  obtain ⟨v1, v2, hb, hg, hok, h1, h2, hne⟩ := h
  exact ⟨v1, v2, (hm g hok (blk_lt hb)).trans hb, hg, hok, Kd.Q_step h1 hm, Kd.Q_step h2 hm, hne⟩
theorem IsQ.chg {ok S : Nat → Prop} {w w1 : World} {base g : Nat} {most d : Int} {U W : List (List Int)} (h : IsQ ok w base g most U W d)
    (hc : Chg S w w1) (hS : ∀ k, ok k → k < w.heap.size → ¬ S k) : IsQ ok w1 base g most U W d := h.step (fun k hk hl => hc.block k hl (hS k hk hl))
theorem IsQ.below {ok : Nat → Prop} {w w1 : World} {base g : Nat} {most d : Int} {U W : List (List Int)} (h : IsQ ok w base g most U W d)
    (hc : Below w.heap.size w w1) : IsQ ok w1 base g most U W d := h.step (fun k _ hl => hc.block k hl)
theorem IsQ.mono {ok ok' : Nat → Prop} {w : World} {base g : Nat} {most d : Int} {U W : List (List Int)} (h : IsQ ok w base g most U W d)
    (hm : ∀ k, ok k → ok' k) : IsQ ok' w base g most U W d := by
  obtain ⟨v1, v2, hb, hg, hok, h1, h2, hne⟩ := h
  exact ⟨v1, v2, hb, hg, hm g hok, Kd.Q_mono h1 hm, Kd.Q_mono h2 hm, hne⟩
theorem IsQ.bound {ok : Nat → Prop} {w : World} {base g : Nat} {most d : Int} {U W : List (List Int)} (h : IsQ ok w base g most U W d) :
    IsQ (fun k => ok k ∧ base ≤ k ∧ k < w.heap.size) w base g most U W d := by
  obtain ⟨v1, v2, hb, hg, hok, h1, h2, hne⟩ := h
  exact ⟨v1, v2, hb, hg, ⟨hok, hg, blk_lt hb⟩, Kd.Q_mono (Kd.Q_bound h1) (fun k hk => ⟨hk.1, hk.2.1, hk.2.2.1⟩), Kd.Q_mono (Kd.Q_bound h2) (fun k hk => ⟨hk.1, hk.2.1, hk.2.2.1⟩), hne⟩

/-! ### The readers -/
theorem kept_any {ok : Nat → Prop} {w : World} {base g : Nat} {most d : Int} {U W : List (List Int)} (h : IsQ ok w base g most U W d)
    (hU : U.length ≤ 1000000) (hd0 : 0 ≤ d) (hd1 : d ≤ 1000000) :
    Calls Try.prog 17 #[.pointer (some ⟨g, 0, none⟩)] w fun e w' => e = .returned (.int .i64 (U.length + d)) ∧ ∃ n, w' = w.drewN n := by
  obtain ⟨v1, v2, hb, hg, hok, h1, h2, hne⟩ := h
  obtain ⟨A1, c1, rfl, hl1⟩ := Kd.Q_slice h1
  have HB := Aside0.mk hb
  have c_1 := blk_cell hb 1
  have c_3 := blk_cell hb 3
  simp at c_1 c_3
  clear hb h1 h2 hne hl1
  go_enter Try.func17, Try.ntmps17
  go_wp2
  go_quiet (fail)
  go_wp2
  go_ret
  exact ⟨rfl, _, rfl⟩

theorem under_any {ok : Nat → Prop} {w : World} {base g : Nat} {most d : Int} {U W : List (List Int)} (h : IsQ ok w base g most U W d) :
    Calls Try.prog 16 #[.pointer (some ⟨g, 0, none⟩)] w fun e w' => e = .returned (.int .i64 U.length) ∧ w = w' := by
  obtain ⟨v1, v2, hb, hg, hok, h1, h2, hne⟩ := h
  obtain ⟨A1, c1, rfl, hl1⟩ := Kd.Q_slice h1
  have c_1 := blk_cell hb 1
  simp at c_1
  clear hb h1 h2 hne hl1
  go_enter Try.func16, Try.ntmps16
  go_wp2
  go_ret
  exact ⟨rfl, rfl⟩

theorem waiting_any {ok : Nat → Prop} {w : World} {base g : Nat} {most d : Int} {U W : List (List Int)} (h : IsQ ok w base g most U W d) :
    Calls Try.prog 20 #[.pointer (some ⟨g, 0, none⟩)] w fun e w' => e = .returned (.int .i64 W.length) ∧ w = w' := by
  obtain ⟨v1, v2, hb, hg, hok, h1, h2, hne⟩ := h
  obtain ⟨A2, c2, rfl, hl2⟩ := Kd.Q_slice h2
  have c_1 := blk_cell hb 2
  simp at c_1
  clear hb h1 h2 hne hl2
  go_enter Try.func20, Try.ntmps20
  go_wp2
  go_ret
  exact ⟨rfl, rfl⟩

end Go.Proofs.Ytfhfeelkjpcogaa.Fifo
