/- Plain words: what the row's listed variable (conv.taps) gives a walk. -/
import Derived.Test.YtnejnnfjbhpigaaDoorTie
import Derived.Test.YtnejnnfjbhpigaaDoorOpen
import Derived.Test.YtnejnnfjbhpigaaDoorVa
import Derived.ProofKit
import Derived.OpenShut
import Derived.LaidMore
import Derived.Lay
import Derived.SevenTiedAt
import Derived.Stop.Joined
namespace Go.Proofs.YtnejnnfjbhpigaaDoor.Vit
open Go.RowKit
set_option maxRecDepth 100000 in
/-- The taps' cells. -/
theorem taps_of_laid {W : World} (h : laidMetH Tryd.prog [("shuttle/conv.taps", Rows.laid_shuttle_conv_taps)] W) : Taps W := by
  rw [MakeChecks.laidMetH_plain _ _ _ (by kernel_rfl)] at h
  obtain ⟨ps, ⟨g, t, cs, fuel, p, q, hg, ht, hv, hd, _, _⟩, _, _⟩ := h
  obtain rfl := Option.some.inj ((show Tryd.prog.globalNamed "shuttle/conv.taps" = some 0 by kernel_rfl).symm.trans hg)
  obtain rfl := Option.some.inj ((show (Tryd.prog.globals[0]?).map (·.type) = some 152 by kernel_rfl).symm.trans ht)
  have c5 : Tryd.prog.cellsOf 134 = 1 := by kernel_rfl
  have c29 : Tryd.prog.cellsOf 152 = 4 := by kernel_rfl
  obtain ⟨xs, m, _, ex, hlen, hl, hel⟩ := DataW.trod_array Tryd.underlying152 hd
  rw [c29] at hlen
  obtain ⟨l⟩ := cs
  have hvar : W.var? Tryd.prog "shuttle/conv.taps" = some #[.int .u64 79, .int .u64 87, .int .u64 109, .int .u64 121] := by
    match l, hlen with
    | [a, b, c, d], _ =>
      match xs, hl with
      | [x0, x1, x2, x3], _ =>
        have e3 := (DataW.agg.inj (Prod.mk.inj ex).1)
        simp only [List.map_cons, List.map_nil, List.cons.injEq, and_true] at e3
        have k0 := hel 0 (by omega); have k1 := hel 1 (by omega); have k2 := hel 2 (by omega); have k3 := hel 3 (by omega)
        rw [c5] at k0 k1 k2 k3
        obtain ⟨z0, a0, b0, _⟩ := DataW.trod_int Tryd.underlying134 k0
        obtain ⟨z1, a1, b1, _⟩ := DataW.trod_int Tryd.underlying134 k1
        obtain ⟨z2, a2, b2, _⟩ := DataW.trod_int Tryd.underlying134 k2
        obtain ⟨z3, a3, b3, _⟩ := DataW.trod_int Tryd.underlying134 k3
        rw [hv]
        simp_all
  have h0 := World.var?_cell hg hvar 0
  have h1 := World.var?_cell hg hvar 1
  have h2 := World.var?_cell hg hvar 2
  have h3 := World.var?_cell hg hvar 3
  refine ⟨h0, h1, h2, h3, ?_⟩
  refine Nat.lt_of_not_le fun hle => ?_
  have hs : W.heap.size = 0 := by omega
  have h0' : W.cell? ⟨0, 0, none⟩ = some (.int .u64 79) := h0
  unfold World.cell? at h0'
  rw [Array.getElem?_eq_none (by omega)] at h0'
  cases h0'
/-- A byte that reads as data is none below nought. -/
theorem wf_u8 {v : Int} (h : (Lit.int .u8 v).wf = true) : 0 ≤ v ∧ v ≤ 255 := by
  have h2 : IntKind.u8.min ≤ v ∧ v ≤ IntKind.u8.max := by simpa [Lit.wf] using h
  have e1 : IntKind.u8.min = 0 := by decide
  have e2 : IntKind.u8.max = 255 := by decide
  rw [e1, e2] at h2
  exact h2
end Go.Proofs.YtnejnnfjbhpigaaDoor.Vit
