/- slices.Sort at numbers: the row in a world that grows; breakPatterns. Each theorem says its own conditions. -/
import Derived.Test.YtjiligngjlejmaaSa
import Derived.Test.YtjiligngjlejmaaMem
import Derived.Test.YtjiligngjlejmaaShelf
import Derived.Deep.CutRange
import Derived.Sort.Walk7
import Derived.Sort.WalkA14
import Derived.BigQuiet
import Derived.CellFam
import Derived.Sort.WalkA
import Derived.Sort.WalkA6
namespace Go.Proofs.Ytjiligngjlejmaa.Srt
open Go.RowKit Go.Sort Go.Proofs.Ytjiligngjlejmaa.Mem Go.Proofs.YtjiligngjlejmaaW.PrintWords Go.Proofs.YtjiligngjlejmaaW.PrintLast Go.Proofs.YtjiligngjlejmaaW.PrintMore
set_option linter.unusedVariables false
set_option linter.unusedSimpArgs false

theorem below_map {n : Nat} {A B : World} (h : RowKit.Below n A B) (blk : Nat) (f : Array Value → Array Value) : RowKit.Below n (mapBlock A blk f) (mapBlock B blk f) :=
  ⟨h.os, h.tape, h.output, by simpa [mapBlock] using h.size, fun i hi => by
    have h1 := h.block i hi
    simp only [mapBlock, Array.getElem?_modify, h1]⟩
theorem below_set2 {n : Nat} {A B : World} (h : RowKit.Below n A B) (blk off : Nat) (v : Value) : RowKit.Below n (A.setCell ⟨blk, off, none⟩ v) (B.setCell ⟨blk, off, none⟩ v) := by
  rw [setCell_eq, setCell_eq]
  exact below_map h blk _
/-- A row of the world, new blocks behind it. -/
structure AtB (w : World) (blk off : Nat) (d0 d : Array Int) (W : World) : Prop where
  ex : ∃ W0, At16 w blk off d0 d W0 ∧ RowKit.Below W0.heap.size W0 W
  lt : blk < w.heap.size
theorem At16.hsize {w W : World} {blk off : Nat} {d0 d : Array Int} (h : At16 w blk off d0 d W) : W.heap.size = w.heap.size := by
  obtain ⟨q, rfl⟩ := h.world
  simp [putRow, mapBlock, Sort.ahead]
theorem AtB.self {w : World} {blk off : Nat} {d : Array Int} (h : Holds e16 w blk off d) (hb : blk < w.heap.size) : AtB w blk off d d w := ⟨⟨w, At16.self h, RowKit.Below.refl _ _⟩, hb⟩
theorem AtB.of {w W : World} {blk off : Nat} {d0 d : Array Int} (h : At16 w blk off d0 d W) (hb : blk < w.heap.size) : AtB w blk off d0 d W := ⟨⟨W, h, RowKit.Below.refl _ _⟩, hb⟩
theorem AtB.size {w W : World} {blk off : Nat} {d0 d : Array Int} (h : AtB w blk off d0 d W) : d.size = d0.size := by
  obtain ⟨W0, h0, _⟩ := h.ex
  exact h0.size
theorem AtB.here {w W : World} {blk off : Nat} {d0 d : Array Int} (h : AtB w blk off d0 d W) : Holds e16 W blk off d := by
  obtain ⟨W0, h0, hB⟩ := h.ex
  intro j hj
  have h1 := h0.here j hj
  have hb := hB.block blk (World.block_lt_of_cell? W0 ⟨blk, off + j, none⟩ h1.1)
  exact ⟨(World.cell?_of_block (a := ⟨blk, off + j, none⟩) hb).trans h1.1, (World.frozen?_of_block (a := ⟨blk, off + j, none⟩) hb).trans h1.2⟩
theorem AtB.ge {w W : World} {blk off : Nat} {d0 d : Array Int} (h : AtB w blk off d0 d W) : w.heap.size ≤ W.heap.size := by
  obtain ⟨W0, h0, hB⟩ := h.ex
  have := h0.hsize
  have := hB.size
  omega
theorem AtB.below {w W W' : World} {blk off : Nat} {d0 d : Array Int} (h : AtB w blk off d0 d W) (hB : RowKit.Below W.heap.size W W') : AtB w blk off d0 d W' := by
  obtain ⟨W0, h0, hB0⟩ := h.ex
  exact ⟨⟨W0, h0, hB0.trans (hB.mono hB0.size)⟩, h.lt⟩
theorem AtB.then {w W W' : World} {blk off : Nat} {d0 d d' : Array Int} (h : AtB w blk off d0 d W) (h2 : At16 W blk off d d' W') : AtB w blk off d0 d' W' := by
  obtain ⟨W0, h0, hB⟩ := h.ex
  obtain ⟨q, hq⟩ := h2.world
  refine ⟨⟨putRow e16 (Sort.ahead W0 q) blk off d', h0.then ⟨h0.here, h2.size, q, rfl⟩, ?_⟩, h.lt⟩
  rw [hq]
  have hs : (putRow e16 (Sort.ahead W0 q) blk off d').heap.size = W0.heap.size := by simp [putRow, mapBlock, Sort.ahead]
  rw [hs]
  exact below_map (A := Sort.ahead W0 q) (B := Sort.ahead W q) ⟨hB.os, hB.tape, hB.output, hB.size, hB.block⟩ blk _
theorem AtB.thenB {w W W' : World} {blk off : Nat} {d0 d d' : Array Int} (h : AtB w blk off d0 d W) (h2 : AtB W blk off d d' W') : AtB w blk off d0 d' W' := by
  obtain ⟨W0, h0, hB⟩ := h2.ex
  exact (h.then h0).below hB
theorem AtB.drewN {w W : World} {blk off : Nat} {d0 d : Array Int} (h : AtB w blk off d0 d W) (q : Nat) : AtB w blk off d0 d (W.drewN q) := h.below (pw_below_drewN (RowKit.Below.refl _ _) q)
theorem AtB.swap {w W : World} {blk off : Nat} {d0 d : Array Int} (h : AtB w blk off d0 d W) (q j k : Nat) (hj : j < d0.size) (hk : k < d0.size) :
    AtB w blk off d0 (swp d j k) (((W.drewN q).setCell ⟨blk, off + j, none⟩ (e16 d[k]!)).setCell ⟨blk, off + k, none⟩ (e16 d[j]!)) := by
  obtain ⟨W0, h0, hB⟩ := h.ex
  refine ⟨⟨_, h0.swap q j k hj hk, ?_⟩, h.lt⟩
  have hs : ((((W0.drewN q).setCell ⟨blk, off + j, none⟩ (e16 d[k]!)).setCell ⟨blk, off + k, none⟩ (e16 d[j]!))).heap.size = W0.heap.size := by simp [World.setCell, World.drewN]
  rw [hs]
  exact below_set2 (below_set2 (A := W0.drewN q) (B := W.drewN q) ⟨hB.os, hB.tape, hB.output, hB.size, hB.block⟩ _ _ _) _ _ _
end Go.Proofs.Ytjiligngjlejmaa.Srt
