/- The law CombineMends: if of all that came no more bits were turned than half of the least that codes are apart says, the list is told. Each theorem says its own conditions. -/
import Derived.Test.YtnejnnfjbhpigaaDoorWt
import Derived.Test.YtnejnnfjbhpigaaDoorWm
import Derived.Test.YtnejnnfjbhpigaaDoorWp
namespace Go.Proofs.YtnejnnfjbhpigaaDoor.Vit
open Go.RowKit Go.Proofs.YtnejnnfjbhpigaaDoorW.PrintWords Go.Proofs.YtnejnnfjbhpigaaDoorW.PrintLast Go.Proofs.YtnejnnfjbhpigaaDoorW.PrintMore Go.Proofs.YtnejnnfjbhpigaaDoor.Mem
attribute [local go_sem] max2_int min2_int max_two min_two max_three min_three max_four min_four   -- for this text's walks alone
set_option linter.unusedVariables false
set_option linter.unusedSimpArgs false

theorem apart_le : ∀ a b : List Nat, apart a b ≤ a.length
  | [], _ => by simp [apart]
  | _ :: _, [] => by simp [apart]
  | x :: a, y :: b => by
    have := apart_le a b
    simp only [apart, List.length_cons]
    split <;> omega
theorem turned_le (c : List Nat) (L : Nat) : ∀ rs : List (Nat × List Nat), (∀ q ∈ rs, q.2.length = L) → turned c L rs ≤ rs.length * L
  | [], _ => by simp [turned]
  | (v, p) :: rs, h => by
    have ih := turned_le c L rs (fun q hq => h q (List.mem_cons_of_mem _ hq))
    have h1 := apart_le p ((List.range L).map fun t => c.getD (place v t) 0)
    have h2 := h (v, p) List.mem_cons_self
    simp only [turned, List.length_cons, Nat.succ_mul]
    simp only at h2
    omega
theorem fourW_set (w : Nat → Nat) {v : Nat} (hv : v < 4) : (fourW w).setIfInBounds v (.int .i64 ((w v : Nat) + 1)) = fourW (bump w v) := by
  match v, hv with
  | 0, _ => rfl
  | 1, _ => rfl
  | 2, _ => rfl
  | 3, _ => rfl
/-- What the loop knows. -/
structure MR (w : World) (b g n : Nat) (m : List Nat) (A1 : Option Addr) (k : Nat) (rs : List (Nat × List Nat)) (W : World) : Prop where
  buf : IsBuf W b (b + 1) n (softs (n + 6) rs) (fun i => cnt i rs)
  few : rs.length ≤ k
  ver : ∀ q ∈ rs, q.1 < 4
  bits : ∀ q ∈ rs, Bits q.2
  len : ∀ q ∈ rs, q.2.length = n + 6
  most : ∀ v, cnt v rs ≤ 7
  box : W.heap[g]? = some (.cells (fourW (fun v => cnt v rs)) 37 (0, 0))
  row : (Kd.int .u8).C W A1 n (ints m)
  below : Below w.heap.size w W
theorem chg_put (w : World) (g v : Nat) (x : Value) : Chg (fun k => k = g) w (w.setCell ⟨g, v, none⟩ x) := Chg.set_ (S := fun k => k = g) (Chg.refl _ _) (fun _ => rfl) _
theorem MR.step {w W : World} {b g n k v : Nat} {m p : List Nat} {A1 : Option Addr} {rs : List (Nat × List Nat)} (hR : MR w b g n m A1 k rs W) {w6 : World} (hv : v < 4) (hI : IsBuf w6 b (b + 1) n (addv (softs (n + 6) rs) v p (n + 6)) (bump (fun i => cnt i rs) v)) (hB : Below w.heap.size w w6) (hC : (Kd.int .u8).C w6 A1 n (ints m))
    (hbox : w6.heap[g]? = some (.cells (fourW (fun v => cnt v rs)) 37 (0, 0))) (hp : Bits p) (hpl : p.length = n + 6) (h7 : cnt v rs < 7) (hg : b + 1 < g) (hbw : w.heap.size ≤ b) (hA : ∀ ad, A1 = some ad → ad.block < b) :
    MR w b g n m A1 (k + 1) ((v, p) :: rs) (w6.setCell ⟨g, v, none⟩ (.int .i64 ((cnt v rs : Nat) + 1))) where
  buf := by
    rw [bump_cnt rs v p] at hI
    exact hI.chg (chg_put _ g v _) (by omega) (by omega)
  few := by have := hR.few; rw [List.length_cons]; omega
  ver := fun q hq => (List.mem_cons.1 hq).elim (fun h => by rw [h]; exact hv) (hR.ver q)
  bits := fun q hq => (List.mem_cons.1 hq).elim (fun h => by rw [h]; exact hp) (hR.bits q)
  len := fun q hq => (List.mem_cons.1 hq).elim (fun h => by rw [h]; exact hpl) (hR.len q)
  most := fun u => by
    have := hR.most u
    simp only [cnt]
    split
    · rename_i h
      subst h
      omega
    · omega
  box := by
    have h := blk_set hbox v (.int .i64 ((cnt v rs : Nat) + 1))
    rw [fourW_set (fun v => cnt v rs) hv, bump_cnt rs v p] at h
    exact h
  row := C_chg hC (chg_put _ g v _) (fun ad had hs => by have := hA ad had; omega)
  below := hB.setCell (by show w.heap.size ≤ g; omega) _
theorem MR.full {w W W' : World} {b g n k : Nat} {m : List Nat} {A1 : Option Addr} {rs : List (Nat × List Nat)} (hR : MR w b g n m A1 k rs W) (hB : Below W.heap.size W W') : MR w b g n m A1 k rs W' :=
  ⟨hR.buf.below hB, hR.few, hR.ver, hR.bits, hR.len, hR.most, below_cell_blk hB hR.box, Kd.C_below hR.row hB, hR.below.trans (hB.mono hR.below.size)⟩
end Go.Proofs.YtnejnnfjbhpigaaDoor.Vit
