/- The walk of the document's least detour (shuttleref12.Least): what it leaves is a potential. Each theorem says its own conditions. -/
import Derived.Test.YtnejnnfjbhpigaaDoorWm
import Derived.Test.YtnejnnfjbhpigaaDoorVf
import Derived.Deep.CutRange
import Derived.BigQuiet
import Derived.BigRegion
namespace Go.Proofs.YtnejnnfjbhpigaaDoor.Vit
open Go.RowKit Go.Proofs.YtnejnnfjbhpigaaDoorW.PrintWords Go.Proofs.YtnejnnfjbhpigaaDoorW.PrintLast Go.Proofs.YtnejnnfjbhpigaaDoorW.PrintMore Go.Proofs.YtnejnnfjbhpigaaDoor.Mem
attribute [local go_sem] max2_int min2_int max_two min_two max_three min_three max_four min_four   -- for this text's walks alone
set_option linter.unusedVariables false
set_option linter.unusedSimpArgs false

/-- A state and a bit, by the edge's number. -/
def zed (k : Nat) : Nat := k / 2 + 64 * (k % 2)
/-- An edge's cells, by its number. -/
def edgeK (k : Nat) : List Value := [.int .i64 ((k / 2 : Nat) : Int), .int .i64 ((zed k / 2 : Nat) : Int), .int .u8 ((k % 2 : Nat) : Int), .int .u8 (ob (zed k) 0 : Nat), .int .u8 (ob (zed k) 1 : Nat), .int .u8 (ob (zed k) 2 : Nat), .int .u8 (ob (zed k) 3 : Nat)]
theorem edgeK_one (k : Nat) : (edgeK k).toArray.all (·.oneCell') = true := by simp [edgeK, Value.oneCell']
theorem edgeK_is (s i : Nat) (hi : i ≤ 1) : edgeO (s : Int) (((s + 64 * i) / 2 : Nat) : Int) (i : Int) (ob (s + 64 * i)) = (edgeK (2 * s + i)).toArray := by
  have e1 : zed (2 * s + i) = s + 64 * i := by unfold zed; omega
  have e2 : (2 * s + i) / 2 = s := by omega
  have e3 : (2 * s + i) % 2 = i := by omega
  unfold edgeK
  rw [e1, e2, e3]
/-- What is laid of the edges, and of their weights. -/
def LD (w : World) (wf : Nat → Nat) (n m : Nat) (W : World) : Prop :=
  W.heap[w.heap.size]? = some (.cells (fourW wf) 37 (0, 0)) ∧ (∃ E, W.heap[w.heap.size + 1]? = some (.cells E 71 (0, 0)) ∧ E.size = 896 ∧ ∀ k, k < n → ∀ j, j < 7 → E[7 * k + j]? = (edgeK k)[j]?) ∧
    (∃ V, W.heap[w.heap.size + 1 + 1]? = some (.cells V 73 (0, 0)) ∧ V.size = 512 ∧ ∀ k, k < m → V[k]? = some (.int .i64 (wgt wf (k % 4) (zed (k / 4)) : Nat))) ∧ w.heap.size + 3 ≤ W.heap.size ∧ Below w.heap.size w W
theorem zeroL87 : Tryd.zeroCells71.size = 896 := by kernel_rfl
theorem zeroL98 : Tryd.zeroCells73.size = 512 := by kernel_rfl
theorem zeroL100 : Tryd.zeroCells76.size = 256 := by kernel_rfl
theorem info85 : (Tryd.prog.info? 69).map (·.size) = some 7 := by kernel_rfl

theorem edgeK1 : edgeK 1 = [.int .i64 0, .int .i64 32, .int .u8 1, .int .u8 (ob 64 0 : Nat), .int .u8 (ob 64 1 : Nat), .int .u8 (ob 64 2 : Nat), .int .u8 (ob 64 3 : Nat)] := rfl
theorem store_cells {W : World} {b off : Nat} {A : Array Value} {T : TypeId} {vs : List Value} (h : W.heap[b]? = some (.cells A T (0, 0))) (hl : off + vs.length ≤ A.size) (h1 : vs.toArray.all (·.oneCell') = true) :
    (storeCells ⟨b, off, none⟩ vs).run Tryd.prog W = .ok () (W.setCells b off vs) := by
  have h1' : ∀ v ∈ vs, v.oneCell' = true := fun v hv => Array.all_eq_true_iff_forall_mem.1 h1 v (by simpa using hv)
  have := run_storeCells_cells (P := Tryd.prog) b off vs 0 W (fun j hj => by rw [Nat.add_zero, blk_cell h]; simp; omega) (fun j hj => blk_frozen h _) h1'
  rw [Nat.add_zero] at this
  exact this
theorem LD.first (w : World) (wf : Nat → Nat) : LD w wf 0 0 (((w.alloc (.cells (fourW wf) 37)).alloc (.cells Tryd.zeroCells71 71)).alloc (.cells Tryd.zeroCells73 73)) := by
  have h1 := heap_alloc_new w (.cells (fourW wf) 37)
  have h2 := heap_alloc_new (w.alloc (.cells (fourW wf) 37)) (.cells Tryd.zeroCells71 71)
  have h3 := heap_alloc_new ((w.alloc (.cells (fourW wf) 37)).alloc (.cells Tryd.zeroCells71 71)) (.cells Tryd.zeroCells73 73)
  simp only [World.size_alloc] at h2 h3
  exact ⟨blk_alloc (blk_alloc h1 _) _, ⟨_, blk_alloc h2 _, zeroL87, fun k hk => by omega⟩, ⟨_, h3, zeroL98, fun k hk => by omega⟩, by simp only [World.size_alloc]; omega, below_alloc (below_alloc (below_alloc (Below.refl _ _) _) _) _⟩
theorem LD.below {w W W' : World} {wf : Nat → Nat} {n m : Nat} (h : LD w wf n m W) (hB : Below W.heap.size W W') : LD w wf n m W' := by
  obtain ⟨h1, ⟨E, h2, h3⟩, ⟨V, h4, h5⟩, h6, h7⟩ := h
  exact ⟨below_cell_blk hB h1, ⟨E, below_cell_blk hB h2, h3⟩, ⟨V, below_cell_blk hB h4, h5⟩, Nat.le_trans h6 hB.size, h7.trans (hB.mono h7.size)⟩
/-- One edge more. -/
theorem LD.edge {w W : World} {wf : Nat → Nat} {n m : Nat} (h : LD w wf n m W) (hn : n < 128) : LD w wf (n + 1) m (W.setCells (w.heap.size + 1) (7 * n) (edgeK n)) := by
  obtain ⟨h1, ⟨E, h2, h3, h3'⟩, ⟨V, h4, h5⟩, h6, h7⟩ := h
  obtain ⟨E', g1, g2, g3⟩ := setCells_row (edgeK n) (7 * n) W E h2 (by rw [h3]; show 7 * n + 7 ≤ 896; omega)
  have hl : (edgeK n).length = 7 := rfl
  have hel : E.toList.length = 896 := by simpa using h3
  have htl : (E.toList.take (7 * n)).length = 7 * n := by rw [List.length_take]; omega
  refine ⟨by rw [setCells_far _ _ _ (by omega)]; exact h1, ⟨E', g1, by omega, fun k hk j hj => ?_⟩, ⟨V, by rw [setCells_far _ _ _ (by omega)]; exact h4, h5⟩, by rw [(setCells_same _ _ _ _).2.2.2]; exact h6, below_setCells (by omega) _ _ _ h7⟩
  rw [← Array.getElem?_toList, g3, List.append_assoc]
  by_cases hkn : k < n
  · rw [List.getElem?_append_left (by omega), List.getElem?_take_of_lt (by omega), Array.getElem?_toList]
    exact h3' k hkn j hj
  · have hkk : k = n := by omega
    rw [hkk, List.getElem?_append_right (by omega), htl, List.getElem?_append_left (by omega), Nat.add_sub_cancel_left]
/-- One weight more. -/
theorem LD.weight {w W : World} {wf : Nat → Nat} {n m : Nat} (h : LD w wf n m W) (hm : m < 512) : LD w wf n (m + 1) (W.setCell ⟨w.heap.size + 1 + 1, m, none⟩ (.int .i64 (wgt wf (m % 4) (zed (m / 4)) : Nat))) := by
  obtain ⟨h1, ⟨E, h2, h3⟩, ⟨V, h4, h5, h5'⟩, h6, h7⟩ := h
  refine ⟨by rw [Below.heap_setCell _ _ _ _ (by show w.heap.size ≠ w.heap.size + 1 + 1; omega)]; exact h1, ⟨E, by rw [Below.heap_setCell _ _ _ _ (by show w.heap.size + 1 ≠ w.heap.size + 1 + 1; omega)]; exact h2, h3⟩, ⟨_, blk_set h4 _ _, by simpa using h5, fun k hk => ?_⟩, by simpa [World.setCell] using h6, h7.setCell (by show w.heap.size ≤ w.heap.size + 1 + 1; omega) _⟩
  by_cases hkm : k < m
  · rw [Array.getElem?_setIfInBounds_ne (by omega)]
    exact h5' k hkm
  · obtain rfl : k = m := by omega
    rw [Array.getElem?_setIfInBounds_self_of_lt (by omega)]

/-- The places' numbers as cells. -/
def natA (A : List Nat) : Array Value := (A.map fun (x : Nat) => Value.int .i64 (x : Int)).toArray
theorem natA_get {A : List Nat} {k : Nat} (h : k < A.length) : (natA A)[k]? = some (.int .i64 (A.getD k 0 : Nat)) := by
  unfold natA
  rw [List.getElem?_toArray, List.getElem?_map, List.getElem?_eq_getElem h, List.getD_eq_getElem?_getD, List.getElem?_eq_getElem h]
  rfl
theorem natA_set (A : List Nat) (k x : Nat) : (natA A).setIfInBounds k (.int .i64 (x : Nat)) = natA (A.set k x) := by
  unfold natA
  simp [List.map_set]
/-- The places' block is being filled. -/
def AF (w : World) (wf : Nat → Nat) (g m : Nat) (W : World) : Prop :=
  LD w wf 128 512 W ∧ (∃ X, W.heap[g]? = some (.cells X 76 (0, 0)) ∧ X.size = 256 ∧ ∀ k, k < m → X[k]? = some (.int .i64 1073741824)) ∧ w.heap.size + 3 ≤ g
/-- The places' numbers. -/
def AT (w : World) (wf : Nat → Nat) (g : Nat) (A : List Nat) (W : World) : Prop :=
  LD w wf 128 512 W ∧ W.heap[g]? = some (.cells (natA A) 76 (0, 0)) ∧ A.length = 256 ∧ (∀ x ∈ A, x ≤ 1073741824) ∧ w.heap.size + 3 ≤ g
theorem LD.set_ {w W : World} {wf : Nat → Nat} {n m g k : Nat} (h : LD w wf n m W) (hg : w.heap.size + 3 ≤ g) (v : Value) : LD w wf n m (W.setCell ⟨g, k, none⟩ v) := by
  obtain ⟨h1, ⟨E, h2, h3⟩, ⟨V, h4, h5⟩, h6, h7⟩ := h
  exact ⟨by rw [Below.heap_setCell _ _ _ _ (by show w.heap.size ≠ g; omega)]; exact h1, ⟨E, by rw [Below.heap_setCell _ _ _ _ (by show w.heap.size + 1 ≠ g; omega)]; exact h2, h3⟩, ⟨V, by rw [Below.heap_setCell _ _ _ _ (by show w.heap.size + 1 + 1 ≠ g; omega)]; exact h4, h5⟩, by simpa [World.setCell] using h6, h7.setCell (by show w.heap.size ≤ g; omega) _⟩
theorem AF.next {w W : World} {wf : Nat → Nat} {g m : Nat} (h : AF w wf g m W) (hm : m < 256) : AF w wf g (m + 1) (W.setCell ⟨g, m, none⟩ (.int .i64 1073741824)) := by
  obtain ⟨h1, ⟨X, h2, h3, h4⟩, h5⟩ := h
  refine ⟨h1.set_ h5 _, ⟨_, blk_set h2 _ _, by simpa using h3, fun k hk => ?_⟩, h5⟩
  by_cases hkm : k < m
  · rw [Array.getElem?_setIfInBounds_ne (by omega)]
    exact h4 k hkm
  · obtain rfl : k = m := by omega
    rw [Array.getElem?_setIfInBounds_self_of_lt (by omega)]
/-- Nothing is come to. -/
def fars : List Nat := List.replicate 256 1073741824
theorem fars_len : fars.length = 256 := List.length_replicate
theorem fars_in : ∀ x ∈ fars, x ≤ 1073741824 := fun x hx => by unfold fars at hx; rw [List.mem_replicate] at hx; omega
theorem fars_get {k : Nat} (h : k < 256) : fars.getD k 0 = 1073741824 := by
  have hl : k < fars.length := by rw [fars_len]; exact h
  rw [List.getD_eq_getElem?_getD, List.getElem?_eq_getElem hl]
  exact List.getElem_replicate hl
theorem AF.done {w W : World} {wf : Nat → Nat} {g : Nat} (h : AF w wf g 256 W) : AT w wf g fars W := by
  obtain ⟨h1, ⟨X, h2, h3, h4⟩, h5⟩ := h
  have e : X = natA fars := by
    apply Array.ext_getElem?
    intro k
    by_cases hk : k < 256
    · rw [h4 k hk, natA_get (by rw [fars_len]; exact hk), fars_get hk]
      rfl
    · rw [Array.getElem?_eq_none (by omega), Array.getElem?_eq_none (by unfold natA; rw [List.size_toArray, List.length_map, fars_len]; omega)]
  subst e
  exact ⟨h1, h2, fars_len, fars_in, h5⟩
theorem AT.below {w W W' : World} {wf : Nat → Nat} {g : Nat} {A : List Nat} (h : AT w wf g A W) (hB : Below W.heap.size W W') : AT w wf g A W' :=
  ⟨h.1.below hB, below_cell_blk hB h.2.1, h.2.2⟩
theorem AT.set_ {w W : World} {wf : Nat → Nat} {g : Nat} {A : List Nat} (h : AT w wf g A W) (k x : Nat) (hx : x ≤ 1073741824) : AT w wf g (A.set k x) (W.setCell ⟨g, k, none⟩ (.int .i64 (x : Nat))) := by
  obtain ⟨h1, h2, h3, h4, h5⟩ := h
  refine ⟨h1.set_ h5 _, ?_, by rw [List.length_set]; exact h3, fun y hy => ?_, h5⟩
  · rw [← natA_set]
    exact blk_set h2 _ _
  · rcases List.mem_or_eq_of_mem_set hy with h | h
    · exact h4 y h
    · omega
theorem AT.cell {w W : World} {wf : Nat → Nat} {g : Nat} {A : List Nat} (h : AT w wf g A W) (k : Nat) (hk : k < 256) : W.cell? ⟨g, k, none⟩ = some (.int .i64 (A.getD k 0 : Nat)) :=
  (blk_cell h.2.1 k).trans (natA_get (by rw [h.2.2.1]; exact hk))
theorem AT.frozen {w W : World} {wf : Nat → Nat} {g : Nat} {A : List Nat} (h : AT w wf g A W) (k : Nat) : W.frozen? ⟨g, k, none⟩ = false := blk_frozen h.2.1 k
theorem AT.le {w W : World} {wf : Nat → Nat} {g : Nat} {A : List Nat} (h : AT w wf g A W) (k : Nat) : A.getD k 0 ≤ 1073741824 := by
  rw [List.getD_eq_getElem?_getD]
  cases hq : A[k]? with
  | none => simp
  | some x => exact h.2.2.2.1 x (List.mem_of_getElem? hq)
theorem LD.ecell {w W : World} {wf : Nat → Nat} {m : Nat} (h : LD w wf 128 m W) (k : Nat) (hk : k < 128) (j : Nat) (hj : j < 7) : W.cell? ⟨w.heap.size + 1, 7 * k + j, none⟩ = (edgeK k)[j]? := by
  obtain ⟨_, ⟨E, hE, _, hEk⟩, _⟩ := h
  rw [blk_cell hE]
  exact hEk k hk j hj
theorem LD.wcell {w W : World} {wf : Nat → Nat} {n : Nat} (h : LD w wf n 512 W) (k : Nat) (hk : k < 512) : W.cell? ⟨w.heap.size + 1 + 1, k, none⟩ = some (.int .i64 (wgt wf (k % 4) (zed (k / 4)) : Nat)) := by
  obtain ⟨_, _, ⟨V, hV, _, hVk⟩, _⟩ := h
  rw [blk_cell hV]
  exact hVk k hk

/-- A step is relaxed, by its number. -/
def Rlx (wf : Nat → Nat) (A : List Nat) (best q : Nat) : Prop :=
  A.getD (q / 2) 0 < 1073741824 → if (q / 8 + 64 * (q % 2)) / 2 = 0 then best ≤ A.getD (q / 2) 0 + wgt wf ((q / 2) % 4) (q / 8 + 64 * (q % 2))
    else A.getD ((q / 8 + 64 * (q % 2)) / 2 * 4 + ((q / 2) % 4 + 1) % 4) 0 ≤ A.getD (q / 2) 0 + wgt wf ((q / 2) % 4) (q / 8 + 64 * (q % 2))
theorem sum_min (a q b : Nat) : (if (a : Int) + (q : Int) < (b : Int) then (a : Int) + (q : Int) else (b : Int)) = ((if a + q < b then a + q else b : Nat) : Int) := by split <;> split <;> omega
/-- What a pass knows, so many steps on. -/
def Inv (w : World) (wf : Nat → Nat) (g : Nat) (A0 : List Nat) (n : Nat) (A : List Nat) (best : Nat) (c : Bool) (W : World) : Prop :=
  AT w wf g A W ∧ best ≤ 1073741824 ∧ (∀ u, u < 4 → A.getD (128 + (u + 1) % 4) 0 ≤ wgt wf u 64) ∧ (c = true → A.sum < A0.sum) ∧ (c = false → A = A0 ∧ ∀ q, 8 ≤ q → q < n → Rlx wf A best q)
theorem Inv.below {w W W' : World} {wf : Nat → Nat} {g n best : Nat} {A0 A : List Nat} {c : Bool} (h : Inv w wf g A0 n A best c W) (hB : Below W.heap.size W W') : Inv w wf g A0 n A best c W' := ⟨h.1.below hB, h.2⟩
theorem Inv.more {w W : World} {wf : Nat → Nat} {g n best : Nat} {A0 A : List Nat} {c : Bool} (h : Inv w wf g A0 n A best c W) (hr : Rlx wf A best n) : Inv w wf g A0 (n + 1) A best c W :=
  ⟨h.1, h.2.1, h.2.2.1, h.2.2.2.1, fun hc => ⟨(h.2.2.2.2 hc).1, fun q h8 hq => by
    by_cases hqn : q = n
    · rw [hqn]; exact hr
    · exact (h.2.2.2.2 hc).2 q h8 (by omega)⟩⟩
theorem Inv.far {w W : World} {wf : Nat → Nat} {g s t best : Nat} {A0 A : List Nat} {c : Bool} (h : Inv w wf g A0 (8 * s + 2 * t) A best c W) (ha : A.getD (s * 4 + t) 0 = 1073741824) : Inv w wf g A0 (8 * s + 2 * (t + 1)) A best c W := by
  have h1 := h.more (fun hlt => by rw [show (8 * s + 2 * t) / 2 = s * 4 + t by omega] at hlt; omega)
  exact h1.more (fun hlt => by rw [show (8 * s + 2 * t + 1) / 2 = s * 4 + t by omega] at hlt; omega)
theorem Inv.best {w W : World} {wf : Nat → Nat} {g s t i best : Nat} {A0 A : List Nat} {c : Bool} (h : Inv w wf g A0 (8 * s + 2 * t + i) A best c W) (ht : t < 4) (hi : i < 2) (hd : (s + 64 * i) / 2 = 0) :
    Inv w wf g A0 (8 * s + 2 * t + (i + 1)) A (if A.getD (s * 4 + t) 0 + wgt wf t (s + 64 * i) < best then A.getD (s * 4 + t) 0 + wgt wf t (s + 64 * i) else best) c W := by
  obtain ⟨b', hb'⟩ : ∃ b', (if A.getD (s * 4 + t) 0 + wgt wf t (s + 64 * i) < best then A.getD (s * 4 + t) 0 + wgt wf t (s + 64 * i) else best) = b' := ⟨_, rfl⟩
  have hb1 : b' ≤ best := by rw [← hb']; split <;> omega
  have hb2 : b' ≤ A.getD (s * 4 + t) 0 + wgt wf t (s + 64 * i) := by rw [← hb']; split <;> omega
  rw [hb']
  have h1 : Inv w wf g A0 (8 * s + 2 * t + i) A b' c W := ⟨h.1, Nat.le_trans hb1 h.2.1, h.2.2.1, h.2.2.2.1, fun hc => ⟨(h.2.2.2.2 hc).1, fun q h8 hq hlt => by
    have := (h.2.2.2.2 hc).2 q h8 hq hlt
    split
    · rename_i hz
      rw [if_pos hz] at this
      omega
    · rename_i hz
      rw [if_neg hz] at this
      exact this⟩⟩
  refine h1.more (fun hlt => ?_)
  rw [show (8 * s + 2 * t + i) / 2 = s * 4 + t by omega, show (8 * s + 2 * t + i) / 8 = s by omega, show (8 * s + 2 * t + i) % 2 = i by omega, show (s * 4 + t) % 4 = t by omega, if_pos hd]
  exact hb2
theorem Inv.keep {w W : World} {wf : Nat → Nat} {g s t i best : Nat} {A0 A : List Nat} {c : Bool} (h : Inv w wf g A0 (8 * s + 2 * t + i) A best c W) (ht : t < 4) (hi : i < 2) (hd : (s + 64 * i) / 2 ≠ 0)
    (hk : ¬ A.getD (s * 4 + t) 0 + wgt wf t (s + 64 * i) < A.getD ((s + 64 * i) / 2 * 4 + (t + 1) % 4) 0) : Inv w wf g A0 (8 * s + 2 * t + (i + 1)) A best c W := by
  refine h.more (fun hlt => ?_)
  rw [show (8 * s + 2 * t + i) / 2 = s * 4 + t by omega, show (8 * s + 2 * t + i) / 8 = s by omega, show (8 * s + 2 * t + i) % 2 = i by omega, show (s * 4 + t) % 4 = t by omega, if_neg hd]
  omega
theorem getD_set_le {A : List Nat} {k x : Nat} (h : x ≤ A.getD k 0) (j : Nat) : (A.set k x).getD j 0 ≤ A.getD j 0 := by
  rw [List.getD_eq_getElem?_getD, List.getElem?_set]
  split
  · rename_i hkj
    subst hkj
    split
    · exact h
    · simp
  · rw [← List.getD_eq_getElem?_getD]
    exact Nat.le_refl _
theorem Inv.turn {w W : World} {wf : Nat → Nat} {g n k x best : Nat} {A0 A : List Nat} {c : Bool} (h : Inv w wf g A0 n A best c W) (m : Nat) (hk : k < 256) (hx : x < A.getD k 0) :
    Inv w wf g A0 m (A.set k x) best true (W.setCell ⟨g, k, none⟩ (.int .i64 (x : Nat))) := by
  have hle := h.1.le k
  refine ⟨h.1.set_ k x (by omega), h.2.1, fun u hu => Nat.le_trans (getD_set_le (by omega) _) (h.2.2.1 u hu), fun _ => ?_, fun hc => by simp at hc⟩
  have h1 := sum_set_lt A k x (by rw [h.1.2.2.1]; exact hk) hx
  cases hcc : c with
  | true => exact Nat.lt_trans h1 (h.2.2.2.1 hcc)
  | false => rw [← (h.2.2.2.2 hcc).1]; exact h1
/-- The sum of the places' numbers. -/
def sumAt (g : Nat) (W : World) : Nat := match W.heap[g]? with
  | some (.cells X _ _) => (X.toList.map fun v => (intOf v).toNat).sum
  | _ => 0
theorem AT.sum {w W : World} {wf : Nat → Nat} {g : Nat} {A : List Nat} (h : AT w wf g A W) : sumAt g W = A.sum := by
  unfold sumAt
  rw [h.2.1]
  show ((natA A).toList.map fun v => (intOf v).toNat).sum = A.sum
  unfold natA
  have e : ∀ l : List Nat, (l.map fun (x : Nat) => Value.int .i64 (x : Int)).map (fun v => (intOf v).toNat) = l := fun l => by
    induction l with
    | nil => rfl
    | cons a l ih => rw [List.map_cons, List.map_cons, ih]; rfl
  exact congrArg List.sum (e A)
/-- What stands between two passes. -/
def Pas (w : World) (wf : Nat → Nat) (g : Nat) (A : List Nat) (best : Nat) (c : Bool) (W : World) : Prop :=
  AT w wf g A W ∧ best ≤ 1073741824 ∧ (∀ u, u < 4 → A.getD (128 + (u + 1) % 4) 0 ≤ wgt wf u 64) ∧ (c = false → ∀ q, 8 ≤ q → q < 512 → Rlx wf A best q)
theorem Pas.inv {w W : World} {wf : Nat → Nat} {g best : Nat} {A : List Nat} {c : Bool} (h : Pas w wf g A best c W) : Inv w wf g A 8 A best false W :=
  ⟨h.1, h.2.1, h.2.2.1, fun hc => by simp at hc, fun _ => ⟨rfl, fun q h8 hq => by omega⟩⟩
theorem Inv.pas {w W : World} {wf : Nat → Nat} {g best : Nat} {A0 A : List Nat} {c : Bool} (h : Inv w wf g A0 512 A best c W) : Pas w wf g A best c W :=
  ⟨h.1, h.2.1, h.2.2.1, fun hc => (h.2.2.2.2 hc).2⟩
/-- A bool as a number. -/
def cb : Value → Nat
  | .bool true => 1
  | _ => 0
theorem Inv.less {w W : World} {wf : Nat → Nat} {g best : Nat} {A0 A : List Nat} {c : Bool} (h : Inv w wf g A0 512 A best c W) : 2 * sumAt g W + cb (.bool c) < 2 * A0.sum + 1 := by
  rw [h.1.sum]
  cases hc : c with
  | true =>
    have := h.2.2.2.1 hc
    show 2 * A.sum + 1 < 2 * A0.sum + 1
    omega
  | false =>
    have := (h.2.2.2.2 hc).1
    subst this
    show 2 * A.sum + 0 < 2 * A.sum + 1
    omega
theorem Pas.pot {w W : World} {wf : Nat → Nat} {g best : Nat} {A : List Nat} (h : Pas w wf g A best false W) : Pot wf best (fun s t => A.getD (s * 4 + t) 0) where
  start t ht := by
    have := h.2.2.1 t ht
    show A.getD (32 * 4 + (t + 1) % 4) 0 ≤ _
    rw [show 32 * 4 + (t + 1) % 4 = 128 + (t + 1) % 4 by omega]
    exact this
  step s t i hs1 hs ht hi hlt := by
    have := h.2.2.2 rfl (8 * s + 2 * t + i) (by omega) (by omega)
    unfold Rlx at this
    rw [show (8 * s + 2 * t + i) / 2 = s * 4 + t by omega, show (8 * s + 2 * t + i) / 8 = s by omega, show (8 * s + 2 * t + i) % 2 = i by omega, show (s * 4 + t) % 4 = t by omega] at this
    exact this hlt

set_option maxHeartbeats 6400000 in
set_option maxRecDepth 1000000 in
theorem Least_any (wf : Nat → Nat) (hw : ∀ v, wf v ≤ 7) (w : World) : Calls Tryd.prog 15 #[.agg (fourW wf)] w fun e w' => ∃ best at_, e = .returned (.int .i64 (best : Nat)) ∧ Pot wf best at_ ∧ Below w.heap.size w w' := by
  have HT := Aside0.mk hw
  clear hw
  go_enter Tryd.func15, Tryd.ntmps15
  go_wp2_with fail
  go_loopw [6] (fun x wr => ∃ s : Nat, x = .int .i64 s ∧ s ≤ 64 ∧ LD w wf (2 * s) (8 * s) wr) (fun x _ => 64 - (intOf x).toNat)
  case atStart => exact ⟨0, rfl, by omega, LD.first w wf⟩
  case round =>
    obtain ⟨s, rfl, hs64, hLD⟩ := hrel
    by_cases hs : s < 64
    · have hs' : (s : Int) < 64 := by omega
      have HL := Aside0.mk hLD
      clear hLD
      go_wp2_with fail
      go_loopw [7] (fun x wr => ∃ i : Nat, x = .int .i64 i ∧ i ≤ 2 ∧ LD w wf (2 * s + i) (4 * (2 * s + i)) wr) (fun x _ => 2 - (intOf x).toNat)
      case atStart => exact ⟨0, rfl, by omega, by have h := HL.out; rw [show 8 * s = 4 * (2 * s) by omega] at h; exact h⟩
      case round =>
        clear HL
        obtain ⟨i, rfl, hi2, hLD⟩ := hrel
        by_cases hi : i < 2
        · have hi' : (i : Int) < 2 := by omega
          have HL := Aside0.mk hLD
          clear hLD
          obtain ⟨_, ⟨E, hE, hEs, _⟩, _, _, _⟩ := HL.out
          have hst : ∀ W, Calls Tryd.prog 34 #[.int .i64 (s : Int), .int .u8 (i : Int)] W fun e w' => e = .returned (.agg (edgeK (2 * s + i)).toArray) ∧ Below W.heap.size W w' := fun W => by
            have h := Step_edge s i hs (by omega) W
            rw [edgeK_is s i (by omega)] at h
            exact h
          have hw8 : IntKind.u8.wrap (i : Int) = (i : Int) := by rw [IntKind.wrap_u8]; omega
          obtain ⟨R, hR⟩ : ∃ R, edgeK (2 * s + i) = R := ⟨_, rfl⟩
          have hlen : R.length = 7 := by rw [← hR]; rfl
          have hone := edgeK_one (2 * s + i)
          rw [hR] at hone
          simp only [hR] at hst
          have hoff : s * 14 + i * 7 + R.length ≤ E.size := by omega
          have HS := Aside0.mk (And.intro hst (And.intro hE (And.intro hoff (And.intro hone hR))))
          clear hst hE hEs hoff hone hR
          go_upto_region 10 with fail
          go_region_law ((go_simp; go_at_call 34; refine (HS.out.1 _).mono ?_; rintro e w2 ⟨rfl, hB2⟩; have hE2 := below_cell_blk hB2 (show wr.drew.heap[w.heap.size + 1]? = _ from HS.out.2.1); have hsc := store_cells hE2 HS.out.2.2.1 HS.out.2.2.2.1; have HB2 := Aside0.mk hB2; clear hE2 hB2))
          have hF := (LD.below HL.out ((pw_below_drewN (Below.refl _ _) 1).trans HB2.out)).edge (by omega)
          rw [HS.out.2.2.2.2, show 7 * (2 * s + i) = s * 14 + i * 7 by omega] at hF
          obtain ⟨W9, hW9⟩ : ∃ W9, w2.setCells (w.heap.size + 1) (s * 14 + i * 7) R = W9 := ⟨_, rfl⟩
          rw [hW9] at hF ⊢
          have HF := Aside0.mk hF
          clear hF hW9
          go_wp2_with fail
          go_loopw [8] (fun x wr => ∃ t : Nat, x = .int .i64 t ∧ t ≤ 4 ∧ LD w wf (2 * s + i + 1) (4 * (2 * s + i) + t) wr) (fun x _ => 4 - (intOf x).toNat)
          case atStart => exact ⟨0, rfl, by omega, HF.out⟩
          case round =>
            clear HF HL HB2
            obtain ⟨t, rfl, ht4, hLD⟩ := hrel
            by_cases ht : t < 4
            · have ht' : (t : Int) < 4 := by omega
              have HL := Aside0.mk hLD
              clear hLD
              obtain ⟨hA, ⟨E, hE, hEs, hEk⟩, ⟨V, hV, hVs, _⟩, _, _⟩ := HL.out
              obtain ⟨k, hk⟩ : ∃ k, 2 * s + i = k := ⟨_, rfl⟩
              have hwg := fun W => weigh_any ((k / 2 : Nat) : Int) ((zed k / 2 : Nat) : Int) ((k % 2 : Nat) : Int) (ob (zed k)) wf (fun j => ob_le _ j) HT.out t W
              simp only [wsm_wgt] at hwg
              have M : ∀ j, j < 7 → wr.cell? ⟨w.heap.size + 1, s * 14 + i * 7 + j, none⟩ = (edgeK k)[j]? := fun j hj => by
                rw [blk_cell hE, show s * 14 + i * 7 + j = 7 * (2 * s + i) + j by omega, hk]
                exact hEk k (by omega) j hj
              have M0 := M 0 (by decide)
              have M1 := M 1 (by decide)
              have M2 := M 2 (by decide)
              have M3 := M 3 (by decide)
              have M4 := M 4 (by decide)
              have M5 := M 5 (by decide)
              have M6 := M 6 (by decide)
              have F0 := blk_cell hA 0
              have F1 := blk_cell hA 1
              have F2 := blk_cell hA 2
              have F3 := blk_cell hA 3
              simp only [edgeK, Nat.add_zero, List.getElem?_toArray, List.getElem?_cons_zero, List.getElem?_cons_succ] at M0 M1 M2 M3 M4 M5 M6 F0 F1 F2 F3
              obtain ⟨v, hv⟩ : ∃ v, V[s * 8 + i * 4 + t]? = some v := ⟨_, Array.getElem?_eq_getElem (by omega)⟩
              have HS := Aside0.mk (And.intro hwg (And.intro hV (And.intro hv hk)))
              clear hwg hA hE hEs hEk hV hVs hv hk M
              go_upto_region 14 with fail
              go_region_law ((go_simp; go_at_call 35; refine (HS.out.1 _).mono ?_; rintro e w2 ⟨rfl, hB2⟩; have hV2 := below_cell_blk hB2 (show wr.drew.heap[w.heap.size + 1 + 1]? = _ from HS.out.2.1); have c0 := (blk_cell hV2 _).trans HS.out.2.2.1; have fz := fun o => blk_frozen hV2 o; have HB2 := Aside0.mk hB2; clear hB2 hV2))
              all_goals
                have hF := (LD.below HL.out ((pw_below_drewN (Below.refl _ _) 1).trans HB2.out)).weight (by omega)
                rw [show (4 * (2 * s + i) + t) % 4 = t by omega, show (4 * (2 * s + i) + t) / 4 = 2 * s + i by omega, HS.out.2.2.2, show 4 * k + t = s * 8 + i * 4 + t by have := HS.out.2.2.2; omega] at hF
                have HF := Aside0.mk hF
                clear hF
                go_wp2_with fail
                refine ⟨⟨t + 1, by go_num, by omega, ?_⟩, by simp only [intOf]; omega⟩
                have hk := HS.out.2.2.2
                rw [show 4 * (2 * s + i) + (t + 1) = s * 8 + i * 4 + t + 1 by omega, hk]
                exact HF.out
            · have ht' : ¬ (t : Int) < 4 := by omega
              obtain rfl : t = 4 := by omega
              have HL := Aside0.mk hLD
              clear hLD
              go_wp2_with fail
              exact ⟨⟨i + 1, by go_num, by omega, by have h := HL.out; rw [show 4 * (2 * s + i) + 4 = 4 * (2 * s + (i + 1)) by omega] at h; exact h⟩, by simp only [intOf]; omega⟩
        · have hi' : ¬ (i : Int) < 2 := by omega
          obtain rfl : i = 2 := by omega
          have HL := Aside0.mk hLD
          clear hLD
          go_wp2_with fail
          exact ⟨⟨s + 1, by go_num, by omega, by have h := HL.out; rw [show 4 * (2 * s + 2) = 8 * (s + 1) by omega] at h; exact h⟩, by simp only [intOf]; omega⟩
    · have hs' : ¬ (s : Int) < 64 := by omega
      obtain rfl : s = 64 := by omega
      obtain ⟨g, hg⟩ : ∃ g, wr.heap.size = g := ⟨_, rfl⟩
      have hg3 : w.heap.size + 3 ≤ g := by rw [← hg]; exact hLD.2.2.2.1
      have hAF : AF w wf g 0 (wr.alloc (.cells Tryd.zeroCells76 76)) := ⟨hLD.below (below_alloc (Below.refl _ _) _), ⟨_, by have := heap_alloc_new wr (.cells Tryd.zeroCells76 76); rw [hg] at this; exact this, zeroL100, fun k hk => by omega⟩, hg3⟩
      obtain ⟨W1, hW1⟩ : ∃ W1, wr.alloc (.cells Tryd.zeroCells76 76) = W1 := ⟨_, rfl⟩
      rw [hW1] at hAF
      have HL := Aside0.mk (And.intro hAF (And.intro hW1 hg))
      clear hLD hAF hW1 hg hg3
      go_upto_region 16 with fail
      rw [HL.out.2.1, HL.out.2.2]
      go_wp2_with fail
      go_loopw [10] (fun x wr => ∃ s : Nat, x = .int .i64 s ∧ s ≤ 64 ∧ AF w wf g (4 * s) wr) (fun x _ => 64 - (intOf x).toNat)
      case atStart => exact ⟨0, rfl, by omega, HL.out.1⟩
      case round =>
        clear HL
        obtain ⟨s, rfl, hs64, hAF⟩ := hrel
        by_cases hs : s < 64
        · have hs' : (s : Int) < 64 := by omega
          have HL := Aside0.mk hAF
          clear hAF
          go_wp2_with fail
          go_loopw [11] (fun x wr => ∃ t : Nat, x = .int .i64 t ∧ t ≤ 4 ∧ AF w wf g (4 * s + t) wr) (fun x _ => 4 - (intOf x).toNat)
          case atStart => exact ⟨0, rfl, by omega, HL.out⟩
          case round =>
            clear HL
            obtain ⟨t, rfl, ht4, hAF⟩ := hrel
            have HL := Aside0.mk hAF
            by_cases ht : t < 4
            · have ht' : (t : Int) < 4 := by omega
              obtain ⟨_, ⟨X, hX, hXs, _⟩, _⟩ := hAF
              obtain ⟨v, hv⟩ : ∃ v, X[s * 4 + t]? = some v := ⟨_, Array.getElem?_eq_getElem (by omega)⟩
              have c0 := (blk_cell hX (s * 4 + t)).trans hv
              have fz := fun o => blk_frozen hX o
              clear hX hXs hv
              go_wp2_with fail
              refine ⟨⟨t + 1, by go_num, by omega, ?_⟩, by simp only [intOf]; omega⟩
              have h := HL.out.next (by omega)
              rw [show 4 * s + t = s * 4 + t by omega, show s * 4 + t + 1 = 4 * s + (t + 1) by omega] at h
              exact h
            · have ht' : ¬ (t : Int) < 4 := by omega
              obtain rfl : t = 4 := by omega
              clear hAF
              go_wp2_with fail
              exact ⟨⟨s + 1, by go_num, by omega, HL.out⟩, by simp only [intOf]; omega⟩
        · have hs' : ¬ (s : Int) < 64 := by omega
          obtain rfl : s = 64 := by omega
          have HL := Aside0.mk hAF.done
          clear hAF
          go_wp2_with fail
          go_loopw [12] (fun x wr => ∃ t : Nat, x = .int .i64 t ∧ t ≤ 4 ∧ ∃ A, AT w wf g A wr ∧ ∀ u, u < t → A.getD (128 + (u + 1) % 4) 0 ≤ wgt wf u 64) (fun x _ => 4 - (intOf x).toNat)
          case atStart => exact ⟨0, rfl, by omega, fars, HL.out, fun u hu => by omega⟩
          case round =>
            clear HL
            obtain ⟨t, rfl, ht4, A, hA, hAs⟩ := hrel
            by_cases ht : t < 4
            · have ht' : (t : Int) < 4 := by omega
              have HR := Aside0.mk (And.intro hA hAs)
              clear hA hAs
              have M := HR.out.1.1.ecell 1 (by decide)
              rw [edgeK1] at M
              have M0 := M 0 (by decide)
              have M1 := M 1 (by decide)
              have M2 := M 2 (by decide)
              have M3 := M 3 (by decide)
              have M4 := M 4 (by decide)
              have M5 := M 5 (by decide)
              have M6 := M 6 (by decide)
              simp only [List.getElem?_cons_zero, List.getElem?_cons_succ] at M0 M1 M2 M3 M4 M5 M6
              clear M
              obtain ⟨u, hu⟩ : ∃ u, (t + 1) % 4 = u := ⟨_, rfl⟩
              have hu4 : u < 4 := by omega
              have hul : (u : Int) < 4 := by omega
              have q1 : wrap64 ((t : Int) + 1) = (t : Int) + 1 := wrap64_in _ (by omega) (by omega)
              have q2 : ((t : Int) + 1).tmod 4 = (u : Int) := by rw [Int.tmod_eq_emod_of_nonneg (by omega)]; omega
              have q3 : wrap64 (u : Int) = (u : Int) := wrap64_in _ (by omega) (by omega)
              go_upto_region 27 with fail
              obtain ⟨W1, hW1⟩ : ∃ W1, wr.alloc (.cells #[.int .i64 0, .int .i64 32, .int .u8 1, .int .u8 (ob 64 0 : Nat), .int .u8 (ob 64 1 : Nat), .int .u8 (ob 64 2 : Nat), .int .u8 (ob 64 3 : Nat)] 69) = W1 := ⟨_, rfl⟩
              have hA1 : AT w wf g A W1 := by rw [← hW1]; exact HR.out.1.below (below_alloc (Below.refl _ _) _)
              have hX : W1.heap[wr.heap.size]? = some (.cells #[.int .i64 0, .int .i64 32, .int .u8 1, .int .u8 (ob 64 0 : Nat), .int .u8 (ob 64 1 : Nat), .int .u8 (ob 64 2 : Nat), .int .u8 (ob 64 3 : Nat)] 69 (0, 0)) := by rw [← hW1]; exact heap_alloc_new _ _
              have k1 := blk_cell hX 1
              simp only [List.getElem?_toArray, List.getElem?_cons_zero, List.getElem?_cons_succ] at k1
              have k2 := hA1.cell (128 + u) (by omega)
              have k3 := hA1.1.wcell (4 + t) (by omega)
              rw [show (4 + t) % 4 = t by omega, show (4 + t) / 4 = 1 by omega, show zed 1 = 64 by rfl] at k3
              have k4 := hA1.frozen (128 + u)
              rw [hW1]
              obtain ⟨a, ha⟩ : ∃ a, A.getD (128 + u) 0 = a := ⟨_, rfl⟩
              obtain ⟨q, hq⟩ : ∃ q, wgt wf t 64 = q := ⟨_, rfl⟩
              rw [ha] at k2
              rw [hq] at k3
              obtain ⟨sz, hsz⟩ : ∃ sz, wr.heap.size = sz := ⟨_, rfl⟩
              rw [hsz] at k1 ⊢
              have HR2 := Aside0.mk (And.intro hA1 (And.intro hu (And.intro ha hq)))
              clear hA1 hX hW1 hu ha hq hsz M0 M1 M2 M3 M4 M5 M6
              go_region
              obtain ⟨W2, hW2⟩ : ∃ W2, (W1.setCell ⟨g, 128 + u, none⟩ (.int .i64 (if q < a then (q : Int) else (a : Int)))).drew = W2 := ⟨_, rfl⟩
              have hA2 : AT w wf g (A.set (128 + u) (if q < a then q else a)) W2 := by
                have h := (HR2.out.1.set_ (128 + u) (if q < a then q else a) (by have := HR2.out.1.le (128 + u); have := HR2.out.2.2.1; split <;> omega)).below (pw_below_drewN (Below.refl _ _) 1)
                rw [← hW2]
                have e : ((if q < a then q else a : Nat) : Int) = if q < a then (q : Int) else (a : Int) := by split <;> rfl
                rw [e] at h
                exact h
              rw [hW2]
              have HA2 := Aside0.mk hA2
              clear hA2 hW2
              go_wp2_with fail
              refine ⟨⟨t + 1, by go_num, by omega, _, HA2.out, fun v hv => ?_⟩, by simp only [intOf]; omega⟩
              by_cases hvt : v = t
              · subst hvt
                have hlen := HR2.out.1.2.2.1
                rw [HR2.out.2.1, HR2.out.2.2.2, List.getD_eq_getElem?_getD, List.getElem?_set_self (by omega)]
                show (if q < a then q else a) ≤ q
                split <;> omega
              · refine Nat.le_trans (getD_set_le ?_ _) (HR.out.2 v (by omega))
                rw [HR2.out.2.2.1]
                split <;> omega
            · have ht' : ¬ (t : Int) < 4 := by omega
              obtain rfl : t = 4 := by omega
              have HR := Aside0.mk (And.intro hA hAs)
              clear hA hAs
              go_wp2_with fail
              go_loopw [14, 15] (fun x y wr => ∃ A best c, x = .int .i64 (best : Nat) ∧ y = .bool c ∧ Pas w wf g A best c wr) (fun _ y W => 2 * sumAt g W + cb y)
              case atStart => exact ⟨A, 1073741824, true, rfl, rfl, HR.out.1, Nat.le_refl _, HR.out.2, fun hc => by simp at hc⟩
              case round =>
                clear HR
                obtain ⟨A0, best, c, rfl, rfl, hP⟩ := hrel
                have HP := Aside0.mk hP
                clear hP
                cases c with
                | false =>
                  go_wp2_with fail
                  go_ret
                  exact ⟨best, _, rfl, HP.out.pot, HP.out.1.1.2.2.2.2⟩
                | true =>
                  have HM := Aside0.mk (show 2 * sumAt g wr + cb (.bool true) = 2 * A0.sum + 1 by rw [HP.out.1.sum]; rfl)
                  go_wp2_with fail
                  go_loopw [14, 15, 16] (fun x y z wr => ∃ A best c, ∃ s : Nat, x = .int .i64 (best : Nat) ∧ y = .bool c ∧ z = .int .i64 (s : Int) ∧ 1 ≤ s ∧ s ≤ 64 ∧ Inv w wf g A0 (8 * s) A best c wr) (fun _ _ z _ => 64 - (intOf z).toNat)
                  case atStart => exact ⟨A0, best, false, 1, rfl, rfl, rfl, by omega, by omega, HP.out.inv⟩
                  case round =>
                    clear HP
                    obtain ⟨A, best, c, s, rfl, rfl, rfl, hs1, hs64, hI⟩ := hrel
                    have HI := Aside0.mk hI
                    clear hI
                    by_cases hs : s < 64
                    · have hs' : (s : Int) < 64 := by omega
                      go_wp2_with fail
                      go_loopw [14, 15, 17] (fun x y z wr => ∃ A best c, ∃ t : Nat, x = .int .i64 (best : Nat) ∧ y = .bool c ∧ z = .int .i64 (t : Int) ∧ t ≤ 4 ∧ Inv w wf g A0 (8 * s + 2 * t) A best c wr) (fun _ _ z _ => 4 - (intOf z).toNat)
                      case atStart => exact ⟨A, best, c, 0, rfl, rfl, rfl, by omega, HI.out⟩
                      case round =>
                        clear HI
                        obtain ⟨A, best, c, t, rfl, rfl, rfl, ht4, hI⟩ := hrel
                        have HI := Aside0.mk hI
                        clear hI
                        by_cases ht : t < 4
                        · have ht' : (t : Int) < 4 := by omega
                          have k2 := HI.out.1.cell (s * 4 + t) (by omega)
                          have hle := HI.out.1.le (s * 4 + t)
                          obtain ⟨a, ha⟩ : ∃ a, A.getD (s * 4 + t) 0 = a := ⟨_, rfl⟩
                          rw [ha] at k2 hle
                          have HA := Aside0.mk ha
                          by_cases hf : a = 1073741824
                          · have hb : ((a : Int) == 1073741824) = true := by rw [beq_iff_eq]; omega
                            have HF := Aside0.mk hf
                            clear ha hf hle
                            go_wp2_with fail
                            exact ⟨⟨A, best, c, t + 1, rfl, rfl, by go_num, by omega, HI.out.far (HA.out.trans HF.out)⟩, by simp only [intOf]; omega⟩
                          · have hb : ((a : Int) == 1073741824) = false := by rw [beq_eq_false_iff_ne]; omega
                            clear ha hf hle HA
                            go_wp2_with fail
                            clear k2 hb
                            go_loopw [14, 15, 18] (fun x y z wr => ∃ A best c, ∃ i : Nat, x = .int .i64 (best : Nat) ∧ y = .bool c ∧ z = .int .i64 (i : Int) ∧ i ≤ 2 ∧ Inv w wf g A0 (8 * s + 2 * t + i) A best c wr) (fun _ _ z _ => 2 - (intOf z).toNat)
                            case atStart => exact ⟨A, best, c, 0, rfl, rfl, rfl, by omega, HI.out⟩
                            case round =>
                              clear HI
                              obtain ⟨A, best, c, i, rfl, rfl, rfl, hi2, hI⟩ := hrel
                              have HI := Aside0.mk hI
                              clear hI
                              by_cases hi : i < 2
                              · have hi' : (i : Int) < 2 := by omega
                                have M : ∀ j, j < 7 → wr.cell? ⟨w.heap.size + 1, s * 14 + i * 7 + j, none⟩ = (edgeK (2 * s + i))[j]? := fun j hj => by
                                  rw [show s * 14 + i * 7 + j = 7 * (2 * s + i) + j by omega]
                                  exact HI.out.1.1.ecell (2 * s + i) (by omega) j hj
                                have M0 := M 0 (by decide)
                                have M1 := M 1 (by decide)
                                have M2 := M 2 (by decide)
                                have M3 := M 3 (by decide)
                                have M4 := M 4 (by decide)
                                have M5 := M 5 (by decide)
                                have M6 := M 6 (by decide)
                                obtain ⟨k, hk⟩ : ∃ k, 2 * s + i = k := ⟨_, rfl⟩
                                have hz : zed k = s + 64 * i := by rw [← hk]; unfold zed; omega
                                simp only [edgeK, Nat.add_zero, List.getElem?_cons_zero, List.getElem?_cons_succ, hk, hz] at M0 M1 M2 M3 M4 M5 M6
                                have k3 := HI.out.1.1.wcell (s * 8 + i * 4 + t) (by omega)
                                rw [show (s * 8 + i * 4 + t) % 4 = t by omega, show (s * 8 + i * 4 + t) / 4 = k by omega, hz] at k3
                                obtain ⟨z, hzz⟩ : ∃ z, s + 64 * i = z := ⟨_, rfl⟩
                                simp only [hzz] at M0 M1 M2 M3 M4 M5 M6 k3
                                obtain ⟨d, hd⟩ : ∃ d, z / 2 = d := ⟨_, rfl⟩
                                simp only [hd] at M1
                                have hd64 : d < 64 := by omega
                                have hdl : (d : Int) < 64 := by omega
                                obtain ⟨u, hu⟩ : ∃ u, (t + 1) % 4 = u := ⟨_, rfl⟩
                                have hu4 : u < 4 := by omega
                                have hul : (u : Int) < 4 := by omega
                                have b1 : -9223372036854775808 ≤ (t : Int) + 1 ∧ (t : Int) + 1 ≤ 9223372036854775807 := by omega
                                have b2 : ((t : Int) + 1).tmod 4 = (u : Int) := by rw [Int.tmod_eq_emod_of_nonneg (by omega)]; omega
                                have b3 : -9223372036854775808 ≤ (u : Int) ∧ (u : Int) ≤ 9223372036854775807 := by omega
                                have B := Aside0.mk (And.intro b1 (And.intro b2 b3))
                                clear b1 b2 b3
                                have k2 := HI.out.1.cell (s * 4 + t) (by omega)
                                have k4 := HI.out.1.cell (d * 4 + u) (by omega)
                                have k5 := HI.out.1.frozen (d * 4 + u)
                                have hle := HI.out.1.le (s * 4 + t)
                                have hwl := wgt_le wf HT.out t z
                                obtain ⟨a, ha⟩ : ∃ a, A.getD (s * 4 + t) 0 = a := ⟨_, rfl⟩
                                obtain ⟨a2, ha2⟩ : ∃ a2, A.getD (d * 4 + u) 0 = a2 := ⟨_, rfl⟩
                                obtain ⟨q, hq⟩ : ∃ q, wgt wf t z = q := ⟨_, rfl⟩
                                rw [ha] at k2 hle
                                rw [ha2] at k4
                                rw [hq] at k3 hwl
                                have b4 : -9223372036854775808 ≤ (a : Int) + (q : Int) ∧ (a : Int) + (q : Int) ≤ 9223372036854775807 := by omega
                                have HE := Aside0.mk (And.intro hzz (And.intro hd (And.intro hu (And.intro ha (And.intro ha2 hq)))))
                                clear M hk hz hzz hd hu ha ha2 hq hle hwl
                                have q1 : wrap64 ((t : Int) + 1) = (t : Int) + 1 := wrap64_in _ B.out.1.1 B.out.1.2
                                have q2 : ((t : Int) + 1).tmod 4 = (u : Int) := B.out.2.1
                                have q3 : wrap64 (u : Int) = (u : Int) := wrap64_in _ B.out.2.2.1 B.out.2.2.2
                                have q4 : IntKind.i64.wrap ((a : Int) + (q : Int)) = (a : Int) + (q : Int) := IntWalk.i64_in _ b4
                                clear b4
                                go_upto_region 43 with fail
                                obtain ⟨W1, hW1⟩ : ∃ W1, wr.alloc (.cells #[.int .i64 ((k : Int) / 2), .int .i64 (d : Int), .int .u8 ((k : Int) % 2), .int .u8 (ob z 0 : Nat), .int .u8 (ob z 1 : Nat), .int .u8 (ob z 2 : Nat), .int .u8 (ob z 3 : Nat)] 69) = W1 := ⟨_, rfl⟩
                                have hB1 : Below wr.heap.size wr W1 := by rw [← hW1]; exact below_alloc (Below.refl _ _) _
                                have hX : W1.heap[wr.heap.size]? = some (.cells #[.int .i64 ((k : Int) / 2), .int .i64 (d : Int), .int .u8 ((k : Int) % 2), .int .u8 (ob z 0 : Nat), .int .u8 (ob z 1 : Nat), .int .u8 (ob z 2 : Nat), .int .u8 (ob z 3 : Nat)] 69 (0, 0)) := by rw [← hW1]; exact heap_alloc_new _ _
                                have k1 := blk_cell hX 1
                                simp only [List.getElem?_toArray, List.getElem?_cons_zero, List.getElem?_cons_succ] at k1
                                rw [hW1]
                                replace k2 := below_cell hB1 k2
                                replace k3 := below_cell hB1 k3
                                replace k4 := below_cell hB1 k4
                                replace k5 : W1.frozen? ⟨g, d * 4 + u, none⟩ = false := (HI.out.below hB1).1.frozen _
                                have HI1 := Aside0.mk (HI.out.below hB1)
                                obtain ⟨sz, hsz⟩ : ∃ sz, wr.heap.size = sz := ⟨_, rfl⟩
                                rw [hsz] at k1 ⊢
                                clear hX hW1 hB1 hsz M0 M1 M2 M3 M4 M5 M6
                                have HK := Aside0.mk (And.intro q1 (And.intro q2 q3))
                                go_wp2_with fail
                                go_quiet (fail)
                                by_cases hd0 : d = 0
                                · have hz1 : ((d : Int) == 0) = true := by rw [beq_iff_eq]; omega
                                  have HD := Aside0.mk hd0
                                  clear q1 q2 q3 hd0
                                  go_wp2_with fail
                                  have h := (HI1.out.best ht hi (by have h1 := HE.out.1; have h2 := HE.out.2.1; have h3 := HD.out; omega)).below (pw_below_drewN (Below.refl _ _) nq)
                                  rw [HE.out.1, HE.out.2.2.2.1, HE.out.2.2.2.2.2] at h
                                  exact ⟨⟨A, _, c, i + 1, congrArg (Value.int IntKind.i64) (sum_min a q best), rfl, by go_num, by omega, h⟩, by simp only [intOf]; omega⟩
                                · have hz1 : ((d : Int) == 0) = false := by rw [beq_eq_false_iff_ne]; omega
                                  have HD := Aside0.mk hd0
                                  clear hd0
                                  by_cases hlt : a + q < a2
                                  · have hlt' : (a : Int) + (q : Int) < (a2 : Int) := by omega
                                    go_wp2_with fail
                                    have h := (Inv.below HI1.out (pw_below_drewN (Below.refl _ _) nq)).turn (k := d * 4 + u) (x := a + q) (8 * s + 2 * t + (i + 1)) (by omega) (by rw [HE.out.2.2.2.2.1]; omega)
                                    exact ⟨⟨_, best, true, i + 1, rfl, rfl, by go_num, by omega, h⟩, by simp only [intOf]; omega⟩
                                  · have hlt' : ¬ (a : Int) + (q : Int) < (a2 : Int) := by omega
                                    go_wp2_with fail
                                    have h := (Inv.keep HI1.out ht hi (by have h1 := HE.out.1; have h2 := HE.out.2.1; have h3 := HD.out; omega) (by rw [HE.out.1, HE.out.2.1, HE.out.2.2.1, HE.out.2.2.2.1, HE.out.2.2.2.2.1, HE.out.2.2.2.2.2]; omega)).below (pw_below_drewN (Below.refl _ _) nq)
                                    exact ⟨⟨A, best, c, i + 1, rfl, rfl, by go_num, by omega, h⟩, by simp only [intOf]; omega⟩
                              · have hi' : ¬ (i : Int) < 2 := by omega
                                obtain rfl : i = 2 := by omega
                                go_wp2_with fail
                                exact ⟨⟨A, best, c, t + 1, rfl, rfl, by go_num, by omega, HI.out⟩, by simp only [intOf]; omega⟩
                        · have ht' : ¬ (t : Int) < 4 := by omega
                          obtain rfl : t = 4 := by omega
                          go_wp2_with fail
                          exact ⟨⟨A, best, c, s + 1, rfl, rfl, by go_num, by omega, by omega, HI.out⟩, by simp only [intOf]; omega⟩
                    · have hs' : ¬ (s : Int) < 64 := by omega
                      obtain rfl : s = 64 := by omega
                      go_wp2_with fail
                      exact ⟨⟨A, best, c, rfl, rfl, HI.out.pas⟩, by rw [HM.out]; exact HI.out.less⟩
end Go.Proofs.YtnejnnfjbhpigaaDoor.Vit
