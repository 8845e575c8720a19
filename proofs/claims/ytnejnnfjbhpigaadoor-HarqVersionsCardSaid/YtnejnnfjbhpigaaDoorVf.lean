/- Contracts of the decoder's graph (build): each theorem says its own conditions. -/
import Derived.Test.YtnejnnfjbhpigaaDoorVa
import Derived.Deep.MidRow
import Derived.Deep.WholeRow
import Derived.Deep.RegionLaw
import Derived.BigRegion
import Derived.Shelf.Abstract
namespace Go.Proofs.YtnejnnfjbhpigaaDoor.Vit
open Go.RowKit Go.Proofs.YtnejnnfjbhpigaaDoorW.PrintWords Go.Proofs.YtnejnnfjbhpigaaDoorW.PrintLast Go.Proofs.YtnejnnfjbhpigaaDoorW.PrintMore Go.Proofs.YtnejnnfjbhpigaaDoor.Mem
attribute [local go_sem] max2_int min2_int max_two min_two max_three min_three max_four min_four   -- for this text's walks alone
set_option linter.unusedVariables false
set_option linter.unusedSimpArgs false

/-- The fourteen cells of a state's two edges. -/
def row14 (s : Nat) : List Value := [.int .i64 (s : Int), .int .i64 ((s : Int) / 2), .int .u8 0, .int .u8 (ob s 0 : Nat), .int .u8 (ob s 1 : Nat), .int .u8 (ob s 2 : Nat), .int .u8 (ob s 3 : Nat),
  .int .i64 (s : Int), .int .i64 (((s : Int) + 64) / 2), .int .u8 1, .int .u8 (ob (s + 64) 0 : Nat), .int .u8 (ob (s + 64) 1 : Nat), .int .u8 (ob (s + 64) 2 : Nat), .int .u8 (ob (s + 64) 3 : Nat)]
/-- The cells of all edges. -/
def IsGraph (A : Array Value) (n : Nat) : Prop := A.size = 896 ∧ ∀ s, s < n → ∀ j, j < 14 → A[14 * s + j]? = (row14 s)[j]?

theorem below_setCells {B b : Nat} {a : World} (hb : B ≤ b) : ∀ (vs : List Value) (o : Nat) (w : World), Below B a w → Below B a (w.setCells b o vs)
  | [], _, _, h => h
  | v :: r, o, w, h => below_setCells hb r (o + 1) _ (h.setCell (by exact hb) v)

theorem IsGraph.next {A B : Array Value} {k : Nat} (h : IsGraph A k) (hk : k < 64) (hs : B.size = A.size) (hB : B.toList = A.toList.take (k * 14) ++ row14 k ++ A.toList.drop (k * 14 + (row14 k).length)) : IsGraph B (k + 1) := by
  obtain ⟨h1, h2⟩ := h
  have hl : (row14 k).length = 14 := rfl
  have hal : A.toList.length = 896 := by simpa using h1
  have htl : (A.toList.take (k * 14)).length = k * 14 := by rw [List.length_take]; omega
  refine ⟨by omega, fun s hs2 j hj => ?_⟩
  rw [← Array.getElem?_toList, hB, List.append_assoc]
  by_cases hsk : s < k
  · rw [List.getElem?_append_left (by omega), List.getElem?_take_of_lt (by omega), Array.getElem?_toList]
    exact h2 s hsk j hj
  · obtain rfl : s = k := by omega
    rw [List.getElem?_append_right (by omega), htl, List.getElem?_append_left (by omega)]
    congr 1
    omega

/-- A loop's state in build. -/
def BuildRel (w : World) (k : Nat) (wr : World) : Prop :=
  k ≤ 64 ∧ (∃ A, wr.heap[w.heap.size + 1]? = some (.cells A 123 (0, 0)) ∧ IsGraph A k) ∧ wr.heap[w.heap.size]? = some (.cells Tryd.zeroCells123 123 (0, 0)) ∧ w.heap.size + 2 ≤ wr.heap.size ∧ Below w.heap.size w wr

theorem there_of_row {w : World} {g t : Nat} {A : Array Value} (h : w.heap[g]? = some (.cells A t (0, 0))) {o n : Nat} (hn : o + n ≤ A.size) : w.there g o n := fun j hj =>
  ⟨by rw [blk_cell h]; simp; omega, by rw [blk_frozen h]⟩

theorem step_store_mid {P : Program} {o : Oper} {ops : Array Oper} {a : Act} {w : World} {K : Act → World → Prop} {Q' : Exit → Act → World → Prop} {E : Prop} (hgd : o.guard = none) (ty : TypeId) (x y : Operand) (ho : o.op = .store ty x y)
    (b off : Nat) (cells : Array Value) (hx : a.eval x = .pointer (some ⟨b, off, none⟩)) (hy : a.eval y = .agg cells)
    (ht : w.there b off cells.size) (hi : (P.info? ty).map (·.size) = some cells.size) (h1 : cells.all (·.oneCell') = true)
    (h : K (a.put o.dst undef) (w.setCells b off cells.toList)) : if Region.wanted o (yielded ops a.tmps) = true then Oper.wp P o a w K Q' else E := by
  have hw : Region.wanted o (yielded ops a.tmps) = true := by simp [Region.wanted, hgd]
  rw [if_pos hw]
  exact wp_store_mid ty x y ho b off cells hx hy ht hi h1 h

theorem info74 : (Tryd.prog.info? 121).map (·.size) = some 14 := by kernel_rfl
theorem info76 : (Tryd.prog.info? 123).map (·.size) = some 896 := by kernel_rfl

theorem row14_one (k : Nat) : (row14 k).toArray.all (·.oneCell') = true := by simp [row14, Value.oneCell']
theorem zero76 : Tryd.zeroCells123.size = 896 := by kernel_rfl
theorem IsGraph.one {A : Array Value} (h : IsGraph A 64) : A.all (·.oneCell') = true := by
  rw [Array.all_eq_true]
  intro i hi
  have h1 := h.1
  have h2 := h.2 (i / 14) (by omega) (i % 14) (Nat.mod_lt _ (by omega))
  rw [Nat.div_add_mod, Array.getElem?_eq_getElem hi] at h2
  have h3 : ∀ v ∈ row14 (i / 14), v.oneCell' = true := by
    have := row14_one (i / 14)
    rw [Array.all_eq_true_iff_forall_mem] at this
    exact fun v hv => this v (by simpa using hv)
  exact h3 _ (List.mem_of_getElem? h2.symm)

set_option maxHeartbeats 3200000 in
set_option maxRecDepth 100000 in
theorem build_any (w : World) (ht : Taps w) :
    Calls Tryd.prog 85 #[] w fun e w' => ∃ A, e = .returned (.tuple #[.agg A, .int .i64 0]) ∧ IsGraph A 64 ∧ Below w.heap.size w w' := by
  have HT := Aside0.mk ht
  clear ht
  go_enter Tryd.func85, Tryd.ntmps85
  go_wp2_with fail
  go_loopw [6] (fun i wr => ∃ k : Nat, i = .int .i64 k ∧ BuildRel w k wr) (fun i _ => 64 - (intOf i).toNat)
  case atStart =>
    have hz1 : ((w.alloc (.cells Tryd.zeroCells123 123)).alloc (.cells Tryd.zeroCells123 123)).heap[w.heap.size + 1]? = some (.cells Tryd.zeroCells123 123) := by have := heap_alloc_new (w.alloc (.cells Tryd.zeroCells123 123)) (.cells Tryd.zeroCells123 123); simpa using this
    refine ⟨0, rfl, by omega, ⟨_, hz1, ?_, fun s hs => by omega⟩, ?_, by simp, below_alloc (below_alloc (Below.refl _ _) _) _⟩
    · exact zero76
    · rw [Below.heap_alloc _ _ _ (by simp)]
      exact heap_alloc_new _ _
  case round =>
    obtain ⟨k, rfl, hR⟩ := hrel
    have HR := Aside0.mk hR
    by_cases hk : k < 64
    · have hlt : (k : Int) < 64 := by omega
      clear hR
      go_wp2_with fail
      refine (From_any k hk _ (HT.out.below HR.out.2.2.2.2)).mono ?_
      rintro e w1 ⟨rfl, hB1⟩
      have HB1 := Aside0.mk hB1
      clear hB1
      unfold twoV
      go_upto_region 8 with fail
      obtain ⟨A, hA, hG⟩ := HR.out.2.1
      have hA1 := (HB1.out.block _ (Nat.lt_of_succ_le HR.out.2.2.2.1)).trans hA
      have HTH : ∀ o q, ((w1.alloc o).drewN q).there (w.heap.size + 1) (k * 14) 14 := fun o q => there_of_row (A := A) (t := 123) ((Below.heap_alloc w1 o _ (Nat.lt_of_lt_of_le (Nat.lt_of_succ_le HR.out.2.2.2.1) HB1.out.size)).trans hA1) (by have := hG.1; omega)
      have HTT := Aside0.mk HTH
      have HAA := Aside0.mk (And.intro hA1 hG)
      clear HTH hA1 hG hA
      refine wp_region_lit ?_
      refine wpList_plain rfl (fun _ hK => ?_)
      go_simp
      refine hK _ _ ?_
      clear hK
      refine wpList_plain rfl (fun _ hK => ?_)
      go_simp
      refine hK _ _ ?_
      clear hK
      refine wpList_plain rfl (fun _ hK => ?_)
      go_simp
      refine hK _ _ ?_
      clear hK
      refine wpList_store_mid rfl 121 _ _ rfl (w.heap.size + 1) (k * 14) (row14 k).toArray rfl rfl (HTT.out _ 0) info74 (row14_one k) ?_
      refine wpList_nil ?_
      obtain ⟨W, hW⟩ : ∃ W, (World.setCells (w1.alloc (.cells (row14 k).toArray 121)) (w.heap.size + 1) (k * 14) (row14 k)) = W := ⟨_, rfl⟩
      change Exit.inBlock 1 _ .normal _ (World.setCells (w1.alloc (.cells (row14 k).toArray 121)) (w.heap.size + 1) (k * 14) (row14 k))
      rw [hW]
      have HWW := Aside0.mk hW
      clear hW
      go_wp2_with fail
      go_roundw
      case rel =>
        refine ⟨k + 1, by go_num, by omega, ?_, ?_, ?_, ?_⟩
        · obtain ⟨A', h1, h2, h3⟩ := setCells_row (row14 k) (k * 14) (w1.alloc (.cells (row14 k).toArray 121)) A ((Below.heap_alloc w1 _ _ (Nat.lt_of_lt_of_le (Nat.lt_of_succ_le HR.out.2.2.2.1) HB1.out.size)).trans HAA.out.1) (by rw [HAA.out.2.1]; show k * 14 + 14 ≤ 896; omega)
          rw [HWW.out] at h1
          exact ⟨A', h1, HAA.out.2.next hk h2 h3⟩
        · have hs := HR.out.2.2.2.1
          rw [← HWW.out, setCells_far _ _ _ (by omega), Below.heap_alloc w1 _ _ (Nat.lt_of_lt_of_le (by omega) HB1.out.size), HB1.out.block _ (by omega)]
          exact HR.out.2.2.1
        · have hs := HR.out.2.2.2.1
          rw [← HWW.out, (setCells_same _ _ _ _).2.2.2]
          exact Nat.le_trans hs (Nat.le_trans HB1.out.size (by simp))
        · rw [← HWW.out]
          exact below_setCells (by omega) _ _ _ ((HR.out.2.2.2.2.trans (HB1.out.mono (by have := HR.out.2.2.2.1; omega))).trans ((below_alloc (Below.refl _ _) _).mono (by have := HR.out.2.2.2.1; have := HB1.out.size; omega)))
      case measure => simp [intOf]; omega
    · have hge : ¬ (k : Int) < 64 := by omega
      have hk64 : k = 64 := by have := hR.1; omega
      subst hk64
      clear hR
      obtain ⟨A, hA, hG⟩ := HR.out.2.1
      have hA1 : A.toList.toArray = A := rfl
      have hone := hG.one
      have hsz : A.size = 896 := hG.1
      have hra : wr.rangeAt (w.heap.size + 1) 0 A.toList := fun j v hv => by rw [Nat.zero_add, blk_cell hA]; simpa using hv
      have hz := HR.out.2.2.1
      have hth : wr.there w.heap.size 0 A.size := there_of_row hz (by rw [hsz]; exact Nat.le_of_eq zero76.symm)
      have HG := Aside0.mk (And.intro hA hG)
      have HH := Aside0.mk (And.intro hone (And.intro hsz (And.intro hra (And.intro hz hth))))
      clear hA hG hone hsz hra hz hth
      go_upto_region 10 with fail
      refine wp_region_lit ?_
      refine wpList_load_mid rfl 123 _ rfl (w.heap.size + 1) 0 rfl A.toList _ HH.out.2.2.1 Tryd.underlying123 rfl (by rw [Array.length_toList, HH.out.2.1]; exact info76) ?_
      refine wpList_store_mid rfl 123 _ _ rfl w.heap.size 0 A rfl rfl HH.out.2.2.2.2 (by rw [HH.out.2.1]; exact info76) HH.out.1 ?_
      refine wpList_plain rfl (fun _ hK => ?_)
      go_simp
      refine hK _ _ ?_
      clear hK
      refine wpList_nil ?_
      obtain ⟨W, hW⟩ : ∃ W, (World.setCells wr w.heap.size 0 A.toList) = W := ⟨_, rfl⟩
      change Exit.then _ _ .normal _ (World.setCells wr w.heap.size 0 A.toList)
      rw [hW]
      have HWW := Aside0.mk hW
      clear hW
      go_wp2_with fail
      obtain ⟨A', h1, h2, h3⟩ := setCells_row A.toList 0 wr _ HH.out.2.2.2.1 (by rw [Array.length_toList, HH.out.2.1, zero76]; omega)
      have hAA : A' = A := by
        apply Array.toList_inj.1
        rw [h3]
        simp only [List.take_zero, List.nil_append, Nat.zero_add]
        rw [List.drop_of_length_le (by rw [Array.length_toList, Array.length_toList, HH.out.2.1, zero76]; exact Nat.le_refl _), List.append_nil]
      subst hAA
      rw [HWW.out] at h1
      have hld : (loadVar 123 ⟨w.heap.size, 0, none⟩).run Tryd.prog W = .ok (.agg A') W :=
        run_loadVar_row W w.heap.size 123 123 A' (0, 0) _ h1 Tryd.underlying123 rfl (by rw [HH.out.2.1]; exact info76)
      refine bodyPost_ret (v := .tuple #[.agg A', .int .i64 0]) (by simp [results, Tryd.results85, asAddr, hld]) rfl ⟨A', rfl, HG.out.2, ?_⟩
      rw [← HWW.out]
      exact below_setCells (Nat.le_refl _) _ _ _ HR.out.2.2.2.2

end Go.Proofs.YtnejnnfjbhpigaaDoor.Vit

namespace Go.Proofs.YtnejnnfjbhpigaaDoor.Vit
open Go.RowKit Go.Proofs.YtnejnnfjbhpigaaDoorW.PrintWords Go.Proofs.YtnejnnfjbhpigaaDoorW.PrintLast Go.Proofs.YtnejnnfjbhpigaaDoorW.PrintMore Go.Proofs.YtnejnnfjbhpigaaDoor.Mem
attribute [local go_sem] max2_int min2_int max_two min_two max_three min_three max_four min_four   -- for this text's walks alone
set_option linter.unusedVariables false
set_option linter.unusedSimpArgs false

/-- What the edge of a state and a bit scores at a step. -/
def ge (f : Nat → Int) (t s i : Nat) : Int := gn (f (4 * t)) (f (4 * t + 1)) (f (4 * t + 2)) (f (4 * t + 3)) (ob (s + 64 * i) 0) (ob (s + 64 * i) 1) (ob (s + 64 * i) 2) (ob (s + 64 * i) 3)
/-- What a state may score, so many steps from the end. -/
def colv (f : Nat → Int) (n steps : Nat) : Nat → Nat → Int
  | 0, s => if s = 0 then 0 else none40
  | r + 1, s =>
    let t := steps - (r + 1)
    let a := stp none40 (ge f t s 0) (colv f n steps r (s / 2))
    if t < n then stp a (ge f t s 1) (colv f n steps r ((s + 64) / 2)) else a

theorem stp_in {top g n : Int} {b : Int} (h0 : 0 ≤ b) (ht : top = none40 ∨ -b - 4000 ≤ top ∧ top ≤ b + 4000) (hg : -4000 ≤ g ∧ g ≤ 4000) (hn : n = none40 ∨ -b ≤ n ∧ n ≤ b) (hb : b ≤ 100000000) :
    stp top g n = none40 ∨ -b - 4000 ≤ stp top g n ∧ stp top g n ≤ b + 4000 := by
  unfold stp
  have h40 : none40 = -1099511627776 := rfl
  split
  · exact ht
  · rename_i h
    right
    rcases hn with hn | hn
    · exact absurd hn h
    · rcases ht with ht | ht <;> omega

theorem colv_in (f : Nat → Int) (hf : ∀ j, -1000 ≤ f j ∧ f j ≤ 1000) (n steps : Nat) : ∀ r, r ≤ 5000 → ∀ s, colv f n steps r s = none40 ∨ -(4000 * r) ≤ colv f n steps r s ∧ colv f n steps r s ≤ 4000 * r
  | 0, _, s => by
    unfold colv
    split
    · right; omega
    · left; rfl
  | r + 1, hr, s => by
    have ih := colv_in f hf n steps r (by omega)
    have hg : ∀ t s i, -4000 ≤ ge f t s i ∧ ge f t s i ≤ 4000 := fun t s i => gn_in _ _ _ _ _ _ _ _ (hf _) (hf _) (hf _) (hf _)
    have h1 := stp_in (b := 4000 * r) (by omega) (Or.inl rfl) (hg (steps - (r + 1)) s 0) (ih (s / 2)) (by omega)
    unfold colv
    dsimp only
    split
    · have h2 := stp_in (b := 4000 * r) (by omega) h1 (hg (steps - (r + 1)) s 1) (ih ((s + 64) / 2)) (by omega)
      rcases h2 with h2 | h2
      · exact Or.inl h2
      · right; omega
    · rcases h1 with h1 | h1
      · exact Or.inl h1
      · right; omega

/-- The cells of the columns behind a step, and the first k of that step's own. -/
def MidV (A : Array Value) (V : Nat → Nat → Int) (steps t k : Nat) : Prop :=
  A.size = 64 * (steps + 1) ∧ (∀ u, t < u → u ≤ steps → ∀ s, s < 64 → A[64 * u + s]? = some (.int .i64 (V u s))) ∧ ∀ s, s < k → A[64 * t + s]? = some (.int .i64 (V t s))
theorem MidV.next {A : Array Value} {V : Nat → Nat → Int} {steps t k : Nat} (h : MidV A V steps t k) (hk : k < 64) (ht : t ≤ steps) : MidV (A.setIfInBounds (t * 64 + k) (.int .i64 (V t k))) V steps t (k + 1) := by
  obtain ⟨h1, h2, h3⟩ := h
  refine ⟨by simpa using h1, fun u hu hu2 s hs => ?_, fun s hs => ?_⟩
  · rw [Array.getElem?_setIfInBounds_ne (by omega)]
    exact h2 u hu hu2 s hs
  · by_cases hsk : s < k
    · rw [Array.getElem?_setIfInBounds_ne (by omega)]
      exact h3 s hsk
    · obtain rfl : s = k := by omega
      rw [show 64 * t + s = t * 64 + s by omega, Array.getElem?_setIfInBounds_self_of_lt (by omega)]
theorem MidV.down {A : Array Value} {V : Nat → Nat → Int} {steps t : Nat} (h : MidV A V steps (t + 1) 64) (ht : t + 1 ≤ steps) : MidV A V steps t 0 :=
  ⟨h.1, fun u hu hu2 s hs => by
    by_cases he : u = t + 1
    · subst he; exact h.2.2 s hs
    · exact h.2.1 u (by omega) hu2 s hs, fun s hs => by omega⟩
/-- The values of all columns. -/
def cv (f : Nat → Int) (n steps : Nat) (u s : Nat) : Int := colv f n steps (steps - u) s
theorem MidV.start {A : Array Value} {f : Nat → Int} {n steps : Nat} (h : MidV A (fun _ _ => none40) steps steps 64) : MidV (A.setIfInBounds (steps * 64) (.int .i64 0)) (cv f n steps) steps steps 64 := by
  obtain ⟨h1, h2, h3⟩ := h
  refine ⟨by simpa using h1, fun u hu hu2 s hs => by omega, fun s hs => ?_⟩
  unfold cv
  rw [Nat.sub_self]
  unfold colv
  by_cases h0 : s = 0
  · subst h0
    rw [show 64 * steps + 0 = steps * 64 by omega, Array.getElem?_setIfInBounds_self_of_lt (by omega)]
    rfl
  · rw [Array.getElem?_setIfInBounds_ne (by omega), if_neg h0]
    exact h3 s hs

/-- A loop's state. -/
def FillRel (w : World) (V : Nat → Nat → Int) (steps t k : Nat) (wr : World) : Prop :=
  k ≤ 64 ∧ (∃ A, wr.heap[w.heap.size]? = some (.cells A 130 (0, 0)) ∧ MidV A V steps t k) ∧ Below w.heap.size w wr
theorem FillRel.cell {w wr : World} {V : Nat → Nat → Int} {steps t k : Nat} (h : FillRel w V steps t k wr) (u s : Nat) (hu : u ≤ steps) (hs : s < 64) : ∃ v, wr.cell? ⟨w.heap.size, u * 64 + s, none⟩ = some v := by
  obtain ⟨_, ⟨A, h1, h2⟩, _⟩ := h
  have hlt : u * 64 + s < A.size := by have := h2.1; omega
  exact ⟨_, (blk_cell h1 _).trans (Array.getElem?_eq_getElem hlt)⟩
theorem FillRel.frozen {w wr : World} {V : Nat → Nat → Int} {steps t k : Nat} (h : FillRel w V steps t k wr) (o : Nat) : wr.frozen? ⟨w.heap.size, o, none⟩ = false := by
  obtain ⟨_, ⟨A, h1, _⟩, _⟩ := h
  rw [blk_frozen h1]
theorem FillRel.next {w wr : World} {V : Nat → Nat → Int} {steps t k : Nat} (h : FillRel w V steps t k wr) (hk : k < 64) (ht : t ≤ steps) :
    FillRel w V steps t (k + 1) (wr.setCell ⟨w.heap.size, t * 64 + k, none⟩ (.int .i64 (V t k))) := by
  obtain ⟨h0, ⟨A, h1, h2⟩, h3⟩ := h
  exact ⟨by omega, ⟨_, blk_set h1 _ _, h2.next hk ht⟩, h3.setCell (Nat.le_refl _) _⟩

theorem FillRel.below {w W w2 : World} {V : Nat → Nat → Int} {steps t k : Nat} (h : FillRel w V steps t k W) (hB : Below W.heap.size W w2) : FillRel w V steps t k w2 := by
  obtain ⟨h0, ⟨A, h1, h2⟩, h3⟩ := h
  exact ⟨h0, ⟨A, (hB.block _ (Array.getElem?_eq_some_iff.1 h1).1).trans h1, h2⟩, h3.trans (hB.mono h3.size)⟩
theorem FillRel.drew {w W : World} {V : Nat → Nat → Int} {steps t k : Nat} (h : FillRel w V steps t k W) : FillRel w V steps t k W.drew := by
  obtain ⟨h0, ⟨A, h1, h2⟩, h3⟩ := h
  exact ⟨h0, ⟨A, h1, h2⟩, pw_below_drewN h3 1⟩
/-- The graph's cells, by edge. -/
theorem graph_cell {w : World} {gb : Nat} {G : Array Value} (hg : w.heap[gb]? = some (.cells G 123 (0, 0))) (hG : IsGraph G 64) (k : Nat) (hk : k < 64) (j : Nat) (hj : j < 14) (v : Value) (hv : (row14 k)[j]? = some v) :
    w.cell? ⟨gb, k * 14 + j, none⟩ = some v := by
  rw [blk_cell hg, show k * 14 + j = 14 * k + j by omega]
  exact (hG.2 k hk j hj).trans hv
theorem cv_two {f : Nat → Int} {n steps t k : Nat} (ht : t < steps) (htn : t < n) : cv f n steps t k = stp (stp none40 (ge f t k 0) (cv f n steps (t + 1) (k / 2))) (ge f t k 1) (cv f n steps (t + 1) ((k + 64) / 2)) := by
  unfold cv
  obtain ⟨r, hr⟩ : ∃ r, steps - (t + 1) = r := ⟨_, rfl⟩
  rw [hr, show steps - t = r + 1 by omega]
  conv => lhs; unfold colv
  dsimp only
  rw [show steps - (r + 1) = t by omega, if_pos htn]
theorem cv_one {f : Nat → Int} {n steps t k : Nat} (ht : t < steps) (htn : n ≤ t) : cv f n steps t k = stp none40 (ge f t k 0) (cv f n steps (t + 1) (k / 2)) := by
  unfold cv
  obtain ⟨r, hr⟩ : ∃ r, steps - (t + 1) = r := ⟨_, rfl⟩
  rw [hr, show steps - t = r + 1 by omega]
  conv => lhs; unfold colv
  dsimp only
  rw [show steps - (r + 1) = t by omega, if_neg (by omega)]
theorem cv_in {f : Nat → Int} (hf : ∀ j, -1000 ≤ f j ∧ f j ≤ 1000) {n steps u s : Nat} (hs : steps ≤ 4102) : cv f n steps u s = none40 ∨ -1000000000 ≤ cv f n steps u s ∧ cv f n steps u s ≤ 1000000000 := by
  rcases colv_in f hf n steps (steps - u) (by omega) s with h | h
  · exact Or.inl h
  · right; unfold cv; omega

/-- What best asks of the world. -/
def BestAt (f : Nat → Int) (lb lo gb ob_ : Nat) (n steps t k : Nat) (W : World) : Prop :=
  (∀ j, j < 4 * steps → W.cell? ⟨lb, lo + j, none⟩ = some (.int .i64 (f j))) ∧ (∃ G, W.heap[gb]? = some (.cells G 123 (0, 0)) ∧ IsGraph G 64) ∧ (∀ s, s < 64 → W.cell? ⟨ob_, (t + 1) * 64 + s, none⟩ = some (.int .i64 (cv f n steps (t + 1) s)))
theorem BestAt.of {f : Nat → Int} {lb lo gb n steps t k : Nat} {w W : World} {G : Array Value} (hl : ∀ j, j < 4 * steps → w.cell? ⟨lb, lo + j, none⟩ = some (.int .i64 (f j))) (hg : w.heap[gb]? = some (.cells G 123 (0, 0))) (hG : IsGraph G 64)
    (hR : FillRel w (cv f n steps) steps t k W) (ht : t < steps) : BestAt f lb lo gb w.heap.size n steps t k W := by
  obtain ⟨_, ⟨A, h1, h2⟩, h3⟩ := hR
  refine ⟨fun j hj => below_cell h3 (hl j hj), ⟨G, (h3.block _ (by have := (Array.getElem?_eq_some_iff.1 hg).1; exact this)).trans hg, hG⟩, fun s hs => ?_⟩
  rw [blk_cell h1, show (t + 1) * 64 + s = 64 * (t + 1) + s by omega]
  exact h2.2.1 (t + 1) (by omega) (by omega) s hs
theorem BestAt.drewN {f : Nat → Int} {lb lo gb ob_ n steps t k : Nat} {W : World} (h : BestAt f lb lo gb ob_ n steps t k W) (q : Nat) : BestAt f lb lo gb ob_ n steps t k (W.drewN q) := h

theorem best_at2 {f : Nat → Int} (hf : ∀ j, -1000 ≤ f j ∧ f j ≤ 1000) {lb lo gb ob_ n steps t k c1 c2 len : Nat} {W : World} (h : BestAt f lb lo gb ob_ n steps t k W) (hlen : 4 ≤ len) (ht : t < steps) (htn : t < n) (hk : k < 64) (hs : steps ≤ 4102) :
    Calls Tryd.prog 101 #[.slice (some ⟨lb, lo + 4 * t, none⟩) len c1, .slice (some ⟨gb, k * 14, none⟩) 2 c2, .pointer (some ⟨ob_, (t + 1) * 64, none⟩)] W fun e w' => e = .returned (.int .i64 (cv f n steps t k)) ∧ Below W.heap.size W w' := by
  obtain ⟨hl, ⟨G, hg, hG⟩, hc⟩ := h
  have hx : ∀ j, j < 4 → W.cell? ⟨lb, lo + 4 * t + j, none⟩ = some (.int .i64 (f (4 * t + j))) := fun j hj => by rw [Nat.add_assoc]; exact hl _ (by omega)
  have E := fun j hj v hv => graph_cell hg hG k hk j hj v hv
  rw [cv_two ht htn]
  exact best_2 lb (lo + 4 * t) len c1 gb (k * 14) c2 ob_ ((t + 1) * 64) (f (4 * t)) (f (4 * t + 1)) (f (4 * t + 2)) (f (4 * t + 3)) k (k / 2) 0 (ob k 0) (ob k 1) (ob k 2) (ob k 3) k ((k + 64) / 2) 1 (ob (k + 64) 0) (ob (k + 64) 1) (ob (k + 64) 2) (ob (k + 64) 3) _ _ W hlen
    (hx 0 (by omega)) (hx 1 (by omega)) (hx 2 (by omega)) (hx 3 (by omega))
    (E 0 (by omega) _ rfl) (E 1 (by omega) _ rfl) (E 2 (by omega) _ rfl) (E 3 (by omega) _ rfl) (E 4 (by omega) _ rfl) (E 5 (by omega) _ rfl) (E 6 (by omega) _ rfl) (E 7 (by omega) _ rfl) (E 8 (by omega) _ rfl) (E 9 (by omega) _ rfl) (E 10 (by omega) _ rfl) (E 11 (by omega) _ rfl) (E 12 (by omega) _ rfl) (E 13 (by omega) _ rfl)
    (hc _ (by omega)) (by omega) (cv_in hf hs) (hc _ (by omega)) (by omega) (cv_in hf hs) (hf _) (hf _) (hf _) (hf _)
theorem best_at1 {f : Nat → Int} (hf : ∀ j, -1000 ≤ f j ∧ f j ≤ 1000) {lb lo gb ob_ n steps t k c1 c2 len : Nat} {W : World} (h : BestAt f lb lo gb ob_ n steps t k W) (hlen : 4 ≤ len) (ht : t < steps) (hk : k < 64) (hs : steps ≤ 4102) :
    Calls Tryd.prog 101 #[.slice (some ⟨lb, lo + 4 * t, none⟩) len c1, .slice (some ⟨gb, k * 14, none⟩) 1 c2, .pointer (some ⟨ob_, (t + 1) * 64, none⟩)] W fun e w' => e = .returned (.int .i64 (stp none40 (ge f t k 0) (cv f n steps (t + 1) (k / 2)))) ∧ Below W.heap.size W w' := by
  obtain ⟨hl, ⟨G, hg, hG⟩, hc⟩ := h
  have hx : ∀ j, j < 4 → W.cell? ⟨lb, lo + 4 * t + j, none⟩ = some (.int .i64 (f (4 * t + j))) := fun j hj => by rw [Nat.add_assoc]; exact hl _ (by omega)
  have E := fun j hj v hv => graph_cell hg hG k hk j hj v hv
  exact best_1 lb (lo + 4 * t) len c1 gb (k * 14) c2 ob_ ((t + 1) * 64) (f (4 * t)) (f (4 * t + 1)) (f (4 * t + 2)) (f (4 * t + 3)) k (k / 2) 0 (ob k 0) (ob k 1) (ob k 2) (ob k 3) _ W hlen
    (hx 0 (by omega)) (hx 1 (by omega)) (hx 2 (by omega)) (hx 3 (by omega))
    (E 0 (by omega) _ rfl) (E 1 (by omega) _ rfl) (E 2 (by omega) _ rfl) (E 3 (by omega) _ rfl) (E 4 (by omega) _ rfl) (E 5 (by omega) _ rfl) (E 6 (by omega) _ rfl)
    (hc _ (by omega)) (by omega) (cv_in hf hs) (hf _) (hf _) (hf _) (hf _)

theorem info84 : (Tryd.prog.info? 130).map (fun i => (i.zero, i.size, i.bytes)) = some (some (.agg (Array.replicate 64 (.int .i64 0))), 64, 512) := by kernel_rfl
theorem size84 : (Tryd.prog.info? 130).map (·.size) = some 64 := by kernel_rfl
theorem make84 (w : World) (k : Nat) (hk : k ≤ 5000) : ∃ Z : Array Value, Z.size = 64 * (k + 1) ∧
    (Instr.makeSlice 126 (.int .i64 ((k : Int) + 1)) (.int .i64 ((k : Int) + 1))).run Tryd.prog w = .ok (.slice (some ⟨w.heap.size, 0, none⟩) (k + 1) (k + 1)) (w.alloc (.cells Z 130)) := by
  obtain ⟨i, hi, hz⟩ := Option.map_eq_some_iff.1 info84
  simp only [Prod.mk.injEq] at hz
  obtain ⟨h1, h2, h3⟩ := hz
  have := run_makeSlice (P := Tryd.prog) w 126 130 i _ Tryd.underlying126 hi h1 .i64 .i64 ((k : Int) + 1) ((k : Int) + 1) (by omega) (by omega) (by rw [h2]; omega) (by rw [h3]; omega) (by omega)
  refine ⟨_, ?_, this⟩
  rw [size_madeCells, h2]
  omega

set_option maxHeartbeats 3200000 in
set_option maxRecDepth 100000 in
theorem columns_any (f : Nat → Int) (hf : ∀ j, -1000 ≤ f j ∧ f j ≤ 1000) (n steps L lb lo c gb : Nat) (G : Array Value) (hL : L = 4 * steps) (hLc : L ≤ c) (hs1 : 1 ≤ steps) (hs : steps ≤ 4102) (w : World)
    (hl : ∀ j, j < 4 * steps → w.cell? ⟨lb, lo + j, none⟩ = some (.int .i64 (f j))) (hg : w.heap[gb]? = some (.cells G 123 (0, 0))) (hG : IsGraph G 64) :
    Calls Tryd.prog 86 #[.slice (some ⟨lb, lo, none⟩) L c, .int .i64 (n : Int), .pointer (some ⟨gb, 0, none⟩)] w fun e w' =>
      ∃ A, e = .returned (.slice (some ⟨w.heap.size, 0, none⟩) (steps + 1) (steps + 1)) ∧ w'.heap[w.heap.size]? = some (.cells A 130 (0, 0)) ∧ MidV A (cv f n steps) steps 0 64 ∧ Below w.heap.size w w' := by
  have HH := Aside0.mk (And.intro hl (And.intro hg (And.intro hG hf)))
  have hq : (L : Int).tdiv 4 = (steps : Int) := by subst hL; rw [Int.tdiv_eq_ediv_of_nonneg (by omega)]; omega
  have hw1 : IntKind.i64.wrap ((steps : Int) + 1) = (steps : Int) + 1 := IntWalk.i64_in _ (by omega)
  obtain ⟨Z, hZ, hmake⟩ := make84 w steps (by omega)
  have HZ := Aside0.mk hZ
  clear hZ
  clear hl hg hG hf
  go_enter Tryd.func86, Tryd.ntmps86
  go_wp2_with fail
  go_loopw [19] (fun i wr => ∃ k : Nat, i = .int .i64 k ∧ FillRel w (fun _ _ => none40) steps steps k wr) (fun i _ => 64 - (intOf i).toNat)
  case atStart => exact ⟨0, rfl, by omega, ⟨Z, heap_alloc_new _ _, HZ.out, fun u h1 h2 => by omega, fun s hs => by omega⟩, below_alloc (Below.refl _ _) _⟩
  case round =>
    obtain ⟨k, rfl, hR⟩ := hrel
    have HR := Aside0.mk hR
    have hst : (steps : Int) < (steps : Int) + 1 := by omega
    by_cases hk : k < 64
    · have hlt : (k : Int) < 64 := by omega
      obtain ⟨v, hv⟩ := hR.cell steps k (Nat.le_refl _) hk
      have hfr := hR.frozen
      clear hR
      go_wp2_with fail
      exact ⟨⟨k + 1, by go_num, HR.out.next hk (Nat.le_refl _)⟩, by simp [intOf]; omega⟩
    · have hge : ¬ (k : Int) < 64 := by omega
      have hk64 : k = 64 := by have := hR.1; omega
      subst hk64
      obtain ⟨v, hv⟩ := hR.cell steps 0 (Nat.le_refl _) (by omega)
      rw [Nat.add_zero] at hv
      have hfr := hR.frozen
      clear hR
      have hsub : IntKind.i64.wrap ((steps : Int) - 1) = (steps : Int) - 1 := IntWalk.i64_in _ (by omega)
      go_wp2_with fail
      go_loopw [10] (fun i wr => ∃ m : Nat, m ≤ steps ∧ i = .int .i64 ((m : Int) - 1) ∧ FillRel w (cv f n steps) steps m 64 wr) (fun i _ => (intOf i + 1).toNat)
      case atStart =>
        obtain ⟨_, ⟨A, h1, h2⟩, h3⟩ := HR.out
        exact ⟨steps, Nat.le_refl _, by go_num, Nat.le_refl _, ⟨_, blk_set h1 _ _, h2.start⟩, h3.setCell (Nat.le_refl _) _⟩
      case round =>
        obtain ⟨m, hm, rfl, hR2⟩ := hrel
        have HR2 := Aside0.mk hR2
        clear HR hv hfr hR2
        by_cases hm0 : m = 0
        · subst hm0
          go_wp2_with fail
          go_ret
          obtain ⟨A, h1, h2⟩ := HR2.out.2.1
          exact ⟨A, rfl, h1, h2, HR2.out.2.2⟩
        · obtain ⟨t, rfl⟩ : ∃ t, m = t + 1 := ⟨m - 1, by omega⟩
          have htt : ((t + 1 : Nat) : Int) - 1 = (t : Int) := by omega
          have hge2 : (0 : Int) ≤ (t : Int) := by omega
          have hmul : IntKind.i64.wrap (4 * (t : Int)) = 4 * (t : Int) := IntWalk.i64_in _ (by omega)
          have hadd : IntKind.i64.wrap ((t : Int) + 1) = (t : Int) + 1 := IntWalk.i64_in _ (by omega)
          have ht1 : (t : Int) < (steps : Int) + 1 := by omega
          have ht2 : (t : Int) + 1 < (steps : Int) + 1 := by omega
          have ht3 : (4 : Int) * t ≤ 4 * steps := by omega
          have HT := Aside0.mk (And.intro (show t < steps by omega) hm)
          have q1 : (4 * (t : Int)).toNat = 4 * t := by omega
          have q2 : (0 : Int) ≤ 4 * (t : Int) := by omega
          have q3 : t ≤ steps := by omega
          have q5 : (0 : Int) ≤ (t : Int) + 1 := by omega
          have q4 : ¬ c = 4 * t := by omega
          rw [htt]
          by_cases htn : t < n
          · have htn' : ¬ (n : Int) ≤ (t : Int) := by omega
            have htd : decide ((n : Int) ≤ (t : Int)) = false := by simp; omega
            have htd2 : decide (n ≤ t) = false := by simp; omega
            go_wp2_with fail
            go_loopw [41] (fun i wr => ∃ k : Nat, i = .int .i64 k ∧ FillRel w (cv f n steps) steps t k wr) (fun i _ => 64 - (intOf i).toNat)
            case atStart => exact ⟨0, rfl, by omega, (match HR2.out.2.1 with | ⟨A, h1, h2⟩ => ⟨A, h1, h2.down hm⟩), HR2.out.2.2⟩
            case round =>
              obtain ⟨k, rfl, hR⟩ := hrel
              have HR := Aside0.mk hR
              by_cases hk : k < 64
              · have hlt : (k : Int) < 64 := by omega
                have HBA := Aside0.mk (BestAt.of HH.out.1 HH.out.2.1 HH.out.2.2.1 hR HT.out.1)
                have HC := Aside0.mk (best_at2 (c1 := c - 4 * t) (c2 := 2) (len := 4 * steps - 4 * t) (W := wr.drew) HH.out.2.2.2 HBA.out (by have := HT.out.1; omega) HT.out.1 htn hk hs)
                obtain ⟨v2, hv2⟩ := hR.cell t k (by omega) hk
                have HV := Aside0.mk (And.intro hv2 (hR.frozen (t * 64 + k)))
                clear hR hv2
                go_upto_region 18 with fail
                go_region_law ((go_simp; go_at_call 101; refine HC.out.mono ?_; rintro e w2 ⟨rfl, hB2⟩; have c2 := below_cell hB2 (show wr.drew.cell? _ = _ from HV.out.1); have fz2 := (hB2.frozen (lies_lt (w := wr.drew) HV.out.1)).trans HV.out.2; have HB2 := Aside0.mk hB2; clear hB2))
                have hF := (FillRel.below (HR.out.drew) HB2.out).next hk (Nat.le_of_lt HT.out.1)
                have HF := Aside0.mk hF
                clear hF
                go_wp2_with fail
                exact ⟨⟨k + 1, by go_num, HF.out⟩, by simp [intOf]; omega⟩
              · have hge : ¬ (k : Int) < 64 := by omega
                have hk64 : k = 64 := by have := hR.1; omega
                subst hk64
                clear hR
                go_wp2_with fail
                exact ⟨⟨t, by omega, rfl, HR.out⟩, by simp [intOf]⟩
          · have htn' : (n : Int) ≤ (t : Int) := by omega
            have htd : decide ((n : Int) ≤ (t : Int)) = true := by simp; omega
            have htd2 : decide (n ≤ t) = true := by simp; omega
            go_wp2_with fail
            go_loopw [41] (fun i wr => ∃ k : Nat, i = .int .i64 k ∧ FillRel w (cv f n steps) steps t k wr) (fun i _ => 64 - (intOf i).toNat)
            case atStart => exact ⟨0, rfl, by omega, (match HR2.out.2.1 with | ⟨A, h1, h2⟩ => ⟨A, h1, h2.down hm⟩), HR2.out.2.2⟩
            case round =>
              obtain ⟨k, rfl, hR⟩ := hrel
              have HR := Aside0.mk hR
              by_cases hk : k < 64
              · have hlt : (k : Int) < 64 := by omega
                have HBA := Aside0.mk (BestAt.of HH.out.1 HH.out.2.1 HH.out.2.2.1 hR HT.out.1)
                have HC := Aside0.mk (best_at1 (c1 := c - 4 * t) (c2 := 2) (len := 4 * steps - 4 * t) (W := wr.drew) HH.out.2.2.2 HBA.out (by have := HT.out.1; omega) HT.out.1 hk hs)
                obtain ⟨v2, hv2⟩ := hR.cell t k (by omega) hk
                have HV := Aside0.mk (And.intro hv2 (hR.frozen (t * 64 + k)))
                clear hR hv2
                go_upto_region 18 with fail
                go_region_law ((go_simp; go_at_call 101; refine HC.out.mono ?_; rintro e w2 ⟨rfl, hB2⟩; have c2 := below_cell hB2 (show wr.drew.cell? _ = _ from HV.out.1); have fz2 := (hB2.frozen (lies_lt (w := wr.drew) HV.out.1)).trans HV.out.2; have HB2 := Aside0.mk hB2; clear hB2))
                have hF := (FillRel.below (HR.out.drew) HB2.out).next hk (Nat.le_of_lt HT.out.1)
                rw [cv_one HT.out.1 (by omega)] at hF
                have HF := Aside0.mk hF
                clear hF
                go_wp2_with fail
                exact ⟨⟨k + 1, by go_num, HF.out⟩, by simp [intOf]; omega⟩
              · have hge : ¬ (k : Int) < 64 := by omega
                have hk64 : k = 64 := by have := hR.1; omega
                subst hk64
                clear hR
                go_wp2_with fail
                exact ⟨⟨t, by omega, rfl, HR.out⟩, by simp [intOf]⟩

end Go.Proofs.YtnejnnfjbhpigaaDoor.Vit

namespace Go.Proofs.YtnejnnfjbhpigaaDoor.Vit
open Go.RowKit Go.Proofs.YtnejnnfjbhpigaaDoorW.PrintWords Go.Proofs.YtnejnnfjbhpigaaDoorW.PrintLast Go.Proofs.YtnejnnfjbhpigaaDoorW.PrintMore Go.Proofs.YtnejnnfjbhpigaaDoor.Mem
attribute [local go_sem] max2_int min2_int max_two min_two max_three min_three max_four min_four   -- for this text's walks alone
set_option linter.unusedVariables false
set_option linter.unusedSimpArgs false

/-- The bit that the best way takes at a step, in a state: of several by 0. -/
def pick (f : Nat → Int) (n steps t s : Nat) : Nat := if stp none40 (ge f t s 0) (cv f n steps (t + 1) (s / 2)) = cv f n steps t s then 0 else 1
/-- The state in which the best way is. -/
def sta (f : Nat → Int) (n steps : Nat) : Nat → Nat
  | 0 => 0
  | t + 1 => (sta f n steps t + 64 * pick f n steps t (sta f n steps t)) / 2
theorem pick_le (f : Nat → Int) (n steps t s : Nat) : pick f n steps t s ≤ 1 := by unfold pick; split <;> omega
theorem sta_lt (f : Nat → Int) (n steps : Nat) : ∀ t, sta f n steps t < 64
  | 0 => by unfold sta; omega
  | t + 1 => by
    have h1 := sta_lt f n steps t
    have h2 := pick_le f n steps t (sta f n steps t)
    unfold sta
    omega
/-- The bits of the best way. -/
def way (f : Nat → Int) (n steps k : Nat) : List Int := (List.range k).map fun t => (pick f n steps t (sta f n steps t) : Int)
theorem way_next (f : Nat → Int) (n steps k : Nat) : way f n steps (k + 1) = way f n steps k ++ [(pick f n steps k (sta f n steps k) : Int)] := by
  unfold way
  rw [List.range_succ, List.map_append]
  rfl
theorem way_len (f : Nat → Int) (n steps k : Nat) : (way f n steps k).length = k := by simp [way]

theorem BestAt.later {f : Nat → Int} {lb lo gb cb n steps t k : Nat} {w W : World} {G A : Array Value} (hl : ∀ j, j < 4 * steps → w.cell? ⟨lb, lo + j, none⟩ = some (.int .i64 (f j))) (hg : w.heap[gb]? = some (.cells G 123 (0, 0))) (hG : IsGraph G 64)
    (hA : w.heap[cb]? = some (.cells A 130 (0, 0))) (hM : MidV A (cv f n steps) steps 0 64) (hB : Below w.heap.size w W) (ht : t < steps) : BestAt f lb lo gb cb n steps t k W := by
  refine ⟨fun j hj => below_cell hB (hl j hj), ⟨G, (hB.block _ (Array.getElem?_eq_some_iff.1 hg).1).trans hg, hG⟩, fun s hs => below_cell hB ?_⟩
  rw [blk_cell hA, show (t + 1) * 64 + s = 64 * (t + 1) + s by omega]
  exact hM.2.1 (t + 1) (by omega) (by omega) s hs
theorem col_cell {f : Nat → Int} {cb n steps t k : Nat} {w W : World} {A : Array Value} (hA : w.heap[cb]? = some (.cells A 130 (0, 0))) (hM : MidV A (cv f n steps) steps 0 64) (hB : Below w.heap.size w W) (ht : t < steps) (hk : k < 64) :
    W.cell? ⟨cb, t * 64 + k, none⟩ = some (.int .i64 (cv f n steps t k)) := by
  refine below_cell hB ?_
  rw [blk_cell hA, show t * 64 + k = 64 * t + k by omega]
  by_cases h0 : t = 0
  · subst h0; exact hM.2.2 k hk
  · exact hM.2.1 t (by omega) (by omega) k hk
theorem below_cell_blk {w W : World} (hB : Below w.heap.size w W) {b : Nat} {o : Obj} (h : w.heap[b]? = some o) : W.heap[b]? = some o := (hB.block b (Array.getElem?_eq_some_iff.1 h).1).trans h
theorem cell_of_grown {w w1 : World} {a : Addr} {v : Value} {row : Option Nat} (h : w.cell? a = some v) (hg : w.grownBy w1 row) (hne : some a.block ≠ row) : w1.cell? a = some v :=
  (World.cell?_of_block (w := w) (hg.block a.block (lies_lt h) hne)).trans h
theorem info5 : (Tryd.prog.info? 5).map (fun i => (i.zero, i.size, i.bytes)) = some (some (.int .u8 0), 1, 1) := by kernel_rfl
/-- A loop's state in trace. -/
def TraceRel (w : World) (f : Nat → Int) (n steps t : Nat) (v : Value) (wr : World) : Prop :=
  t ≤ n ∧ (Kd.int .u8).R 5 wr w.heap.size (fun _ => True) v (way f n steps t) ∧ Below w.heap.size w wr

set_option maxHeartbeats 3200000 in
set_option maxRecDepth 100000 in
theorem trace_any (f : Nat → Int) (hf : ∀ j, -1000 ≤ f j ∧ f j ≤ 1000) (n steps L lb lo c gb cb : Nat) (G A : Array Value) (hL : L = 4 * steps) (hLc : L ≤ c) (hn : n < steps) (hs : steps ≤ 4102) (w : World)
    (hl : ∀ j, j < 4 * steps → w.cell? ⟨lb, lo + j, none⟩ = some (.int .i64 (f j))) (hg : w.heap[gb]? = some (.cells G 123 (0, 0))) (hG : IsGraph G 64) (hA : w.heap[cb]? = some (.cells A 130 (0, 0))) (hM : MidV A (cv f n steps) steps 0 64) :
    Calls Tryd.prog 87 #[.slice (some ⟨lb, lo, none⟩) L c, .int .i64 (n : Int), .pointer (some ⟨gb, 0, none⟩), .slice (some ⟨cb, 0, none⟩) (steps + 1) (steps + 1)] w fun e w' =>
      ∃ v, e = .returned v ∧ (Kd.int .u8).R 5 w' w.heap.size (fun _ => True) v (way f n steps n) ∧ Below w.heap.size w w' := by
  subst hL
  have HH := Aside0.mk (And.intro hl (And.intro hg (And.intro hG (And.intro hA (And.intro hM hf)))))
  clear hl hg hG hA hM hf
  go_enter Tryd.func87, Tryd.ntmps87
  go_wp2_with fail
  go_loopw [9, 10, 14] (fun o s i wr => ∃ t : Nat, i = .int .i64 t ∧ s = .int .i64 (sta f n steps t : Nat) ∧ TraceRel w f n steps t o wr) (fun _ _ i _ => n - (intOf i).toNat)
  case atStart =>
    exact ⟨0, rfl, rfl, Nat.zero_le _, Kd.R_nil _ _ _ _ _, Below.refl _ _⟩
  case round =>
    obtain ⟨t, rfl, rfl, hR⟩ := hrel
    have HR := Aside0.mk hR
    by_cases htn : t < n
    · have hlt : (t : Int) < (n : Int) := by omega
      have hsl := sta_lt f n steps t
      obtain ⟨x, hx⟩ : ∃ x, sta f n steps t = x := ⟨_, rfl⟩
      rw [hx] at hsl
      have HX := Aside0.mk hx
      rw [hx]
      have hxl : (x : Int) < 64 := by omega
      have hBw := hR.2.2
      have hgw := (hBw.block gb (Array.getElem?_eq_some_iff.1 HH.out.2.1).1).trans HH.out.2.1
      have E := fun j hj v hv => graph_cell hgw HH.out.2.2.1 x hsl j hj v hv
      have E0 := E 0 (by omega) _ rfl
      have E1 := E 1 (by omega) _ rfl
      have E2 := E 2 (by omega) _ rfl
      have E3 := E 3 (by omega) _ rfl
      have E4 := E 4 (by omega) _ rfl
      have E5 := E 5 (by omega) _ rfl
      have E6 := E 6 (by omega) _ rfl
      rw [Nat.add_zero] at E0
      have HGW := Aside0.mk hgw
      clear E hgw hBw hx hR
      go_upto_region 7 with fail
      obtain ⟨W0, hW0⟩ : ∃ W0, wr.alloc (.cells #[.int .i64 (x : Int), .int .i64 ((x : Int) / 2), .int .u8 0, .int .u8 (ob x 0 : Nat), .int .u8 (ob x 1 : Nat), .int .u8 (ob x 2 : Nat), .int .u8 (ob x 3 : Nat)] 120) = W0 := ⟨_, rfl⟩
      have hB0 : Below w.heap.size w W0 := by rw [← hW0]; exact below_alloc HR.out.2.2 _
      have hsz : W0.heap.size = wr.heap.size + 1 := by rw [← hW0]; simp
      rw [hW0]
      have HW0 := Aside0.mk (And.intro hW0 (And.intro hB0 hsz))
      clear hW0 hB0 hsz
      obtain ⟨S1, hS1⟩ : ∃ S1, stp none40 (ge f t x 0) (cv f n steps (t + 1) (x / 2)) = S1 := ⟨_, rfl⟩
      obtain ⟨C1, hC1⟩ : ∃ C1, cv f n steps t x = C1 := ⟨_, rfl⟩
      have HSC := Aside0.mk (And.intro hS1 hC1)
      clear hS1 hC1
      go_cut [43] (fun s43 wx => s43 = .bool (decide (¬ S1 = C1)) ∧ Below W0.heap.size W0 wx)
      case first =>
        have q1 : (4 * (t : Int)).toNat = 4 * t := by omega
        have q2 : (0 : Int) ≤ 4 * (t : Int) := by omega
        have q3 : t ≤ steps := by omega
        have q5 : (0 : Int) ≤ (t : Int) + 1 := by omega
        have q4 : ¬ c = 4 * t := by omega
        have hmul : IntKind.i64.wrap (4 * (t : Int)) = 4 * (t : Int) := IntWalk.i64_in _ (by omega)
        have hadd : IntKind.i64.wrap ((t : Int) + 1) = (t : Int) + 1 := IntWalk.i64_in _ (by omega)
        have ht1 : (t : Int) < (steps : Int) + 1 := by omega
        have ht2 : (t : Int) + 1 < (steps : Int) + 1 := by omega
        have ht3 : (4 : Int) * t ≤ 4 * steps := by omega
        have hb1 : Below w.heap.size w W0.drew := pw_below_drewN HW0.out.2.1 1
        have HC := Aside0.mk (best_at1 (t := t) (n := n) (c1 := c - 4 * t) (c2 := 2) (len := 4 * steps - 4 * t) (W := W0.drew) HH.out.2.2.2.2.2 (BestAt.later (k := x) HH.out.1 HH.out.2.1 HH.out.2.2.1 HH.out.2.2.2.1 HH.out.2.2.2.2.1 hb1 (by omega)) (by omega) (by omega) hsl hs)
        have k0 := col_cell HH.out.2.2.2.1 HH.out.2.2.2.2.1 hb1 (show t < steps by omega) hsl
        have hc1 := HC.out
        rw [HSC.out.1] at hc1
        rw [HSC.out.2] at k0
        have HC1 := Aside0.mk hc1
        clear hb1 hc1
        go_region_held3 (fun w' => w'.cell? ⟨cb, t * 64 + x, none⟩ = some (.int .i64 C1)) (first | go_keep) (first | (go_at_call 101; refine HC1.out.mono ?_; rintro e w2 ⟨rfl, hB2⟩; have k2 := below_cell hB2 k0; have HB2 := Aside0.mk hB2; clear hB2))
        all_goals go_wp2_with fail
        all_goals go_meet
        all_goals (refine ⟨?_, (pw_below_drewN (Below.refl _ _) 1).trans HB2.out⟩)
        all_goals (by_cases hsc : S1 = C1 <;> simp [hsc])
      case rest =>
        obtain ⟨rfl, hBc⟩ := hcut
        have hwcb : wc.heap[wr.heap.size]? = some (.cells #[.int .i64 (x : Int), .int .i64 ((x : Int) / 2), .int .u8 0, .int .u8 (ob x 0 : Nat), .int .u8 (ob x 1 : Nat), .int .u8 (ob x 2 : Nat), .int .u8 (ob x 3 : Nat)] 120 (0, 0)) :=
          (hBc.block wr.heap.size (by rw [HW0.out.2.2]; omega)).trans (by rw [← HW0.out.1]; exact Array.getElem?_push_size)
        have hBw : Below w.heap.size w wc := HW0.out.2.1.trans (hBc.mono (below_size HW0.out.2.1))
        have hRc : (Kd.int .u8).R 5 wc w.heap.size (fun k => k ≠ wr.heap.size) u9 (way f n steps t) := by
          refine Kd.R_step (Kd.R_mono (Kd.R_bound HR.out.2.1) (fun k hk => Nat.ne_of_lt hk.2.2.1)) (fun k _ hk => ?_)
          exact (hBc.block k (by rw [HW0.out.2.2]; omega)).trans (by rw [← HW0.out.1]; exact Below.heap_alloc wr _ k hk)
        have HWC := Aside0.mk (And.intro hwcb (And.intro hBw hRc))
        clear hBc hBw hRc hwcb
        by_cases hsc : S1 = C1
        · have hd : decide (¬ S1 = C1) = false := by simp [hsc]
          have HP := Aside0.mk hsc
          rw [hd]
          clear hsc hd
          obtain ⟨WX, hWX⟩ : ∃ WX, wc = WX := ⟨_, rfl⟩
          have X1 : WX.cell? ⟨wr.heap.size, 1, none⟩ = some (.int .i64 ((x : Int) / 2)) := by rw [← hWX]; exact blk_cell HWC.out.1 1
          have X2 : WX.cell? ⟨wr.heap.size, 2, none⟩ = some (.int .u8 0) := by rw [← hWX]; exact blk_cell HWC.out.1 2
          have SX : wr.heap.size < WX.heap.size := by rw [← hWX]; exact blk_lt HWC.out.1
          have RX := HWC.out.2.2
          have BX := HWC.out.2.1
          rw [hWX] at RX BX
          rw [hWX]
          clear hWX
          obtain ⟨P, hP⟩ : ∃ P : Int, 0 = P := ⟨_, rfl⟩
          have HPV := Aside0.mk hP
          rw [hP] at X2
          clear hP
          have HX12 := Aside0.mk (And.intro X1 (And.intro X2 (And.intro SX (And.intro RX BX))))
          clear X1 SX RX BX
          go_wp2_with (first | ((with_reducible refine gate_builtin (b := .append) (xs := #[.tmp 50, .tmp 53]) rfl ?_); at_builtin; refine Kd.R_append (Kd.int .u8) (w0 := w) w.heap.size rfl (.tmp 50) (.tmp 53) 22 5 (.int .u8 0) 1 rfl Tryd.underlying22 info5 rfl (by decide) (by omega) u9 (way f n steps t) P [.int .u8 P] (fun k => k ≠ wr.heap.size) (fun _ => False) rfl rfl ?aP (fun _ hk => hk.elim) ?aF ?aO ?aB ?aS ?aL ?_; (case aP => exact rfl); (case aB => exact HX12.out.2.2.2.2); (case aF => exact (fun k hk => by have := HX12.out.2.2.1; omega)); (case aO => exact HX12.out.2.2.2.1); (case aS => exact below_size HX12.out.2.2.2.2); (case aL => rw [way_len]; omega); intro v1 w7 ho hb hg hat; have k1 := cell_of_grown HX12.out.1 hg (fun h => HX12.out.2.2.2.1.1 _ h.symm rfl); have HN := Aside0.mk (And.intro ho hb); clear ho hb hg hat))
          have hp : pick f n steps t x = 0 := by
            have h1 := HSC.out.1
            have h2 := HSC.out.2
            have h3 := HP.out
            unfold pick
            rw [h1, h2]
            simp [h3]
          have hst : sta f n steps (t + 1) = (x + 64 * 0) / 2 := by
            show (sta f n steps t + 64 * pick f n steps t (sta f n steps t)) / 2 = _
            rw [HX.out, hp]
          have hwy : way f n steps (t + 1) = way f n steps t ++ [P] := by
            rw [way_next, HX.out, hp, ← HPV.out]
            rfl
          refine ⟨⟨t + 1, by go_num, ?_, by omega, ?_, HN.out.2⟩, by simp only [intOf]; omega⟩
          · rw [hst]; congr 1
          · rw [hwy]; exact Kd.R_mono HN.out.1 (fun _ _ => trivial)
        · have hd : decide (¬ S1 = C1) = true := by simp [hsc]
          have HP := Aside0.mk hsc
          rw [hd]
          clear hsc hd
          have E := fun j hj v hv => graph_cell (below_cell_blk HWC.out.2.1 HH.out.2.1) HH.out.2.2.1 x hsl j hj v hv
          have E7 := E 7 (by omega) _ rfl
          have E8 := E 8 (by omega) _ rfl
          have E9 := E 9 (by omega) _ rfl
          have E10 := E 10 (by omega) _ rfl
          have E11 := E 11 (by omega) _ rfl
          have E12 := E 12 (by omega) _ rfl
          have E13 := E 13 (by omega) _ rfl
          have M := fun j => blk_cell (i := j) HWC.out.1
          have M0 : wc.cell? ⟨wr.heap.size, 0, none⟩ = _ := M 0
          have M1 : wc.cell? ⟨wr.heap.size, 1, none⟩ = _ := M 1
          have M2 : wc.cell? ⟨wr.heap.size, 2, none⟩ = _ := M 2
          have M3 : wc.cell? ⟨wr.heap.size, 3, none⟩ = _ := M 3
          have M4 : wc.cell? ⟨wr.heap.size, 4, none⟩ = _ := M 4
          have M5 : wc.cell? ⟨wr.heap.size, 5, none⟩ = _ := M 5
          have M6 : wc.cell? ⟨wr.heap.size, 6, none⟩ = _ := M 6
          have F := fun j => blk_frozen HWC.out.1 j
          have F0 : wc.frozen? ⟨wr.heap.size, 0, none⟩ = false := F 0
          have F1 : wc.frozen? ⟨wr.heap.size, 1, none⟩ = false := F 1
          have F2 : wc.frozen? ⟨wr.heap.size, 2, none⟩ = false := F 2
          have F3 : wc.frozen? ⟨wr.heap.size, 3, none⟩ = false := F 3
          have F4 : wc.frozen? ⟨wr.heap.size, 4, none⟩ = false := F 4
          have F5 : wc.frozen? ⟨wr.heap.size, 5, none⟩ = false := F 5
          have F6 : wc.frozen? ⟨wr.heap.size, 6, none⟩ = false := F 6
          clear E M F E0 E1 E2 E3 E4 E5 E6
          go_upto_region 9 with fail
          obtain ⟨WX, hWX⟩ : ∃ WX, ((((((wc.setCell ⟨wr.heap.size, 0, none⟩ (.int .i64 (x : Int))).setCell ⟨wr.heap.size, 1, none⟩ (.int .i64 (((x : Int) + 64) / 2))).setCell ⟨wr.heap.size, 2, none⟩ (.int .u8 1)).setCell ⟨wr.heap.size, 3, none⟩ (.int .u8 (ob (x + 64) 0 : Nat))).setCell ⟨wr.heap.size, 4, none⟩ (.int .u8 (ob (x + 64) 1 : Nat))).setCell ⟨wr.heap.size, 5, none⟩ (.int .u8 (ob (x + 64) 2 : Nat))).setCell ⟨wr.heap.size, 6, none⟩ (.int .u8 (ob (x + 64) 3 : Nat)) = WX := ⟨_, rfl⟩
          have X1 : WX.cell? ⟨wr.heap.size, 1, none⟩ = some (.int .i64 (((x : Int) + 64) / 2)) := by subst hWX; go_simp
          have X2 : WX.cell? ⟨wr.heap.size, 2, none⟩ = some (.int .u8 1) := by subst hWX; go_simp
          have SX : wr.heap.size < WX.heap.size := by rw [← hWX]; simpa using blk_lt HWC.out.1
          have RX : (Kd.int .u8).R 5 WX w.heap.size (fun k => k ≠ wr.heap.size) u9 (way f n steps t) := by
            rw [← hWX]
            exact Kd.R_far (Kd.R_far (Kd.R_far (Kd.R_far (Kd.R_far (Kd.R_far (Kd.R_far HWC.out.2.2 (fun _ h => h) _) (fun _ h => h) _) (fun _ h => h) _) (fun _ h => h) _) (fun _ h => h) _) (fun _ h => h) _) (fun _ h => h) _
          have BX : Below w.heap.size w WX := by
            have hle := below_size HR.out.2.2
            rw [← hWX]
            exact (((((((HWC.out.2.1).setCell hle _).setCell hle _).setCell hle _).setCell hle _).setCell hle _).setCell hle _).setCell hle _
          rw [hWX]
          clear hWX F0 F1 F2 F3 F4 F5 F6 M0 M1 M2 M3 M4 M5 M6 E7 E8 E9 E10 E11 E12 E13
          obtain ⟨P, hP⟩ : ∃ P : Int, 1 = P := ⟨_, rfl⟩
          have HPV := Aside0.mk hP
          rw [hP] at X2
          clear hP
          have HX12 := Aside0.mk (And.intro X1 (And.intro X2 (And.intro SX (And.intro RX BX))))
          clear X1 SX RX BX
          go_wp2_with (first | ((with_reducible refine gate_builtin (b := .append) (xs := #[.tmp 50, .tmp 53]) rfl ?_); at_builtin; refine Kd.R_append (Kd.int .u8) (w0 := w) w.heap.size rfl (.tmp 50) (.tmp 53) 22 5 (.int .u8 0) 1 rfl Tryd.underlying22 info5 rfl (by decide) (by omega) u9 (way f n steps t) P [.int .u8 P] (fun k => k ≠ wr.heap.size) (fun _ => False) rfl rfl ?aP (fun _ hk => hk.elim) ?aF ?aO ?aB ?aS ?aL ?_; (case aP => exact rfl); (case aB => exact HX12.out.2.2.2.2); (case aF => exact (fun k hk => by have := HX12.out.2.2.1; omega)); (case aO => exact HX12.out.2.2.2.1); (case aS => exact below_size HX12.out.2.2.2.2); (case aL => rw [way_len]; omega); intro v1 w7 ho hb hg hat; have k1 := cell_of_grown HX12.out.1 hg (fun h => HX12.out.2.2.2.1.1 _ h.symm rfl); have HN := Aside0.mk (And.intro ho hb); clear ho hb hg hat))
          have hp : pick f n steps t x = 1 := by
            have h1 := HSC.out.1
            have h2 := HSC.out.2
            have h3 := HP.out
            unfold pick
            rw [h1, h2]
            simp [h3]
          have hst : sta f n steps (t + 1) = (x + 64 * 1) / 2 := by
            show (sta f n steps t + 64 * pick f n steps t (sta f n steps t)) / 2 = _
            rw [HX.out, hp]
          have hwy : way f n steps (t + 1) = way f n steps t ++ [P] := by
            rw [way_next, HX.out, hp, ← HPV.out]
            rfl
          refine ⟨⟨t + 1, by go_num, ?_, by omega, ?_, HN.out.2⟩, by simp only [intOf]; omega⟩
          · rw [hst]; congr 1
          · rw [hwy]; exact Kd.R_mono HN.out.1 (fun _ _ => trivial)
    · have hge : ¬ (t : Int) < (n : Int) := by omega
      have htn2 : t = n := by have := hR.1; omega
      subst htn2
      clear hR
      go_wp2_with fail
      go_ret
      exact ⟨_, rfl, HR.out.2.1, HR.out.2.2⟩

end Go.Proofs.YtnejnnfjbhpigaaDoor.Vit

namespace Go.Proofs.YtnejnnfjbhpigaaDoor.Vit
open Go.RowKit Go.Proofs.YtnejnnfjbhpigaaDoorW.PrintWords Go.Proofs.YtnejnnfjbhpigaaDoorW.PrintLast Go.Proofs.YtnejnnfjbhpigaaDoorW.PrintMore Go.Proofs.YtnejnnfjbhpigaaDoor.Mem
attribute [local go_sem] max2_int min2_int max_two min_two max_three min_three max_four min_four   -- for this text's walks alone
set_option linter.unusedVariables false
set_option linter.unusedSimpArgs false

/-- A number within the bounds. -/
def clip (x : Int) : Int := max (min x 31) (-31)
theorem Clip_any (x : Int) (w : World) : Calls Tryd.prog 80 #[.int .i64 x] w fun e w' => e = .returned (.int .i64 (clip x)) ∧ ∃ q, w' = w.drewN q := by
  go_enter Tryd.func80, Tryd.ntmps80
  go_wp2_with fail
  all_goals (go_ret; refine ⟨?_, 0, rfl⟩; refine congrArg (fun i => Ending.returned (Value.int .i64 i)) ?_; unfold clip; split at * <;> omega)
theorem nclip_any (x : Int) (w : World) : Calls Tryd.prog 84 #[.int .i64 x] w fun e w' => e = .returned (.bool (x != clip x)) ∧ ∃ q, w' = w.drewN q := by
  go_enter Tryd.func84, Tryd.ntmps84
  go_wp2_with (go_at_call 80; refine (Clip_any x _).mono ?_; rintro e w1 ⟨rfl, q1, rfl⟩)
  go_ret
  exact ⟨rfl, _, rfl⟩
theorem IndexFunc_any (xs : List Int) (A : Option Addr) (c : Nat) (w : World) (hC : (Kd.int .i64).C w A xs.length xs) (hc : xs.length ≤ c) (hn : xs.length ≤ 140737488355328) :
    Calls Tryd.prog 99 #[.slice A xs.length c, .func (.func 84) #[] #[]] w fun e w' =>
      (∃ i : Int, e = .returned (.int .i64 i) ∧ (0 ≤ i ↔ ∃ x ∈ xs, x ≠ clip x)) ∧ ∃ q, w' = w.drewN q := by
  have HC := Aside0.mk hC
  clear hC
  go_enter Tryd.func99, Tryd.ntmps99
  go_wp2_with fail
  go_loopw [5, 8] (fun _ i wr => ∃ t : Nat, i = .int .i64 t ∧ t ≤ xs.length ∧ (∃ q, wr = w.drewN q) ∧ Aside0 (∀ x, x ∈ xs.take t → x = clip x)) (fun _ i _ => xs.length - (intOf i).toNat)
  case atStart =>
    exact ⟨0, rfl, Nat.zero_le _, ⟨0, rfl⟩, ⟨fun x hx => absurd hx (by simp)⟩⟩
  case round =>
    obtain ⟨t, rfl, ht, ⟨q, rfl⟩, hR⟩ := hrel
    by_cases htn : t < xs.length
    · have hlt : (t : Int) < (xs.length : Int) := by omega
      obtain ⟨ad, hA, hx⟩ := Kd.at_int HC.out (t : Int) (by omega) hlt
      cases hA
      obtain ⟨x, hrd⟩ : ∃ x, rd xs t = x := ⟨_, rfl⟩
      rw [hrd] at hx
      have hge : xs[t]? = some x := by
        rw [← hrd]
        simp [rd, List.getD, List.getElem?_eq_getElem htn]
      have HG := Aside0.mk hge
      have hx : ∀ q, (w.drewN q).cell? (ad.add t) = some (.int .i64 x) := fun _ => hx
      clear hrd hge
      by_cases hq : x = clip x
      · have hb : (x != clip x) = false := by simp [← hq]
        have HQ := Aside0.mk hq
        have hcall := fun W => nclip_any x W
        rw [hb] at hcall
        clear hq hb
        go_wp2_with (go_at_call 84; refine (hcall _).mono ?_; rintro e w1 ⟨rfl, q1, rfl⟩)
        refine ⟨⟨t + 1, by go_num, by omega, ⟨_, rfl⟩, ⟨?_⟩⟩, by simp only [intOf]; omega⟩
        intro y hy
        rw [List.take_add_one, HG.out] at hy
        rcases List.mem_append.1 hy with h | h
        · exact hR.out y h
        · have : y = x := by simpa using h
          rw [this]
          exact HQ.out
      · have hb : (x != clip x) = true := by simpa using hq
        have HQ := Aside0.mk hq
        have hcall := fun W => nclip_any x W
        rw [hb] at hcall
        clear hq hb
        go_wp2_with (go_at_call 84; refine (hcall _).mono ?_; rintro e w1 ⟨rfl, q1, rfl⟩)
        go_ret
        exact ⟨⟨_, rfl, fun _ => ⟨x, List.mem_of_getElem? HG.out, HQ.out⟩, fun _ => by omega⟩, _, rfl⟩
    · have hlt : ¬ (t : Int) < (xs.length : Int) := by omega
      have hte : t = xs.length := by omega
      subst hte
      go_wp2_with fail
      go_ret
      refine ⟨⟨_, rfl, fun h => by omega, fun ⟨x, hx, hne⟩ => absurd (hR.out x (by rw [List.take_length]; exact hx)) hne⟩, q, rfl⟩
theorem ContainsFunc_any (xs : List Int) (A : Option Addr) (c : Nat) (w : World) (hC : (Kd.int .i64).C w A xs.length xs) (hc : xs.length ≤ c) (hn : xs.length ≤ 140737488355328) :
    Calls Tryd.prog 83 #[.slice A xs.length c, .func (.func 84) #[] #[]] w fun e w' =>
      e = .returned (.bool (decide (∃ x ∈ xs, x ≠ clip x))) ∧ ∃ q, w' = w.drewN q := by
  have HI := Aside0.mk (fun W (hW : (Kd.int .i64).C W A xs.length xs) => IndexFunc_any xs A c W hW hc hn)
  have HC := Aside0.mk hC
  clear hC hc hn
  go_enter Tryd.func83, Tryd.ntmps83
  go_wp2_with (go_at_call 99; refine (HI.out _ (by first | exact HC.out | exact Kd.C_drew HC.out | exact Kd.C_drewN HC.out _)).mono ?_; rintro e w1 ⟨⟨i, rfl, hi⟩, q1, rfl⟩; have HX := Aside0.mk hi; clear hi)
  go_ret
  refine ⟨?_, _, rfl⟩
  refine congrArg (fun b => Ending.returned (Value.bool b)) ?_
  exact decide_eq_decide.2 HX.out
end Go.Proofs.YtnejnnfjbhpigaaDoor.Vit
