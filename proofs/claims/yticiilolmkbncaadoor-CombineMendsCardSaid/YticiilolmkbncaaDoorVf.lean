/- Contracts of the decoder's graph (build): each theorem says its own conditions. -/
import Derived.Test.YticiilolmkbncaaDoorVe
import Derived.Deep.MidRow
import Derived.Deep.WholeRow
import Derived.Deep.RegionLaw
import Derived.BigRegion
namespace Go.Proofs.YticiilolmkbncaaDoor.Vit
open Go.RowKit Go.Proofs.YticiilolmkbncaaDoorW.PrintWords Go.Proofs.YticiilolmkbncaaDoorW.PrintLast Go.Proofs.YticiilolmkbncaaDoorW.PrintMore Go.Proofs.YticiilolmkbncaaDoor.Mem
attribute [local go_sem] max2_int min2_int max_two min_two max_three min_three max_four min_four   -- for this text's walks alone
set_option linter.unusedVariables false
set_option linter.unusedSimpArgs false

/-- The fourteen cells of a state's two edges. -/
def row14 (s : Nat) : List Value := [.int .i64 (s : Int), .int .i64 ((s : Int) / 2), .int .u8 0, .int .u8 (ob s 0 : Nat), .int .u8 (ob s 1 : Nat), .int .u8 (ob s 2 : Nat), .int .u8 (ob s 3 : Nat),
  .int .i64 (s : Int), .int .i64 (((s : Int) + 64) / 2), .int .u8 1, .int .u8 (ob (s + 64) 0 : Nat), .int .u8 (ob (s + 64) 1 : Nat), .int .u8 (ob (s + 64) 2 : Nat), .int .u8 (ob (s + 64) 3 : Nat)]
/-- The cells of all edges. -/
def IsGraph (A : Array Value) (n : Nat) : Prop := A.size = 896 ∧ ∀ s, s < n → ∀ j, j < 14 → A[14 * s + j]? = (row14 s)[j]?

theorem below_setCells {B b : Nat} {a : World} (hb : B ≤ b) : ∀ (vs : List Value) (o : Nat) (w : World), Below B a w → Below B a (w.setCells b o vs)
  | [], _, _, h => h
  | v :: r, o, w, h => below_setCells hb r (o + 1) _ (h.setCell (by exact hb) v)

theorem IsGraph.next {A B : Array Value} {k : Nat} (h : IsGraph A k) (hk : k < 64) (hs : B.size = A.size) (hB : B.toList = A.toList.take (k * 14) ++ row14 k ++ A.toList.drop (k * 14 + (row14 k).length)) : IsGraph B (k + 1) := by
  obtain ⟨h1, h2⟩ := h
  have hl : (row14 k).length = 14 := rfl
  have hal : A.toList.length = 896 := by simpa using h1
  have htl : (A.toList.take (k * 14)).length = k * 14 := by rw [List.length_take]; omega
  refine ⟨by omega, fun s hs2 j hj => ?_⟩
  rw [← Array.getElem?_toList, hB, List.append_assoc]
  by_cases hsk : s < k
  · rw [List.getElem?_append_left (by omega), List.getElem?_take_of_lt (by omega), Array.getElem?_toList]
    exact h2 s hsk j hj
  · obtain rfl : s = k := by omega
    rw [List.getElem?_append_right (by omega), htl, List.getElem?_append_left (by omega)]
    congr 1
    omega

/-- A loop's state in build. -/
def BuildRel (w : World) (k : Nat) (wr : World) : Prop :=
  k ≤ 64 ∧ (∃ A, wr.heap[w.heap.size + 1]? = some (.cells A 76 (0, 0)) ∧ IsGraph A k) ∧ wr.heap[w.heap.size]? = some (.cells Tryd.zeroCells76 76 (0, 0)) ∧ w.heap.size + 2 ≤ wr.heap.size ∧ Below w.heap.size w wr

theorem there_of_row {w : World} {g t : Nat} {A : Array Value} (h : w.heap[g]? = some (.cells A t (0, 0))) {o n : Nat} (hn : o + n ≤ A.size) : w.there g o n := fun j hj =>
  ⟨by rw [blk_cell h]; simp; omega, by rw [blk_frozen h]⟩

theorem step_store_mid {P : Program} {o : Oper} {ops : Array Oper} {a : Act} {w : World} {K : Act → World → Prop} {Q' : Exit → Act → World → Prop} {E : Prop} (hgd : o.guard = none) (ty : TypeId) (x y : Operand) (ho : o.op = .store ty x y)
    (b off : Nat) (cells : Array Value) (hx : a.eval x = .pointer (some ⟨b, off, none⟩)) (hy : a.eval y = .agg cells)
    (ht : w.there b off cells.size) (hi : (P.info? ty).map (·.size) = some cells.size) (h1 : cells.all (·.oneCell') = true)
    (h : K (a.put o.dst undef) (w.setCells b off cells.toList)) : if Region.wanted o (yielded ops a.tmps) = true then Oper.wp P o a w K Q' else E := by
  have hw : Region.wanted o (yielded ops a.tmps) = true := by simp [Region.wanted, hgd]
  rw [if_pos hw]
  exact wp_store_mid ty x y ho b off cells hx hy ht hi h1 h

theorem info74 : (Tryd.prog.info? 74).map (·.size) = some 14 := by kernel_rfl
theorem info76 : (Tryd.prog.info? 76).map (·.size) = some 896 := by kernel_rfl

theorem row14_one (k : Nat) : (row14 k).toArray.all (·.oneCell') = true := by simp [row14, Value.oneCell']
theorem zero76 : Tryd.zeroCells76.size = 896 := by kernel_rfl
theorem IsGraph.one {A : Array Value} (h : IsGraph A 64) : A.all (·.oneCell') = true := by
  rw [Array.all_eq_true]
  intro i hi
  have h1 := h.1
  have h2 := h.2 (i / 14) (by omega) (i % 14) (Nat.mod_lt _ (by omega))
  rw [Nat.div_add_mod, Array.getElem?_eq_getElem hi] at h2
  have h3 : ∀ v ∈ row14 (i / 14), v.oneCell' = true := by
    have := row14_one (i / 14)
    rw [Array.all_eq_true_iff_forall_mem] at this
    exact fun v hv => this v (by simpa using hv)
  exact h3 _ (List.mem_of_getElem? h2.symm)

set_option maxHeartbeats 3200000 in
set_option maxRecDepth 100000 in
theorem build_any (w : World) (ht : Taps w) :
    Calls Tryd.prog 45 #[] w fun e w' => ∃ A, e = .returned (.tuple #[.agg A, .int .i64 0]) ∧ IsGraph A 64 ∧ Below w.heap.size w w' := by
  have HT := Aside0.mk ht
  clear ht
  go_enter Tryd.func45, Tryd.ntmps45
  go_wp2_with fail
  go_loopw [6] (fun i wr => ∃ k : Nat, i = .int .i64 k ∧ BuildRel w k wr) (fun i _ => 64 - (intOf i).toNat)
  case atStart =>
    have hz1 : ((w.alloc (.cells Tryd.zeroCells76 76)).alloc (.cells Tryd.zeroCells76 76)).heap[w.heap.size + 1]? = some (.cells Tryd.zeroCells76 76) := by have := heap_alloc_new (w.alloc (.cells Tryd.zeroCells76 76)) (.cells Tryd.zeroCells76 76); simpa using this
    refine ⟨0, rfl, by omega, ⟨_, hz1, ?_, fun s hs => by omega⟩, ?_, by simp, below_alloc (below_alloc (Below.refl _ _) _) _⟩
    · exact zero76
    · rw [Below.heap_alloc _ _ _ (by simp)]
      exact heap_alloc_new _ _
  case round =>
    obtain ⟨k, rfl, hR⟩ := hrel
    have HR := Aside0.mk hR
    by_cases hk : k < 64
    · have hlt : (k : Int) < 64 := by omega
      clear hR
      go_wp2_with fail
      refine (From_any k hk _ (HT.out.below HR.out.2.2.2.2)).mono ?_
      rintro e w1 ⟨rfl, hB1⟩
      have HB1 := Aside0.mk hB1
      clear hB1
      unfold twoV
      go_upto_region 8 with fail
      obtain ⟨A, hA, hG⟩ := HR.out.2.1
      have hA1 := (HB1.out.block _ (Nat.lt_of_succ_le HR.out.2.2.2.1)).trans hA
      have HTH : ∀ o q, ((w1.alloc o).drewN q).there (w.heap.size + 1) (k * 14) 14 := fun o q => there_of_row (A := A) (t := 76) ((Below.heap_alloc w1 o _ (Nat.lt_of_lt_of_le (Nat.lt_of_succ_le HR.out.2.2.2.1) HB1.out.size)).trans hA1) (by have := hG.1; omega)
      have HTT := Aside0.mk HTH
      have HAA := Aside0.mk (And.intro hA1 hG)
      clear HTH hA1 hG hA
      refine wp_region_lit ?_
      refine wpList_plain rfl (fun _ hK => ?_)
      go_simp
      refine hK _ _ ?_
      clear hK
      refine wpList_plain rfl (fun _ hK => ?_)
      go_simp
      refine hK _ _ ?_
      clear hK
      refine wpList_plain rfl (fun _ hK => ?_)
      go_simp
      refine hK _ _ ?_
      clear hK
      refine wpList_store_mid rfl 74 _ _ rfl (w.heap.size + 1) (k * 14) (row14 k).toArray rfl rfl (HTT.out _ 0) info74 (row14_one k) ?_
      refine wpList_nil ?_
      obtain ⟨W, hW⟩ : ∃ W, (World.setCells (w1.alloc (.cells (row14 k).toArray 74)) (w.heap.size + 1) (k * 14) (row14 k)) = W := ⟨_, rfl⟩
      change Exit.inBlock 1 _ .normal _ (World.setCells (w1.alloc (.cells (row14 k).toArray 74)) (w.heap.size + 1) (k * 14) (row14 k))
      rw [hW]
      have HWW := Aside0.mk hW
      clear hW
      go_wp2_with fail
      go_roundw
      case rel =>
        refine ⟨k + 1, by go_num, by omega, ?_, ?_, ?_, ?_⟩
        · obtain ⟨A', h1, h2, h3⟩ := setCells_row (row14 k) (k * 14) (w1.alloc (.cells (row14 k).toArray 74)) A ((Below.heap_alloc w1 _ _ (Nat.lt_of_lt_of_le (Nat.lt_of_succ_le HR.out.2.2.2.1) HB1.out.size)).trans HAA.out.1) (by rw [HAA.out.2.1]; show k * 14 + 14 ≤ 896; omega)
          rw [HWW.out] at h1
          exact ⟨A', h1, HAA.out.2.next hk h2 h3⟩
        · have hs := HR.out.2.2.2.1
          rw [← HWW.out, setCells_far _ _ _ (by omega), Below.heap_alloc w1 _ _ (Nat.lt_of_lt_of_le (by omega) HB1.out.size), HB1.out.block _ (by omega)]
          exact HR.out.2.2.1
        · have hs := HR.out.2.2.2.1
          rw [← HWW.out, (setCells_same _ _ _ _).2.2.2]
          exact Nat.le_trans hs (Nat.le_trans HB1.out.size (by simp))
        · rw [← HWW.out]
          exact below_setCells (by omega) _ _ _ ((HR.out.2.2.2.2.trans (HB1.out.mono (by have := HR.out.2.2.2.1; omega))).trans ((below_alloc (Below.refl _ _) _).mono (by have := HR.out.2.2.2.1; have := HB1.out.size; omega)))
      case measure => simp [intOf]; omega
    · have hge : ¬ (k : Int) < 64 := by omega
      have hk64 : k = 64 := by have := hR.1; omega
      subst hk64
      clear hR
      obtain ⟨A, hA, hG⟩ := HR.out.2.1
      have hA1 : A.toList.toArray = A := rfl
      have hone := hG.one
      have hsz : A.size = 896 := hG.1
      have hra : wr.rangeAt (w.heap.size + 1) 0 A.toList := fun j v hv => by rw [Nat.zero_add, blk_cell hA]; simpa using hv
      have hz := HR.out.2.2.1
      have hth : wr.there w.heap.size 0 A.size := there_of_row hz (by rw [hsz]; exact Nat.le_of_eq zero76.symm)
      have HG := Aside0.mk (And.intro hA hG)
      have HH := Aside0.mk (And.intro hone (And.intro hsz (And.intro hra (And.intro hz hth))))
      clear hA hG hone hsz hra hz hth
      go_upto_region 10 with fail
      refine wp_region_lit ?_
      refine wpList_load_mid rfl 76 _ rfl (w.heap.size + 1) 0 rfl A.toList _ HH.out.2.2.1 Tryd.underlying76 rfl (by rw [Array.length_toList, HH.out.2.1]; exact info76) ?_
      refine wpList_store_mid rfl 76 _ _ rfl w.heap.size 0 A rfl rfl HH.out.2.2.2.2 (by rw [HH.out.2.1]; exact info76) HH.out.1 ?_
      refine wpList_plain rfl (fun _ hK => ?_)
      go_simp
      refine hK _ _ ?_
      clear hK
      refine wpList_nil ?_
      obtain ⟨W, hW⟩ : ∃ W, (World.setCells wr w.heap.size 0 A.toList) = W := ⟨_, rfl⟩
      change Exit.then _ _ .normal _ (World.setCells wr w.heap.size 0 A.toList)
      rw [hW]
      have HWW := Aside0.mk hW
      clear hW
      go_wp2_with fail
      obtain ⟨A', h1, h2, h3⟩ := setCells_row A.toList 0 wr _ HH.out.2.2.2.1 (by rw [Array.length_toList, HH.out.2.1, zero76]; omega)
      have hAA : A' = A := by
        apply Array.toList_inj.1
        rw [h3]
        simp only [List.take_zero, List.nil_append, Nat.zero_add]
        rw [List.drop_of_length_le (by rw [Array.length_toList, Array.length_toList, HH.out.2.1, zero76]; exact Nat.le_refl _), List.append_nil]
      subst hAA
      rw [HWW.out] at h1
      have hld : (loadVar 76 ⟨w.heap.size, 0, none⟩).run Tryd.prog W = .ok (.agg A') W :=
        run_loadVar_row W w.heap.size 76 76 A' (0, 0) _ h1 Tryd.underlying76 rfl (by rw [HH.out.2.1]; exact info76)
      refine bodyPost_ret (v := .tuple #[.agg A', .int .i64 0]) (by simp [results, Tryd.results45, asAddr, hld]) rfl ⟨A', rfl, HG.out.2, ?_⟩
      rw [← HWW.out]
      exact below_setCells (Nat.le_refl _) _ _ _ HR.out.2.2.2.2

end Go.Proofs.YticiilolmkbncaaDoor.Vit
