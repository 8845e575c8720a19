/- Contract of the document's line (shuttleref30.Line): each theorem says its own conditions. -/
import Derived.Test.YtjillkcognlljaaDoorSa
import Derived.BigRegion
import Derived.Lib.Join
namespace Go.Proofs.YtjillkcognlljaaDoor.Vit
open Go.RowKit Go.Proofs.YtjillkcognlljaaDoorW.PrintWords Go.Proofs.YtjillkcognlljaaDoorW.PrintLast Go.Proofs.YtjillkcognlljaaDoorW.PrintMore Go.Proofs.YtjillkcognlljaaDoor.Mem
attribute [local go_sem] max2_int min2_int max_two min_two max_three min_three max_four min_four   -- for this text's walks alone
set_option linter.unusedVariables false
set_option linter.unusedSimpArgs false

/-- The words of the counts. -/
def nam : Nat → List UInt8
  | 0 => [115, 101, 110, 116]
  | 1 => [114, 101, 102, 117, 115, 101, 100]
  | 2 => [98, 97, 100]
  | 3 => [111, 108, 100]
  | 4 => [102, 97, 114]
  | 5 => [110, 111, 105, 115, 101]
  | 6 => [114, 101, 97, 100]
  | _ => [97, 99, 107, 115]
theorem nam_len (k : Nat) : (nam k).length ≤ 7 := by unfold nam; split <;> decide
/-- What a count tells. -/
def ent (k : Nat) (x : Int) : List UInt8 := nam k ++ [32] ++ Lib.itoa x
theorem ent_ne (k : Nat) (x : Int) : ent k x ≠ [] := by unfold ent; simp
/-- What the first counts tell. -/
def outs (c : Nat → Int) : Nat → List (List UInt8)
  | 0 => []
  | k + 1 => if c k = 0 then outs c k else outs c k ++ [ent k (c k)]
theorem outs_len (c : Nat → Int) : ∀ k, (outs c k).length ≤ k
  | 0 => Nat.le_refl _
  | k + 1 => by
    have := outs_len c k
    unfold outs
    split
    · omega
    · rw [List.length_append]; simp; omega
/-- The line. -/
def lin (c : Nat → Int) : List UInt8 := if outs c 8 = [] then [110, 111, 116, 104, 105, 110, 103] else Lib.join (outs c 8) [44, 32]
theorem join_snoc (l : List (List UInt8)) (x sep : List UInt8) (h : l ≠ []) : Lib.join (l ++ [x]) sep = Lib.join l sep ++ sep ++ x := by
  match l, h with
  | y :: r, _ =>
    rw [List.cons_append, Lib.join_cons, Lib.join_cons]
    unfold Lib.joinTail
    rw [List.map_append, List.flatten_append]
    simp
theorem join_empty (c : Nat → Int) (k : Nat) : Lib.join (outs c k) [44, 32] = [] ↔ outs c k = [] := by
  constructor
  · intro h
    induction k with
    | zero => rfl
    | succ k ih =>
      unfold outs at h ⊢
      split
      · rename_i h0
        rw [if_pos h0] at h
        exact ih h
      · rename_i h0
        rw [if_neg h0] at h
        by_cases hl : outs c k = []
        · rw [hl, List.nil_append, Lib.join_one] at h
          exact absurd h (ent_ne _ _)
        · rw [join_snoc _ _ _ hl] at h
          have := (List.append_eq_nil_iff.1 h).2
          exact absurd this (ent_ne _ _)
  · intro h
    rw [h]
    rfl
theorem join_bound (c : Nat → Int) (hc : ∀ k, -9223372036854775808 ≤ c k ∧ c k ≤ 9223372036854775807) : ∀ k, (Lib.join (outs c k) [44, 32]).length ≤ 40 * k
  | 0 => Nat.le_refl _
  | k + 1 => by
    have ih := join_bound c hc k
    unfold outs
    split
    · omega
    · have h1 := Lib.itoa_length_le (c k) (hc k).1 (hc k).2
      have h2 := nam_len k
      have h3 : (ent k (c k)).length = (nam k).length + 1 + (Lib.itoa (c k)).length := by unfold ent; simp; omega
      by_cases hl : outs c k = []
      · rw [hl, List.nil_append, Lib.join_one]
        omega
      · rw [join_snoc _ _ _ hl, List.length_append, List.length_append]
        simp only [List.length_cons, List.length_nil]
        omega
/-- Eight counts. -/
abbrev cnts (c : Nat → Int) : Array Value := #[.int .i64 (c 0), .int .i64 (c 1), .int .i64 (c 2), .int .i64 (c 3), .int .i64 (c 4), .int .i64 (c 5), .int .i64 (c 6), .int .i64 (c 7)]
theorem cnts_get (c : Nat → Int) (i : Nat) (h : i < 8) : (cnts c)[i]? = some (.int .i64 (c i)) := by
  match i, h with
  | 0, _ => rfl
  | 1, _ => rfl
  | 2, _ => rfl
  | 3, _ => rfl
  | 4, _ => rfl
  | 5, _ => rfl
  | 6, _ => rfl
  | 7, _ => rfl
/-- The eight words. -/
abbrev nams : Array Value := #[.string ⟨#[115, 101, 110, 116]⟩, .string ⟨#[114, 101, 102, 117, 115, 101, 100]⟩, .string ⟨#[98, 97, 100]⟩, .string ⟨#[111, 108, 100]⟩, .string ⟨#[102, 97, 114]⟩, .string ⟨#[110, 111, 105, 115, 101]⟩, .string ⟨#[114, 101, 97, 100]⟩, .string ⟨#[97, 99, 107, 115]⟩]
theorem nams_get (i : Nat) (h : i < 8) : nams[i]? = some (.string ⟨(nam i).toArray⟩) := by
  match i, h with
  | 0, _ => rfl
  | 1, _ => rfl
  | 2, _ => rfl
  | 3, _ => rfl
  | 4, _ => rfl
  | 5, _ => rfl
  | 6, _ => rfl
  | 7, _ => rfl

theorem cat4 (a b c : List UInt8) : (⟨a.toArray⟩ : ByteArray) ++ ⟨b.toArray⟩ ++ ⟨#[32]⟩ ++ ⟨c.toArray⟩ = ⟨(a ++ (b ++ [32] ++ c)).toArray⟩ := by
  have e : (⟨#[32]⟩ : ByteArray) = ⟨([32] : List UInt8).toArray⟩ := rfl
  rw [e, cat_toArray, cat_toArray, cat_toArray]
  simp
set_option maxHeartbeats 1600000 in
set_option maxRecDepth 100000 in
theorem RLine_any (c : Nat → Int) (hc : ∀ k, -9223372036854775808 ≤ c k ∧ c k ≤ 9223372036854775807) (w : World) : Calls Tryd.prog 10 #[.agg (cnts c)] w fun e w' => e = .returned (.string ⟨(lin c).toArray⟩) ∧ Below w.heap.size w w' := by
  have HC := Aside0.mk hc
  clear hc
  go_enter Tryd.func10, Tryd.ntmps10
  go_upto_region 2 with fail
  obtain ⟨W1, hW1⟩ : ∃ W1, ((w.alloc (.cells (cnts c) 22)).alloc (.cells nams 65)) = W1 := ⟨_, rfl⟩
  have h0 : W1.heap[w.heap.size]? = some (.cells (cnts c) 22 (0, 0)) := by
    rw [← hW1]
    exact blk_alloc (heap_alloc_new w _) _
  have h1 : W1.heap[w.heap.size + 1]? = some (.cells nams 65 (0, 0)) := by
    rw [← hW1]
    have := heap_alloc_new (w.alloc (.cells (cnts c) 22)) (.cells nams 65)
    rw [World.size_alloc] at this
    exact this
  have hB1 : Below w.heap.size w W1 := by rw [← hW1]; exact below_alloc (below_alloc (Below.refl _ _) _) _
  rw [hW1]
  have H1 := Aside0.mk (And.intro h0 (And.intro h1 hB1))
  clear hW1 h0 h1 hB1
  go_wp2_with fail
  go_loopw [4, 5] (fun x y wr => ∃ k : Nat, y = .int .i64 k ∧ k ≤ 8 ∧ x = .string ⟨(Lib.join (outs c k) [44, 32]).toArray⟩ ∧ wr.heap[w.heap.size]? = some (.cells (cnts c) 22 (0, 0)) ∧ wr.heap[w.heap.size + 1]? = some (.cells nams 65 (0, 0)) ∧ Below w.heap.size w wr) (fun _ y _ => 8 - (intOf y).toNat)
  case atStart => exact ⟨0, rfl, by omega, rfl, H1.out⟩
  case round =>
    clear H1
    obtain ⟨k, rfl, hk8, rfl, hR⟩ := hrel
    have HR := Aside0.mk hR
    clear hR
    have hjb := join_bound c HC.out k
    have hje := join_empty c k
    obtain ⟨l, hl⟩ : ∃ l, Lib.join (outs c k) [44, 32] = l := ⟨_, rfl⟩
    rw [hl] at hjb hje ⊢
    have HL := Aside0.mk (And.intro hl hje)
    clear hl hje
    by_cases hk : k < 8
    · have hk' : (k : Int) < 8 := by omega
      have c0 := (blk_cell HR.out.1 k).trans (cnts_get c k hk)
      have c1 := (blk_cell HR.out.2.1 k).trans (nams_get k hk)
      have hnl := nam_len k
      have hil := Lib.itoa_length_le (c k) (HC.out k).1 (HC.out k).2
      have hnum := fun W => Number_any (c k) (HC.out k).1 (HC.out k).2 W
      obtain ⟨x, hx⟩ : ∃ x, c k = x := ⟨_, rfl⟩
      obtain ⟨nm, hnm⟩ : ∃ nm, nam k = nm := ⟨_, rfl⟩
      obtain ⟨it, hit⟩ : ∃ it, Lib.itoa x = it := ⟨_, rfl⟩
      rw [hx] at c0 hil
      simp only [hx] at hnum
      rw [hnm] at c1 hnl
      rw [hit] at hil
      simp only [hit] at hnum
      have HX := Aside0.mk (And.intro hx (And.intro hnm (And.intro hit hnum)))
      clear hx hnm hit hnum
      by_cases hx0 : x = 0
      · subst hx0
        go_wp2_with fail
        refine ⟨⟨k + 1, by go_num, by omega, ?_, HR.out⟩, by simp only [intOf]; omega⟩
        have e : outs c (k + 1) = outs c k := if_pos HX.out.1
        rw [e, HL.out.1]
      · have hxb : ((x : Int) == 0) = false := by rw [beq_eq_false_iff_ne]; exact hx0
        have HN := Aside0.mk (show outs c (k + 1) = outs c k ++ [nm ++ [32] ++ it] by
          show (if c k = 0 then outs c k else outs c k ++ [ent k (c k)]) = _
          rw [HX.out.1, if_neg hx0]
          unfold ent
          rw [HX.out.2.1, HX.out.2.2.1])
        clear hx0
        by_cases hl0 : l = []
        · subst hl0
          have n1 : ¬ 9223372036854775807 < nm.length := by omega
          have n2 : ¬ 9223372036854775807 < nm.length + 1 := by omega
          have n3 : ¬ 9223372036854775807 < nm.length + 1 + it.length := by omega
          go_upto_region 9 with fail
          go_region_law ((go_simp; go_at_call 23; refine (HX.out.2.2.2 _).mono ?_; rintro e w2 ⟨rfl, hB2⟩; have d0 := below_cell hB2 (show wr.drew.cell? _ = _ from c0); have d1 := below_cell hB2 (show wr.drew.cell? _ = _ from c1); have HB2 := Aside0.mk hB2; clear hB2))
          all_goals
            go_wp2_with fail
            have hBw := HR.out.2.2.trans (((pw_below_drewN (Below.refl _ _) 1).trans HB2.out).mono HR.out.2.2.size)
            have hB3 : Below wr.heap.size wr w2 := (pw_below_drewN (Below.refl _ _) 1).trans HB2.out
            refine ⟨⟨k + 1, by go_num, by omega, congrArg Value.string ((cat4 [] nm it).trans ?_), below_cell_blk hB3 HR.out.1, below_cell_blk hB3 HR.out.2.1, hBw⟩, by simp only [intOf]; omega⟩
            rw [HN.out, HL.out.2.1 rfl, List.nil_append, List.nil_append, Lib.join_one]
        · have hne : l.isEmpty = false := by simp [hl0]
          go_upto_region 9 with fail
          obtain ⟨l2, hl2⟩ : ∃ l2, l ++ [44, 32] = l2 := ⟨_, rfl⟩
          have hlen2 : l2.length = l.length + 2 := by rw [← hl2]; simp
          have e44 : (⟨l.toArray⟩ : ByteArray) ++ ⟨#[44, 32]⟩ = ⟨l2.toArray⟩ := by rw [← hl2]; exact cat_toArray l [44, 32]
          rw [e44]
          have n1 : ¬ 9223372036854775807 < l2.length + nm.length := by omega
          have n2 : ¬ 9223372036854775807 < l2.length + nm.length + 1 := by omega
          have n3 : ¬ 9223372036854775807 < l2.length + nm.length + 1 + it.length := by omega
          have HL2 := Aside0.mk hl2
          clear hl2 hlen2 e44
          go_region_law ((go_simp; go_at_call 23; refine (HX.out.2.2.2 _).mono ?_; rintro e w2 ⟨rfl, hB2⟩; have d0 := below_cell hB2 (show wr.drew.cell? _ = _ from c0); have d1 := below_cell hB2 (show wr.drew.cell? _ = _ from c1); have HB2 := Aside0.mk hB2; clear hB2))
          all_goals
            go_wp2_with fail
            have hBw := HR.out.2.2.trans (((pw_below_drewN (Below.refl _ _) 1).trans HB2.out).mono HR.out.2.2.size)
            have hB3 : Below wr.heap.size wr w2 := (pw_below_drewN (Below.refl _ _) 1).trans HB2.out
            refine ⟨⟨k + 1, by go_num, by omega, congrArg Value.string ((cat4 l2 nm it).trans ?_), below_cell_blk hB3 HR.out.1, below_cell_blk hB3 HR.out.2.1, hBw⟩, by simp only [intOf]; omega⟩
            rw [HN.out, join_snoc _ _ _ (fun h => hl0 (HL.out.2.2 h)), HL.out.1, HL2.out]
    · have hk' : ¬ (k : Int) < 8 := by omega
      obtain rfl : k = 8 := by omega
      by_cases hl0 : l = []
      · subst hl0
        have HO := Aside0.mk (HL.out.2.1 rfl)
        go_wp2_with fail
        go_ret
        refine ⟨?_, HR.out.2.2⟩
        unfold lin
        rw [if_pos HO.out]
        rfl
      · have hne : l.isEmpty = false := by simp [hl0]
        go_wp2_with fail
        go_ret
        refine ⟨?_, HR.out.2.2⟩
        unfold lin
        rw [if_neg (fun h => hl0 (HL.out.2.2 h)), HL.out.1]
        rfl
end Go.Proofs.YtjillkcognlljaaDoor.Vit
