/- The document's wheel: a list of what is due; DocDrop. Each theorem says its own conditions. -/
import Derived.Test.YtjiligngjlejmaaSk
import Derived.BigRegion
namespace Go.Proofs.Ytjiligngjlejmaa.Vit
open Go.Shelf Go.RowKit Go.Proofs.YtjiligngjlejmaaW.PrintWords Go.Proofs.YtjiligngjlejmaaW.PrintLast Go.Proofs.YtjiligngjlejmaaW.PrintMore Go.Proofs.Ytjiligngjlejmaa.Mem Go.Proofs.Ytjiligngjlejmaa.Srt
attribute [local go_sem] max2_int min2_int max_two min_two max_three min_three max_four min_four   -- for this text's walks alone
set_option linter.unusedVariables false
set_option linter.unusedSimpArgs false

/-- A number, its tick. -/
abbrev kDue : Kd (Int × Int) := Kd.pair (Kd.int .i64) (Kd.int .i64)
/-- What is due, as the document's row has it. -/
def dz (l : List (Nat × Nat)) : List (Int × Int) := l.map fun p => ((p.1 : Int), (p.2 : Int))
theorem dz_len (l : List (Nat × Nat)) : (dz l).length = l.length := by simp [dz]
theorem dz_app (l m : List (Nat × Nat)) : dz (l ++ m) = dz l ++ dz m := by simp [dz]
/-- The document's wheel. -/
structure IsD (s0 : Nat) (W : World) (b now : Nat) (l : List (Nat × Nat)) (ok : Nat → Prop) : Prop where
  row : ∃ v, W.heap[b]? = some (.cells #[.int .i64 (now : Int), v] 41 (0, 0)) ∧ kDue.R 55 W s0 ok v (dz l)
  away : ¬ ok b
theorem infoD : (Try.prog.info? 55).map (fun i => (i.zero, i.size, i.bytes)) = some (some (.agg #[.int .i64 0, .int .i64 0]), 2, 16) := by kernel_rfl
theorem due_cell {W : World} {e s0 g n c : Nat} {ok : Nat → Prop} {l : List (Nat × Nat)} (h : kDue.R e W s0 ok (.slice (some ⟨g, 0, none⟩) n c) (dz l)) (i : Nat) (hi : i < l.length) :
    W.cell? ⟨g, i * 2, none⟩ = some (.int .i64 (l[i].1 : Nat)) ∧ W.cell? ⟨g, i * 2 + 1, none⟩ = some (.int .i64 (l[i].2 : Nat)) := by
  have hn := (Kd.R_reads' h).1
  rw [dz_len] at hn
  obtain ⟨cs, hl, ⟨c0, c1, rfl, h0, h1⟩, hc, _⟩ := Kd.R_elem h ((0 : Int), (0 : Int)) (i : Int) (by omega) (by omega)
  have hg : (dz l).getD (i : Int).toNat ((0 : Int), (0 : Int)) = ((l[i].1 : Int), (l[i].2 : Int)) := by
    rw [Int.toNat_natCast, List.getD_eq_getElem?_getD, List.getElem?_eq_getElem (by rw [dz_len]; exact hi)]
    simp [dz]
  rw [hg] at h0 h1
  have e0 : c0 = [.int .i64 (l[i].1 : Nat)] := h0
  have e1 : c1 = [.int .i64 (l[i].2 : Nat)] := h1
  subst e0 e1
  rw [Int.toNat_natCast] at hc
  exact ⟨hc 0 _ rfl, hc 1 _ rfl⟩
/-- A list without the first of a number. -/
def dropD (a : Nat) (l : List (Nat × Nat)) : List (Nat × Nat) := l.eraseP fun p => p.1 == a
theorem dropD_at {a : Nat} {l : List (Nat × Nat)} {i : Nat} (hi : i < l.length) (hlow : ∀ j (hj : j < l.length), j < i → l[j].1 ≠ a) (h : l[i].1 = a) : dropD a l = l.take i ++ l.drop (i + 1) := by
  induction l generalizing i with
  | nil => simp at hi
  | cons p l ih =>
    cases i with
    | zero =>
      have h' : p.1 = a := h
      simp [dropD, List.eraseP_cons, h']
    | succ i =>
      have h0 : p.1 ≠ a := hlow 0 (by simp) (by omega)
      have h2 := ih (i := i) (by simpa using hi) (fun j hj hji => hlow (j + 1) (by simpa using hj) (by omega)) (by simpa using h)
      unfold dropD at h2 ⊢
      rw [List.eraseP_cons_of_neg (by simpa using h0), h2]
      simp
theorem dropD_none {a : Nat} {l : List (Nat × Nat)} (h : ∀ j (hj : j < l.length), l[j].1 ≠ a) : dropD a l = l := by
  unfold dropD
  refine List.eraseP_of_forall_not (fun p hp => ?_)
  obtain ⟨j, hj, rfl⟩ := List.mem_iff_getElem.1 hp
  simpa using h j hj
theorem R_none_made (W : World) : kDue.R 55 (W.alloc (.cells #[] 55)) W.heap.size (fun j => W.heap.size ≤ j) (.slice (some ⟨W.heap.size, 0, none⟩) 0 0) [] :=
  ⟨fun k hk => by simp [Value.ownBlock] at hk; omega, [], World.ownsRow_made W #[] 0 (Nat.le_refl _) (Nat.zero_le _) rfl, Reps.none _ _⟩
set_option maxHeartbeats 3200000 in
set_option maxRecDepth 100000 in
theorem doc_drop (s0 : Nat) (W : World) (b now a : Nat) (l : List (Nat × Nat)) (ok : Nat → Prop) (h : IsD s0 W b now l ok) (hl : l.length ≤ 1000000) (hs0 : s0 ≤ W.heap.size) :
    Calls Try.prog 15 #[.pointer (some ⟨b, 0, none⟩), .int .i64 (a : Int)] W fun e w' => ∃ ok', e = .returned (.bool (l.any fun p => p.1 == a)) ∧ IsD s0 w' b now (dropD a l) ok' ∧
      (∀ k, ok' k → ok k ∨ W.heap.size ≤ k) ∧ Chg (fun k => k = b) W w' := by
  obtain ⟨v, hb, hR⟩ := h.row
  obtain ⟨A, c, rfl⟩ := Kd.R_slice hR
  rw [dz_len] at hb hR
  have d1 : W.cell? ⟨b, 1, none⟩ = some (.slice A l.length c) := blk_cell hb 1
  have HH := Aside0.mk (And.intro h (And.intro hb hR))
  clear h hb hR
  go_enter Try.func15, Try.ntmps15
  go_wp2
  go_loopw [5] (fun y wr => ∃ k : Nat, y = .int .i64 k ∧ k ≤ l.length ∧ wr = W ∧ ∀ j (hj : j < l.length), j < k → l[j].1 ≠ a) (fun y _ => l.length - natOf y)
  case atStart => exact ⟨0, rfl, Nat.zero_le _, rfl, fun _ _ h => absurd h (Nat.not_lt_zero _)⟩
  case round =>
    obtain ⟨k, rfl, hk, rfl, hlow⟩ := hrel
    have HL := Aside0.mk hlow
    clear hlow
    by_cases hkl : k < l.length
    · obtain ⟨g, c2, hA, _⟩ := Kd.R_form HH.out.2.2 (by rw [dz_len]; omega)
      obtain ⟨rfl, hxx, rfl⟩ : A = some ⟨g, 0, none⟩ ∧ l.length = (dz l).length ∧ c = c2 := by injection hA with q1 q2 q3; exact ⟨q1, q2, q3⟩
      clear hxx hA
      obtain ⟨hc0, hc1⟩ := due_cell HH.out.2.2 k hkl
      by_cases hx : l[k].1 = a
      · have hQ := Kd.Q_of_R HH.out.2.2
        have hhead := (Kd.Q_reads' (Kd.Q_take hQ (m := k) (by rw [dz_len]; omega))).2.2
        have htail := (Kd.Q_reads' (Kd.Q_drop hQ (k := k + 1) (by rw [dz_len]; omega))).2.2
        rw [List.length_take, dz_len, Nat.min_eq_left hk] at hhead
        rw [List.length_drop, dz_len] at htail
        have hcc := (Kd.Q_reads' hQ).2.1
        obtain ⟨A10, hA10⟩ : ∃ A10, (if c = k + 1 then some (⟨g, 0, none⟩ : Addr) else (some (⟨g, 0, none⟩ : Addr)).map (·.add ((k + 1) * 2))) = A10 := ⟨_, rfl⟩
        have htail' : kDue.C wr A10 (l.length - (k + 1)) ((dz l).drop (k + 1)) := by rw [← hA10]; exact htail
        have hi3 : ∃ i : TypeInfo, Try.prog.info? 55 = some i ∧ i.size = 2 := by
          obtain ⟨i, hi, hz⟩ := Option.map_eq_some_iff.1 infoD
          simp only [Prod.mk.injEq] at hz
          exact ⟨i, hi, hz.2.1⟩
        obtain ⟨i3, hi3a, hi3b⟩ := hi3
        have hcut := cut_from 39 55 .i64 Try.underlying39 hi3a 2 hi3b (some ⟨g, 0, none⟩) l.length c ((k : Int) + 1) (by omega) (by omega)
        have hcutA : (if c = ((k : Int) + 1).toNat then some (⟨g, 0, none⟩ : Addr) else (some (⟨g, 0, none⟩ : Addr)).map (·.add (((k : Int) + 1).toNat * 2))) = A10 := by
          rw [show ((k : Int) + 1).toNat = k + 1 by omega, ← hA10]
        rw [hcutA, show ((k : Int) + 1).toNat = k + 1 by omega] at hcut
        have hKc : (k : Int) ≤ (c : Int) := by omega
        have hbK : -9223372036854775808 ≤ (k : Int) + 1 ∧ (k : Int) + 1 ≤ 9223372036854775807 := by omega
        have hKK : IntKind.i64.wrap ((k : Int) + 1) = (k : Int) + 1 := IntWalk.i64_in _ hbK
        have d1a : ∀ o, (wr.alloc o).cell? ⟨b, 1, none⟩ = some (.slice (some ⟨g, 0, none⟩) l.length c) := fun o => Lib.cell?_alloc_some _ d1
        have hd := dropD_at hkl (fun j hj hjk => HL.out j hj hjk) hx
        have hany : (l.any fun p => p.1 == a) = true := List.any_eq_true.2 ⟨l[k], List.getElem_mem _, by simpa using hx⟩
        obtain ⟨nn, hnn⟩ : ∃ nn, (([] ++ (dz l).take k) ++ (dz l).drop (k + 1)).length = nn := ⟨_, rfl⟩
        have H7 := Aside0.mk (And.intro hhead (And.intro htail' (And.intro hd hany)))
        rw [hx] at hc0
        clear hhead htail htail' hQ hA10 hi3a hi3b hcutA hcc hbK hd hany hx
        go_upto_region 5 with fail
        go_region_law (first
          | (refine Kd.R_append_rows_step kDue (w0 := wr) wr.heap.size (by rfl) _ _ _ _ (.agg #[.int .i64 0, .int .i64 0]) 16 (by rfl) Try.underlying39 infoD rfl (by decide) (by decide) (.slice (some ⟨wr.heap.size, 0, none⟩) 0 0) [] ((dz l).take k) (some ⟨g, 0, none⟩) k c (fun j => wr.heap.size ≤ j) (fun _ => False) (by rfl) (by rfl) (Kd.R_below (R_none_made wr) (below_drew (Below.refl _ _))) (Kd.C_below H7.out.1 (below_drew (below_alloc (Below.refl _ _) _))) (fun x cs h => h) (fun _ hk => hk.elim) (fun k hk => by simp at hk; omega) (below_drew (below_alloc (Below.refl _ _) _)) (by simp) (by simp; omega) ?_
             intro v7 w7 hR7 hB7 hG7 hat7
             have M1 := below_cell hB7 d1
             have H8 := Aside0.mk (And.intro hR7 hB7)
             clear hR7 hB7 hG7 hat7)
          | (refine Kd.R_append_rows_step kDue (w0 := wr) wr.heap.size (by rfl) _ _ _ _ (.agg #[.int .i64 0, .int .i64 0]) 16 (by rfl) Try.underlying39 infoD rfl (by decide) (by decide) v7 ([] ++ (dz l).take k) ((dz l).drop (k + 1)) A10 (l.length - (k + 1)) (c - (k + 1)) (fun j => wr.heap.size ≤ j) (fun _ => False) (by rfl) (by rfl) H8.out.1 (Kd.C_below H7.out.2.1 H8.out.2) (fun x cs h => h) (fun _ hk => hk.elim) (fun k hk => Nat.le_trans H8.out.2.size hk) H8.out.2 H8.out.2.size (by simp [dz_len]; omega) ?_
             intro v8 w8 hR8 hB8 hG8 hat8
             obtain ⟨A8, c8, rfl⟩ := Kd.R_slice hR8
             rw [hnn] at hR8 ⊢
             have M2 := below_cell hB8 d1
             have M3 := blk_frozen (below_cell_blk hB8 HH.out.2.1) 1
             have H9 := Aside0.mk (And.intro hR8 hB8)
             clear hR8 hB8 hG8 hat8))
        all_goals go_wp2_with fail
        all_goals (first | go_ret | go_end0 | refine bodyPost_ret (results_tmp rfl _ _ _) rfl ?_)
        all_goals (
          refine ⟨fun j => wr.heap.size ≤ j, ?_, ⟨⟨_, blk_set (below_cell_blk H9.out.2 HH.out.2.1) _ _, ?_⟩, ?_⟩, fun _ h => .inr h, Chg.set_ (S := fun k => k = b) (Chg.of_below H9.out.2 _) (p := ⟨b, 1, none⟩) (fun _ => rfl) _⟩
          · rw [H7.out.2.2.2]
            rfl
          · have e : dz (dropD a l) = ([] ++ (dz l).take k) ++ (dz l).drop (k + 1) := by
              rw [H7.out.2.2.1]
              simp [dz, List.map_take, List.map_drop]
            rw [e]
            have hbl := blk_lt HH.out.2.1
            exact Kd.R_lower (Kd.R_step H9.out.1 (fun j hj hlt => Below.heap_setCell _ _ _ j (fun e => by subst e; omega))) hs0
          · have hbl := blk_lt HH.out.2.1
            show ¬ wr.heap.size ≤ b
            omega)
      · have hxi : ¬ ((l[k].1 : Nat) : Int) = (a : Int) := by omega
        obtain ⟨x, hxe⟩ : ∃ x, l[k].1 = x := ⟨_, rfl⟩
        rw [hxe] at hc0 hxi hx
        go_wp2_with fail
        refine ⟨⟨k + 1, by congr 1, hkl, trivial, fun j hj hjk => ?_⟩, ?_⟩
        · by_cases hj2 : j = k
          · subst hj2; rw [hxe]; exact hx
          · exact HL.out j hj (by omega)
        · show l.length - ((k : Int) + 1).toNat < l.length - (k : Int).toNat
          omega
    · have hkl : k = l.length := by omega
      subst hkl
      go_wp2_with fail
      all_goals (first | go_ret | go_end0 | refine bodyPost_ret (results_tmp rfl _ _ _) rfl ?_)
      refine ⟨ok, ?_, ?_, fun _ h => .inl h, Chg.refl _ _⟩
      · have hany : (l.any fun p => p.1 == a) = false := by
          rw [List.any_eq_false]
          intro p hp
          obtain ⟨j, hj, rfl⟩ := List.mem_iff_getElem.1 hp
          simpa using HL.out j hj hj
        rw [hany]
        rfl
      · rw [dropD_none (fun j hj => HL.out j hj hj)]
        exact HH.out.1
end Go.Proofs.Ytjiligngjlejmaa.Vit
