/- The document's wheel: DocSet. Each theorem says its own conditions. -/
import Derived.Test.YtjiligngjlejmaaTa
namespace Go.Proofs.Ytjiligngjlejmaa.Vit
open Go.Shelf Go.RowKit Go.Proofs.YtjiligngjlejmaaW.PrintWords Go.Proofs.YtjiligngjlejmaaW.PrintLast Go.Proofs.YtjiligngjlejmaaW.PrintMore Go.Proofs.Ytjiligngjlejmaa.Mem Go.Proofs.Ytjiligngjlejmaa.Srt
attribute [local go_sem] max2_int min2_int max_two min_two max_three min_three max_four min_four   -- for this text's walks alone
set_option linter.unusedVariables false
set_option linter.unusedSimpArgs false

theorem dropD_len (a : Nat) (l : List (Nat × Nat)) : (dropD a l).length ≤ l.length := List.length_eraseP_le
set_option maxHeartbeats 3200000 in
set_option maxRecDepth 100000 in
theorem doc_set (s0 : Nat) (W : World) (b now a k : Nat) (l : List (Nat × Nat)) (ok : Nat → Prop) (h : IsD s0 W b now l ok) (hl : l.length ≤ 1000000) (hs0 : s0 ≤ W.heap.size) (hk : now + k ≤ 1000000000) :
    Calls Try.prog 14 #[.pointer (some ⟨b, 0, none⟩), .int .i64 (a : Int), .int .i64 (k : Int)] W fun e w' => ∃ ok', e = .returned (.tuple #[]) ∧ IsD s0 w' b now (dropD a l ++ [(a, now + k)]) ok' ∧
      (∀ k, ok' k → ok k ∨ W.heap.size ≤ k) ∧ Chg (fun k => k = b ∨ ok k) W w' := by
  have hd := doc_drop s0 W b now a l ok h hl hs0
  have hlen := dropD_len a l
  obtain ⟨m, hm⟩ : ∃ m, dropD a l = m := ⟨_, rfl⟩
  rw [hm] at hd hlen ⊢
  obtain ⟨t, ht⟩ : ∃ t, now + k = t := ⟨_, rfl⟩
  rw [ht]
  have HH := Aside0.mk (And.intro h hd)
  have htz : (now : Int) + (k : Int) = (t : Int) := by omega
  have htw : IntKind.i64.wrap (t : Int) = (t : Int) := IntWalk.i64_in _ (by omega)
  clear h hd hm ht
  go_enter Try.func14, Try.ntmps14
  go_wp2_with (go_at_call 15; refine HH.out.2.mono ?_; rintro e w1 ⟨ok1, rfl, q1, q2, q3⟩; obtain ⟨v, hb, hR⟩ := q1.row; obtain ⟨A, c, rfl⟩ := Kd.R_slice hR; rw [dz_len] at hb hR; have d0 := blk_cell hb 0; have d1 := blk_cell hb 1; have H1 := Aside0.mk (And.intro q1 (And.intro q2 (And.intro q3 (And.intro hb hR)))); clear q1 q2 q3 hb hR)
  have hbl := blk_lt H1.out.2.2.2.1
  have hvb : some b ≠ (Value.slice A m.length c).ownBlock := fun e => H1.out.1.away (H1.out.2.2.2.2.1 b e.symm)
  have hsz := H1.out.2.2.1.size
  have hR1 : kDue.R 55 w1 s0 (fun j => ok1 j ∨ w1.heap.size ≤ j) (.slice A m.length c) (dz m) := Kd.R_mono H1.out.2.2.2.2 (fun _ h => .inl h)
  have hll : ((dz m).length + 1) * 16 ≤ 140737488355328 := by rw [dz_len]; omega
  have hs1 : s0 ≤ w1.heap.size := Nat.le_trans hs0 hsz
  obtain ⟨nn, hnn⟩ : ∃ nn, (dz m ++ [((a : Int), (t : Int))]).length = nn := ⟨_, rfl⟩
  have e4 : ∀ w4, w1.grownBy w4 (Value.slice A m.length c).ownBlock → w4.cell? ⟨b, 1, none⟩ = some (.slice A m.length c) ∧ w4.frozen? ⟨b, 1, none⟩ = false := fun w4 hg =>
    ⟨(blk_cell (blk_grown H1.out.2.2.2.1 hg hvb) 1).trans rfl, blk_frozen (blk_grown H1.out.2.2.2.1 hg hvb) _⟩
  have e1a : ∀ o, (w1.alloc o).cell? ⟨b, 1, none⟩ = some (.slice A m.length c) := fun o => Lib.cell?_alloc_some _ d1
  have e0a : ∀ o, (w1.alloc o).cell? ⟨b, 0, none⟩ = some (.int .i64 (now : Int)) := fun o => Lib.cell?_alloc_some _ d0
  have H2 := Aside0.mk (And.intro hR1 (And.intro hll (And.intro hs1 (And.intro hvb (And.intro hsz hbl)))))
  clear hR1 hll hs1 hvb hsz hbl
  go_region_law (first
    | (refine Kd.R_append_step kDue (w0 := w1.drew) (W := w1.drew) s0 (by rfl) _ _ _ _ (.agg #[.int .i64 0, .int .i64 0]) 16 (by rfl) Try.underlying39 infoD rfl (by decide) (by decide) (.slice A m.length c) (dz m) ((a : Int), (t : Int)) [.int .i64 (a : Int), .int .i64 (t : Int)] (fun j => ok1 j ∨ w1.heap.size ≤ j) (fun _ => False) (by rfl) (by rfl) ⟨[.int .i64 (a : Int)], [.int .i64 (t : Int)], rfl, rfl, rfl⟩ (fun _ hk => hk.elim) (fun k hk => .inr hk) (Kd.R_drew H2.out.1) (Below.refl _ _) H2.out.2.2.1 H2.out.2.1 ?_
       intro v7 w7 hR7 hB7 hG7 hat7
       obtain ⟨A8, c8, rfl⟩ := Kd.R_slice hR7
       rw [hnn] at hR7 hat7 ⊢
       have hG7' : w1.grownBy w7 (Value.slice A m.length c).ownBlock := ⟨hG7.os, hG7.tape, hG7.output, hG7.size, hG7.block⟩
       obtain ⟨e5, e6⟩ := e4 _ hG7'
       have H7 := Aside0.mk (And.intro hR7 (And.intro hG7' hat7))
       clear hR7 hB7 hG7 hG7' hat7))
  all_goals go_wp2_with fail
  all_goals (first | go_ret | go_end0 | refine bodyPost_ret (results_none rfl _ _ _) rfl ?_)
  all_goals (
    have hbl := H2.out.2.2.2.2.2
    have hsz := H2.out.2.2.2.2.1
    have hb7 := blk_grown H1.out.2.2.2.1 H7.out.2.1 H2.out.2.2.2.1
    have hok1 : ∀ j, (Value.slice A m.length c).ownBlock = some j → ok1 j := H1.out.2.2.2.2.1
    have haw : ¬ ok1 b := H1.out.1.away
    refine ⟨fun j => ok1 j ∨ w1.heap.size ≤ j, rfl, ⟨⟨_, blk_set hb7 _ _, ?_⟩, ?_⟩, fun j hj => ?_, Chg.set_ (S := fun k => k = b ∨ ok k) ?_ (p := ⟨b, 1, none⟩) (fun _ => .inl rfl) _⟩
    · rw [dz_app]
      exact Kd.R_step H7.out.1 (fun j hj hlt => Below.heap_setCell _ _ _ j (fun e => by subst e; exact hj.elim haw (fun hj => absurd hbl (Nat.not_lt.2 hj))))
    · exact fun hj => by exact hj.elim haw (fun hj => absurd hbl (Nat.not_lt.2 hj))
    · rcases hj with hj | hj
      · exact H1.out.2.1 j hj
      · exact .inr (Nat.le_trans hsz hj)
    · refine (H1.out.2.2.1.mono (fun _ h => .inl h)).trans (Chg.of_grown H7.out.2.1) (fun i hi hj => ?_)
      rcases H1.out.2.1 i (hok1 i hj.symm) with h | h
      · exact .inr h
      · exact absurd hi (Nat.not_lt.2 h))
end Go.Proofs.Ytjiligngjlejmaa.Vit
