/- Set. -/
import Derived.Test.YtjiligngjlejmaaHd
namespace Go.Proofs.Ytjiligngjlejmaa.Vit
open Go.Shelf Go.RowKit Go.Proofs.YtjiligngjlejmaaW.PrintWords Go.Proofs.YtjiligngjlejmaaW.PrintLast Go.Proofs.YtjiligngjlejmaaW.PrintMore Go.Proofs.Ytjiligngjlejmaa.Mem
attribute [local go_sem] max2_int min2_int max_two min_two max_three min_three max_four min_four   -- for this text's walks alone
set_option linter.unusedVariables false
set_option linter.unusedSimpArgs false

/-- The wheel behind a number that was put on a spoke. -/
theorem put_in {s0 : Nat} {W1 W2 w4 : World} {b m n n' c c' now a j g off cap : Nat} {f f' : Nat → Option Nat} {L : Nat → List Nat} {own : Nat → Nat} {v : Value} {ob : Obj} (h : IsW s0 W1 b m n c now f L own) (hj : j < 32)
    (hQ : (Kd.int .u16).Q 29 W1 s0 (fun k => own k = j) v (ints (L j))) (hM : MapIs W2 m n' c' f') (hgr2 : W1.grownBy W2 (some m))
    (hq4 : (Kd.int .u16).Q 29 w4 s0 (fun k => own k = j ∨ W1.heap.size ≤ k) (.slice (some ⟨g, off, none⟩) ((L j).length + 1) cap) (ints (L j ++ [a]))) (hgr4 : (W2.alloc ob).grownBy w4 v.ownBlock) :
    ∃ own', (∀ k, k < W1.heap.size → own' k = own k) ∧ IsW s0 (w4.setCell ⟨b, 2 + j, none⟩ (.slice (some ⟨g, off, none⟩) ((L j).length + 1) cap)) b m n' c' now f' (fun i => if i = j then L i ++ [a] else L i) own' ∧
      Chg (WS b m own) W1 (w4.setCell ⟨b, 2 + j, none⟩ (.slice (some ⟨g, off, none⟩) ((L j).length + 1) cap)) := by
  obtain ⟨⟨X, h1, h2, h3, h4, h5⟩, hm, hl, haw⟩ := h
  have hbl := blk_lt h1
  have hml := hm.lt
  have hbm : b ≠ m := hm.typed h1
  have hvown : ∀ k, v.ownBlock = some k → own k = j := fun k hk => hQ.1 k hk
  have hvb : some b ≠ v.ownBlock := fun e => by have := hvown b e.symm; omega
  have hvm : some m ≠ v.ownBlock := fun e => by have := hvown m e.symm; omega
  have hsz2 := hgr2.size
  have hsz4 := hgr4.size
  have hsa : (W2.alloc ob).heap.size = W2.heap.size + 1 := World.size_alloc _ _
  -- a block of W1 that is neither the wheel's, the map's nor the row's
  have hkeep4 : ∀ k, k < W1.heap.size → k ≠ m → some k ≠ v.ownBlock → w4.heap[k]? = W1.heap[k]? := fun k hk hkm hkv =>
    (hgr4.block k (by omega) hkv).trans ((Below.heap_alloc W2 ob k (by omega)).trans (hgr2.block k hk (fun e => hkm (Option.some.inj e))))
  have hm4 : w4.heap[m]? = W2.heap[m]? := (hgr4.block m (by omega) hvm).trans (Below.heap_alloc W2 ob m (by omega))
  have hb4 : w4.heap[b]? = some (.cells X 51 (0, 0)) := (hkeep4 b hbl hbm hvb).trans h1
  have hset : ∀ k, k ≠ b → (w4.setCell ⟨b, 2 + j, none⟩ (.slice (some ⟨g, off, none⟩) ((L j).length + 1) cap)).heap[k]? = w4.heap[k]? := fun k hk => Below.heap_setCell w4 _ _ k (fun e => hk e)
  have hC2 : Chg (WS b m own) W1 W2 := (Chg.of_grown hgr2).mono (fun k hk => .inr (.inl (Option.some.inj hk)))
  have hC4 : Chg (WS b m own) W1 w4 := (hC2.alloc ob).trans (Chg.of_grown hgr4) (fun k _ hk => .inr (.inr (by rw [hvown k hk.symm]; exact hj)))
  refine ⟨fun k => if k < W1.heap.size then own k else j, fun k hk => if_pos hk, ⟨⟨_, blk_set hb4 _ _, by rw [Array.size_setIfInBounds]; exact h2, ?_, ?_, fun i hi => ?_⟩, hM.keep ((hset m (fun e => hbm e.symm)).trans hm4), hl, ?_⟩, hC4.set_ (fun _ => .inl rfl) _⟩
  · rw [Array.getElem?_setIfInBounds_ne (by omega)]
    exact h3
  · rw [Array.getElem?_setIfInBounds_ne (by omega)]
    exact h4
  · by_cases hij : i = j
    · subst hij
      refine ⟨_, by rw [Array.getElem?_setIfInBounds_self_of_lt (by omega)], ?_⟩
      rw [if_pos rfl]
      refine Kd.Q_mono (Kd.Q_step hq4 (fun k hk hlt => hset k (fun e => by subst e; rcases hk with hk | hk <;> omega))) (fun k hk => ?_)
      rcases hk with hk | hk
      · by_cases hlt : k < W1.heap.size
        · rw [if_pos hlt]; exact hk
        · rw [if_neg hlt]
      · rw [if_neg (by omega)]
    · obtain ⟨u, hu, hq⟩ := h5 i hi
      refine ⟨u, by rw [Array.getElem?_setIfInBounds_ne (by omega)]; exact hu, ?_⟩
      rw [if_neg hij]
      refine Kd.Q_mono (Kd.Q_step (Kd.Q_bound hq) (fun k hk hlt => (hset k (fun e => by subst e; omega)).trans (hkeep4 k hlt (fun e => by subst e; omega) (fun e => hij (by rw [← hk.1, hvown k e.symm]))))) (fun k hk => ?_)
      rw [if_pos hk.2.2.1]
      exact hk.1
  · exact ⟨by rw [if_pos hbl]; exact haw.1, by rw [if_pos hml]; exact haw.2⟩
theorem add_in {x y z : Nat} (h : x + y = z) (hz : z ≤ 1000000000) : wrap64 ((x : Int) + (y : Int)) = (z : Int) := by rw [wrap64_in _ (by omega) (by omega)]; omega
theorem nat_in {j : Nat} (h : j < 1000000000) : wrap64 (j : Int) = (j : Int) := wrap64_in _ (by omega) (by omega)
theorem tmod32 {t j : Nat} (h : t % 32 = j) : (t : Int).tmod 32 = (j : Int) := by rw [Int.tmod_eq_emod_of_nonneg (by omega)]; omega
theorem upd_upd (f : Nat → Option Nat) (a : Nat) (x y : Option Nat) : upd (upd f a x) a y = upd f a y := by
  funext z
  unfold upd
  by_cases h : z = a
  · rw [if_pos h, if_pos h]
  · rw [if_neg h, if_neg h, if_neg h]
/-- How many are set behind a Set. -/
def setCnt (f : Nat → Option Nat) (a c : Nat) : Nat := c - (if (f a).isSome then 1 else 0) + 1
theorem IsW.count {s0 : Nat} {W : World} {b m n c c' now : Nat} {f : Nat → Option Nat} {L : Nat → List Nat} {own : Nat → Nat} (h : IsW s0 W b m n c now f L own) (hc : c = c') : IsW s0 W b m n c' now f L own := by
  subst hc; exact h
theorem info29 : (Try.prog.info? 29).map (fun i => (i.zero, i.size, i.bytes)) = some (some (.int .u16 0), 1, 2) := by kernel_rfl
set_option maxHeartbeats 3200000 in
set_option maxRecDepth 100000 in
theorem set_walk (s0 : Nat) (W : World) (b m n c now a k : Nat) (f : Nat → Option Nat) (L : Nat → List Nat) (own : Nat → Nat) (h : IsW s0 W b m n c now f L own) (ht : Tied f L) (ha : a < 65536) (hlen : ∀ j, (L j).length ≤ 1000000) (hk : 1 ≤ k ∧ k ≤ 1000) (hs0 : s0 ≤ W.heap.size) (hn : n < 4294967296) (hnow : now ≤ 1000000) :
    Calls Try.prog 8 #[.pointer (some ⟨b, 0, none⟩), .int .u16 (a : Int), .int .i64 (k : Int)] W fun e w' => e = .returned (.int .i64 0) ∧
      ∃ own', (∀ i, i < W.heap.size → own' i = own i) ∧ IsW s0 w' b m (n + 1) (setCnt f a c) now (upd f a (some (now + k))) (fun j => if j = (now + k) % 32 then less (L j) a ++ [a] else less (L j) a) own' ∧ Chg (WS b m own) W w' := by
  have htk := takes s0 W b m n c now a f L own h ht ha hlen
  have hT := ht.less a
  obtain ⟨t, htt⟩ : ∃ t, now + k = t := ⟨_, rfl⟩
  obtain ⟨j, hj⟩ : ∃ j, t % 32 = j := ⟨_, rfl⟩
  have hj32 : j < 32 := by omega
  have htb : t ≤ 9223372036854775807 := by omega
  rw [htt, hj]
  have hk1 : ¬ (k : Int) < 1 := by omega
  have hk2 : ¬ (1000 : Int) < (k : Int) := by omega
  have hjl : (j : Int) < 32 := by omega
  have hjn : j < 32 := hj32
  have ht9 : t ≤ 1000000000 := by omega
  have r1 := tmod32 hj
  have r2 := nat_in (j := j) (by omega)
  have r3 := add_in htt ht9
  have HH := Aside0.mk (And.intro h (And.intro ht (And.intro hlen (And.intro hs0 (And.intro hn (And.intro hT hj32))))))
  clear h ht hlen hs0 hT hk hj htt hnow
  go_enter Try.func8, Try.ntmps8
  go_wp2_with (go_at_call 17; go_loud ( refine htk.mono ?_; rintro e W1 ⟨rfl, q1, q2⟩; have H1 := Aside0.mk (And.intro q1 q2); clear q1 q2; obtain ⟨⟨X, h1, h2, h3, h4, h5⟩, hm, hl, haw⟩ := H1.out.1; obtain ⟨v, hv, hQ⟩ := h5 j hjn; have d0 := (blk_cell h1 0).trans h3; have d1 := (blk_cell h1 1).trans h4; have d2 := (blk_cell h1 (2 + j)).trans hv; obtain ⟨W2, hr, hM2, hT2⟩ := hm.put ha hn htb; have hgr2 := hT2.grown; have e1 : W2.cell? ⟨b, 2 + j, none⟩ = some v := cell_grown hgr2 d2 (fun e => (hm.typed h1) (Option.some.inj e)); have e2 := hgr2.size; clear h2 h3 h4 h5))
  have e3 : ∀ ob, (W2.alloc ob).cell? ⟨b, 2 + j, none⟩ = some v := fun ob => Lib.cell?_alloc_some _ e1
  have hvb : some b ≠ v.ownBlock := fun e => by have := hQ.1 b e.symm; have := haw.1; omega
  have hb2 := blk_grown h1 hgr2 (fun e => (hm.typed h1) (Option.some.inj e))
  have hv2 := (blk_cell hb2 (2 + j)).symm.trans e1
  have e4 : ∀ ob w4, (W2.alloc ob).grownBy w4 v.ownBlock → w4.cell? ⟨b, 2 + j, none⟩ = some v ∧ w4.frozen? ⟨b, 2 + j, none⟩ = false := fun ob w4 hg =>
    ⟨(blk_cell (blk_grown (blk_alloc hb2 ob) hg hvb) (2 + j)).trans hv2, blk_frozen (blk_grown (blk_alloc hb2 ob) hg hvb) _⟩
  have hQ2 : (Kd.int .u16).Q 29 W2 s0 (fun k => own k = j ∨ W1.heap.size ≤ k) v (ints (less (L j) a)) :=
    Kd.Q_mono (Kd.Q_step hQ (fun k hk hlt => hgr2.block k hlt (fun e => by have := haw.2; rw [Option.some.inj e] at hk; omega))) (fun k hk => .inl hk)
  have hll : ((ints (less (L j) a)).length + 1) * 2 ≤ 140737488355328 := by
    have h1 := HH.out.2.2.1 j
    have h2 : (less (L j) a).length ≤ (L j).length := List.length_filter_le _ _
    rw [ints_len]
    omega
  have hs2 : s0 ≤ (W2.alloc (.cells #[.int .u16 (a : Int)] 29)).heap.size := by
    have h1 := HH.out.2.2.2.1
    have h2 := H1.out.2.size
    rw [World.size_alloc]
    omega
  have hfr : ∀ k, (W2.alloc (.cells #[.int .u16 (a : Int)] 29)).heap.size ≤ k → own k = j ∨ W1.heap.size ≤ k := fun k hk => by
    rw [World.size_alloc] at hk
    right
    omega
  have HQ := Aside0.mk (And.intro hQ2 (And.intro hM2 (And.intro hgr2 hQ)))
  clear hQ2 hM2 hgr2 hT2 hQ hb2 hv2 hm hl haw h1 hvb e2
  go_region_law (first | (refine step_append_Q (Kd.int .u16) (by rfl) _ _ _ (by rfl) s0 29 _ 2 Try.underlying31 info29 rfl (by decide) (by decide) v (ints (less (L j) a)) (a : Int) [.int .u16 (a : Int)] (fun k => own k = j ∨ W1.heap.size ≤ k) (fun _ => False) (by rfl) (Kd.Q_alloc HQ.out.1 _) ⟨W2.heap.size, 0, none⟩ 1 (by rfl) (World.news_of_block (cs := #[.int .u16 (a : Int)]) (t := 29) (fr := (0, 0)) (heap_alloc_new W2 _)) (by exact rfl) (fun k hk => hk.elim) hfr hs2 hll ?_; intro gg off cap2 w7 hq hgrow hat hlt; rw [ints_len] at hq ⊢; have hgr7 : (W2.alloc (.cells #[.int .u16 (a : Int)] 29)).grownBy w7 v.ownBlock := ⟨hgrow.os, hgrow.tape, hgrow.output, hgrow.size, hgrow.block⟩; obtain ⟨e5, e6⟩ := e4 _ w7 hgr7; have H7 := Aside0.mk (And.intro hq hgr7); clear hq hgrow hgr7 hat hlt))
  all_goals (go_wp2_with fail)
  all_goals (go_ret)
  all_goals (refine ⟨rfl, ?_⟩)
  all_goals (obtain ⟨own', p1, p2, p3⟩ := put_in H1.out.1 hjn HQ.out.2.2.2 HQ.out.2.1 HQ.out.2.2.1 (by rw [ints_snoc]; exact H7.out.1) H7.out.2)
  all_goals (exact ⟨own', fun i hi => p1 i (Nat.lt_of_lt_of_le hi H1.out.2.size), (p2.congr (upd_upd f a none _) rfl).count (by unfold upd setCnt; rw [if_pos rfl]; rfl), H1.out.2.trans p3 (fun _ _ h => h)⟩)
end Go.Proofs.Ytjiligngjlejmaa.Vit
