/- The wheel in memory, and the contract of take: each theorem says its own conditions. -/
import Derived.Test.YtjiligngjlejmaaHb
import Derived.StillTailTactics
import Derived.Test.YtjiligngjlejmaaShelf
namespace Go.Proofs.Ytjiligngjlejmaa.Vit
open Go.Shelf Go.RowKit Go.Proofs.YtjiligngjlejmaaW.PrintWords Go.Proofs.YtjiligngjlejmaaW.PrintLast Go.Proofs.YtjiligngjlejmaaW.PrintMore Go.Proofs.Ytjiligngjlejmaa.Mem
attribute [local go_sem] max2_int min2_int max_two min_two max_three min_three max_four min_four   -- for this text's walks alone
set_option linter.unusedVariables false
set_option linter.unusedSimpArgs false

/-- A wheel: its tick, what is set, and its spokes' rows, each of its own blocks. -/
structure IsW (s0 : Nat) (W : World) (b m n c now : Nat) (f : Nat → Option Nat) (L : Nat → List Nat) (own : Nat → Nat) : Prop where
  blk : ∃ X : Array Value, W.heap[b]? = some (.cells X 51 (0, 0)) ∧ X.size = 34 ∧ X[0]? = some (.int .i64 (now : Int)) ∧ X[1]? = some (.map (some m)) ∧
    ∀ j, j < 32 → ∃ v, X[2 + j]? = some v ∧ (Kd.int .u16).Q 29 W s0 (fun k => own k = j) v (ints (L j))
  map : MapIs W m n c f
  low : s0 ≤ b ∧ s0 ≤ m
  away : 32 ≤ own b ∧ 32 ≤ own m
/-- What a wheel's turns may touch. -/
def WS (b m : Nat) (own : Nat → Nat) : Nat → Prop := fun k => k = b ∨ k = m ∨ own k < 32
theorem IsW.below {s0 b m n c now : Nat} {f : Nat → Option Nat} {L : Nat → List Nat} {own : Nat → Nat} {W W' : World} (h : IsW s0 W b m n c now f L own) (hB : Below W.heap.size W W') : IsW s0 W' b m n c now f L own := by
  obtain ⟨⟨X, h1, h2, h3, h4, h5⟩, hm, hl, haw⟩ := h
  exact ⟨⟨X, below_cell_blk hB h1, h2, h3, h4, fun j hj => (match h5 j hj with | ⟨v, hv, hq⟩ => ⟨v, hv, Kd.Q_below hq hB⟩)⟩, hm.keep (hB.block _ hm.lt), hl, haw⟩
/-- The closure in take: is it the number of which the cell tells? -/
theorem gives20 (a x : Int) (B : Nat) (W : World) (hc : W.cell? ⟨B, 0, none⟩ = some (.int .u16 a)) :
    FnGives Try.prog 20 #[.pointer (some ⟨B, 0, none⟩)] #[.int .u16 x] (.bool (decide (x = a))) W := by
  show Calls Try.prog 20 #[.int .u16 x, .pointer (some ⟨B, 0, none⟩)] W _
  go_enter Try.func20, Try.ntmps20
  go_wp2
  all_goals (go_ret; exact ⟨by simp_all <;> rfl, 0, rfl⟩)
theorem pred20 (a : Int) (B : Nat) (w : World) (hB : B < w.heap.size) (hcell : w.cell? ⟨B, 0, none⟩ = some (.int .u16 a)) :
    PredAt Try.prog 20 #[.pointer (some ⟨B, 0, none⟩)] (Value.int .u16) (fun x => decide (x = a)) w :=
  fun W x hb => gives20 a x B W ((hb.cell (p := ⟨B, 0, none⟩) hB).trans hcell)
open Go.Sort in
theorem over20 (a : Int) (B blk off size : Nat) (w : World) (hB : B < w.heap.size) (hne : B ≠ blk) (hcell : w.cell? ⟨B, 0, none⟩ = some (.int .u16 a)) :
    PredOver Try.prog 20 #[.pointer (some ⟨B, 0, none⟩)] (Value.int .u16) (fun x => decide (x = a)) blk off size w :=
  fun n os dk x _ => gives20 a x B _ (by
    unfold sortWorld
    rw [cell?_grow _ _ _ (by show B < (Sort.putRow _ _ _ _ _).heap.size; rw [size_putRow]; exact hB), cell?_putRow_other _ _ blk off _ _ (Or.inl hne)]
    exact hcell)
set_option maxHeartbeats 1000000 in
theorem deletes (a : Int) (B blk off cap : Nat) (d : Array Int) (w : World) (hB : B < w.heap.size) (hne : B ≠ blk) (hcell : w.cell? ⟨B, 0, none⟩ = some (.int .u16 a)) (hH : Sort.Holds (Value.int .u16) w blk off d) (hsz : d.size ≤ 9223372036854775807) (hcap : d.size ≤ cap) :
    Calls Try.prog 19 #[.slice (some ⟨blk, off, none⟩) d.size cap, .func (.func 20) #[] #[.pointer (some ⟨B, 0, none⟩)]] w fun e w' => e = .returned (.slice (some ⟨blk, off, none⟩) (d.toList.filter fun x => !decide (x = a)).length cap) ∧
      ∃ q, w' = Sort.putRow (Value.int .u16) (Sort.ahead w q) blk off ((d.toList.filter fun x => !decide (x = a)) ++ List.replicate (d.size - (d.toList.filter fun x => !decide (x = a)).length) 0).toArray := by
  have eg : ∀ args w, (callFunc 20 args).run Try.prog w = .ok (.enter 20 args) w := enters_of Try.func20 (by kernel_rfl) rfl
  have hcon := AnyE.slices_DeleteFunc Try.l10 (Value.int .u16) (fun _ => rfl) (fun x => decide (x = a)) 20 #[.pointer (some ⟨B, 0, none⟩)] eg 0 Try.zeroValue29 blk off cap d w
    (pred20 a B w hB hcell) (over20 a B blk off d.size w hB hne hcell) hH hsz hcap
  change Calls Try.prog 19 _ _ _ at hcon
  exact hcon
/-- A list without a number. -/
def less (l : List Nat) (a : Nat) : List Nat := l.filter fun x => decide (x ≠ a)
theorem deletes_Q {s0 B g o cap a : Nat} {ok : Nat → Prop} (l : List Nat) (W1 : World) (hQ : (Kd.int .u16).Q 29 W1 s0 ok (.slice (some ⟨g, o, none⟩) l.length cap) (ints l)) (hcell : W1.cell? ⟨B, 0, none⟩ = some (.int .u16 (a : Int))) (hne : B ≠ g) (hlen : l.length ≤ 1000000) :
    Calls Try.prog 19 #[.slice (some ⟨g, o, none⟩) l.length cap, .func (.func 20) #[] #[.pointer (some ⟨B, 0, none⟩)]] W1 fun e w' => e = .returned (.slice (some ⟨g, o, none⟩) (less l a).length cap) ∧
      (Kd.int .u16).Q 29 w' s0 ok (.slice (some ⟨g, o, none⟩) (less l a).length cap) (ints (less l a)) ∧ Chg (fun k => k = g) W1 w' := by
  have hf : (ints l).filter (fun x => !decide (x = (a : Int))) = ints (less l a) := by
    unfold ints less
    rw [List.filter_map]
    congr 1
    apply List.filter_congr
    intro x _
    simp only [Function.comp]
    by_cases hx : x = a
    · subst hx; simp
    · have : ¬ ((x : Int) = (a : Int)) := by omega
      simp [hx, this]
  have hcap := (Kd.Q_reads' hQ).2.1
  have hc := deletes (a : Int) B g o cap (ints l).toArray W1 (lies_lt hcell) hne hcell (holds_of_Q hQ) (by simp [ints_len]; omega) (by simp [ints_len]; exact hcap)
  rw [List.size_toArray, ints_len, show (ints l).toArray.toList = ints l from rfl, hf, ints_len] at hc
  refine hc.mono ?_
  rintro e w' ⟨he, q, rfl⟩
  have hle : (less l a).length ≤ l.length := List.length_filter_le _ _
  have hQ1 : (Kd.int .u16).Q 29 (Sort.ahead W1 q) s0 ok (.slice (some ⟨g, o, none⟩) l.length cap) (ints l) := Kd.Q_step hQ (fun _ _ _ => rfl)
  have hQ2 := Q_deleted (ys := ints (less l a)) (zs := List.replicate (l.length - (less l a).length) 0) hQ1 (by rw [List.length_append, List.length_replicate, ints_len, ints_len]; omega)
  rw [ints_len] at hQ2
  refine ⟨he, hQ2, ?_⟩
  rw [putRow_setCells]
  obtain ⟨s1, s2, s3, s4⟩ := setCells_same g (((ints (less l a)) ++ List.replicate (l.length - (less l a).length) 0).toArray.toList.map (Value.int .u16)) o (Sort.ahead W1 q)
  exact ⟨s1, s2, s3, by rw [s4]; exact Nat.le_refl _, fun k _ hk => (setCells_far _ _ _ hk)⟩
section
variable {P : Program} {ops : Array Oper} {o : Oper} {a : Act} {K : Act → World → Prop} {Q' : Exit → Act → World → Prop} {E : Prop} {w : World}
/-- delete at a step of a region that draws. -/
theorem step_delete (hgd : o.guard = none) (x y : Operand) (t k : TypeId) (ho : o.op = .call { callee := .builtin .delete, args := #[x, y], argTypes := #[t, k] }) (v u : Value) (hv : a.eval x = v) (hu : a.eval y = u)
    {R : World → Prop} (hd : ∃ W', (Builtin.delete_ #[t, k] o.type #[v, u]).run P w = .ok (.tuple #[]) W' ∧ R W') (h : ∀ W', R W' → K (a.put o.dst (.tuple #[])) W') :
    if Region.wanted o (yielded ops a.tmps) = true then Oper.wp P o a w K Q' else E := by
  have hw : Region.wanted o (yielded ops a.tmps) = true := by simp [Region.wanted, hgd]
  rw [if_pos hw]
  obtain ⟨W', hrun, hR⟩ := hd
  unfold Oper.wp
  simp [execOp, ho, resolve, invoke, builtin, hv, hu, hrun, Result.andThen]
  exact h W' hR
end
theorem set_off (W : World) (b : Nat) {i k : Nat} (h : i ≠ k) (v : Value) : (W.setCell ⟨b, i, none⟩ v).cell? ⟨b, k, none⟩ = W.cell? ⟨b, k, none⟩ := World.cell?_setCell_other (h := fun e => h (by injection e)) ..
/-- The wheel behind take: the spoke's row, the block and the map have turned. -/
theorem took {s0 : Nat} {W W2 W3 : World} {b m n c now a j g : Nat} {f : Nat → Option Nat} {L : Nat → List Nat} {own : Nat → Nat} (h : IsW s0 W b m n (c + 1) now f L own) (hj : j < 32) (hg : own g = j) (hgm : g ≠ m) (hgb : g ≠ b) (hC : Chg (fun k => k = g) W W2) {v : Value}
    (hQ : (Kd.int .u16).Q 29 W2 s0 (fun k => own k = j) v (ints (less (L j) a)))
    (hM : MapIs W3 m n c (upd f a none)) (hgr : (W2.setCell ⟨b, 2 + j, none⟩ v).grownBy W3 (some m)) : IsW s0 W3 b m n c now (upd f a none) (fun i => if i = j then less (L i) a else L i) own ∧ Chg (WS b m own) W W3 := by
  obtain ⟨⟨X, h1, h2, h3, h4, h5⟩, hm, hl, haw⟩ := h
  have hbm : b ≠ m := hm.typed h1
  have hC2 : Chg (WS b m own) W (W2.setCell ⟨b, 2 + j, none⟩ v) := Chg.set_ (hC.mono (fun k hk => by subst hk; exact .inr (.inr (by omega)))) (fun _ => .inl rfl) v
  have hC3 : Chg (WS b m own) W W3 := hC2.trans (Chg.of_grown hgr) (fun k _ hk => .inr (.inl (Option.some.inj hk)))
  have hkeep : ∀ k, k < W2.heap.size → k ≠ b → k ≠ m → W3.heap[k]? = W2.heap[k]? := fun k hk hkb hkm =>
    (hgr.block k (by simpa [World.setCell] using hk) (fun e => hkm (Option.some.inj e))).trans (Below.heap_setCell W2 _ v k (fun e => hkb e))
  have hbW2 : W2.heap[b]? = some (.cells X 51 (0, 0)) := hC.keeps h1 (fun e => hgb e.symm)
  have hbW3 : W3.heap[b]? = some (.cells (X.setIfInBounds (2 + j) v) 51 (0, 0)) := by
    rw [hgr.block b (by have := blk_lt hbW2; simpa [World.setCell] using this) (fun e => hbm (Option.some.inj e))]
    exact blk_set hbW2 _ _
  refine ⟨⟨⟨_, hbW3, by rw [Array.size_setIfInBounds]; exact h2, ?_, ?_, fun i hi => ?_⟩, hM, hl, haw⟩, hC3⟩
  · rw [Array.getElem?_setIfInBounds_ne (by omega)]
    exact h3
  · rw [Array.getElem?_setIfInBounds_ne (by omega)]
    exact h4
  · by_cases hij : i = j
    · subst hij
      refine ⟨v, by rw [Array.getElem?_setIfInBounds_self_of_lt (by omega)], ?_⟩
      rw [if_pos rfl]
      exact Kd.Q_step hQ (fun k hk hlt => hkeep k hlt (fun e => by subst e; omega) (fun e => by subst e; omega))
    · obtain ⟨u, hu, hq⟩ := h5 i hi
      refine ⟨u, by rw [Array.getElem?_setIfInBounds_ne (by omega)]; exact hu, ?_⟩
      rw [if_neg hij]
      exact Kd.Q_step hq (fun k hk hlt => (hkeep k (Nat.lt_of_lt_of_le hlt hC.size) (fun e => by subst e; omega) (fun e => by subst e; omega)).trans (hC.block k hlt (fun e => hij (by rw [← hk, e, hg]))))
set_option maxHeartbeats 3200000 in
set_option maxRecDepth 100000 in
theorem take_hit (s0 : Nat) (W : World) (b m n c now a t : Nat) (f : Nat → Option Nat) (L : Nat → List Nat) (own : Nat → Nat) (h : IsW s0 W b m n (c + 1) now f L own) (ha : a < 65536) (hf : f a = some t) (ht : t ≤ 1000000000) (hin : a ∈ L (t % 32)) (hlen : (L (t % 32)).length ≤ 1000000) :
    Calls Try.prog 17 #[.pointer (some ⟨b, 0, none⟩), .int .u16 (a : Int)] W fun e w' => e = .returned (.bool true) ∧
      IsW s0 w' b m n c now (upd f a none) (fun j => if j = t % 32 then less (L j) a else L j) own ∧ Chg (WS b m own) W w' := by
  have HW := h
  obtain ⟨⟨X, h1, h2, h3, h4, h5⟩, hm, hl, haw⟩ := h
  obtain ⟨j, hj⟩ : ∃ j, t % 32 = j := ⟨_, rfl⟩
  rw [hj] at hin
  obtain ⟨v, hv, hQ⟩ := h5 j (by omega)
  have hpos : 0 < (ints (L j)).length := by rw [ints_len]; exact List.length_pos_of_mem hin
  obtain ⟨g, o, cap, hvv, hg1, hg2, hgc⟩ := Kd.Q_form hQ hpos
  rw [hvv] at hv hQ
  rw [ints_len] at hv hQ
  have hW1 : ∀ (ob : Obj) q, ((W.alloc ob).drewN q).heap[m]? = W.heap[m]? := fun ob q => by
    rw [World.heap_drewN]
    exact Below.heap_alloc W ob m hm.lt
  have hmw : ∀ q, MapIs ((W.alloc (.cells #[.int .u16 (a : Int)] 29)).drewN q) m n (c + 1) f := fun q => hm.keep (hW1 _ q)
  have hlook := fun q => (hmw q).hit ha hf
  have hlook0 := hlook 0
  have d1 := (blk_cell h1 1).trans h4
  have d2 := (blk_cell h1 (2 + j)).trans hv
  have e1 : ∀ ob, (W.alloc ob).cell? ⟨b, 1, none⟩ = some (.map (some m)) := fun ob => Lib.cell?_alloc_some _ d1
  have e2 : ∀ ob, (W.alloc ob).cell? ⟨b, 2 + j, none⟩ = some (.slice (some ⟨g, o, none⟩) (L j).length cap) := fun ob => Lib.cell?_alloc_some _ d2
  have hg4 : own g = j := hQ.1 g rfl
  have hgm : g ≠ m := by
    obtain ⟨cells, hc⟩ := hgc
    exact hm.typed hc
  have hgb : g ≠ b := by
    obtain ⟨cells, hc⟩ := hgc
    exact blk_ne hc h1 (by decide)
  have hbm : b ≠ m := hm.typed h1
  have hml := hm.lt
  have hbl := blk_lt h1
  have hj32 : j < 32 := by omega
  have hne1 : 2 + j ≠ 1 := by omega
  have hne2 : W.heap.size ≠ b := by omega
  rw [hj] at hlen
  have hcon : ∀ q, Calls Try.prog 19 #[.slice (some ⟨g, o, none⟩) (L j).length cap, .func (.func 20) #[] #[.pointer (some ⟨W.heap.size, 0, none⟩)]] ((W.alloc (.cells #[.int .u16 (a : Int)] 29)).drewN q) fun e w' => e = .returned (.slice (some ⟨g, o, none⟩) (less (L j) a).length cap) ∧
      (Kd.int .u16).Q 29 w' s0 (fun k => own k = j) (.slice (some ⟨g, o, none⟩) (less (L j) a).length cap) (ints (less (L j) a)) ∧ Chg (fun k => k = g) W w' ∧ w'.cell? ⟨b, 1, none⟩ = some (.map (some m)) ∧ w'.cell? ⟨b, 2 + j, none⟩ = some (.slice (some ⟨g, o, none⟩) (L j).length cap) ∧ w'.frozen? ⟨b, 2 + j, none⟩ = false ∧ w'.cell? ⟨W.heap.size, 0, none⟩ = some (.int .u16 (a : Int)) ∧ w'.heap[m]? = W.heap[m]? := fun q => by
    refine (deletes_Q (B := W.heap.size) (a := a) (L j) ((W.alloc (.cells #[.int .u16 (a : Int)] 29)).drewN q) (Kd.Q_drewN (Kd.Q_alloc hQ _) q) (blk_cell (blk_new W _) 0) (by omega) hlen).mono ?_
    rintro e w' ⟨he, hq, hC⟩
    have hC1 : Chg (fun k => k = g) W w' := ((Chg.refl _ W).alloc _ |>.drewN q).trans hC (fun _ _ hk => hk)
    have hb' := hC1.keeps h1 (fun e => hgb e.symm)
    refine ⟨he, hq, hC1, (blk_cell hb' 1).trans h4, (blk_cell hb' (2 + j)).trans hv, blk_frozen hb' _, ?_, hC1.block m hml (fun e => hgm e.symm)⟩
    exact (hC.cell (by show W.heap.size < ((W.alloc _).drewN q).heap.size; simp) (by show ¬ W.heap.size = g; omega)).trans (blk_cell (blk_new W _) 0)
  have hdel : ∀ w : World, w.heap[m]? = W.heap[m]? → ∃ W', (Builtin.delete_ #[48, 29] 0 #[.map (some m), .int .u16 (a : Int)]).run Try.prog w = .ok (.tuple #[]) W' ∧ (MapIs W' m n c (upd f a none) ∧ w.grownBy W' (some m)) := fun w hw => (match (hm.keep hw).drop ha hf 0 with | ⟨W', r1, r2, r3⟩ => ⟨W', r1, r2, r3.grown⟩)
  have HH := Aside0.mk (And.intro h1 (And.intro h2 (And.intro h3 (And.intro h4 (And.intro h5 (And.intro hm (And.intro hl (And.intro hQ (And.intro hj (And.intro hg4 (And.intro hgm (And.intro hgb (And.intro hml hj32)))))))))))))
  clear h1 h2 h3 h4 h5 hm hl hv hQ hvv hW1 hmw d1 d2 hpos hin hgc hg1 hg2
  have hjl : (j : Int) < 32 := by omega
  have r1 : (t : Int).tmod 32 = (j : Int) := by rw [Int.tmod_eq_emod_of_nonneg (by omega)]; omega
  have r2 : wrap64 (j : Int) = (j : Int) := wrap64_in _ (by omega) (by omega)
  clear hj hf
  go_enter Try.func17, Try.ntmps17
  go_upto_region 1 with fail
  go_quiet (fail)
  go_wp2_with (go_at_call 19; refine (hcon _).mono ?_; rintro e W2 ⟨rfl, q1, q2, q3, q4, q5, q6, q7⟩; have H2 := Aside0.mk (And.intro q1 (And.intro q2 q7)); clear q1 q2 q7)
  have s1 : ∀ v, (W2.setCell ⟨b, 2 + j, none⟩ v).cell? ⟨b, 1, none⟩ = some (.map (some m)) := fun v => (set_off _ _ hne1 v).trans q3
  have s2 : ∀ v, (W2.setCell ⟨b, 2 + j, none⟩ v).cell? ⟨W.heap.size, 0, none⟩ = some (.int .u16 (a : Int)) := fun v => (cell_far hne2 v).trans q6
  clear q3 q4 q5 q6
  go_region_law (first | (refine step_delete (by rfl) _ _ _ _ (by rfl) _ _ (by rfl) (by rfl) (hdel _ (by exact ((Below.heap_setCell W2 _ _ m (fun e => hbm e.symm)).trans H2.out.2.2))) ?_; rintro W3 ⟨m1, m2⟩; have H3 := Aside0.mk (And.intro m1 (show (W2.setCell ⟨b, 2 + j, none⟩ (.slice (some ⟨g, o, none⟩) (less (L j) a).length cap)).grownBy W3 (some m) from ⟨m2.os, m2.tape, m2.output, m2.size, m2.block⟩)); clear m1 m2))
  go_wp2_with fail
  all_goals (go_ret)
  all_goals (obtain ⟨_, _, _, _, _, _, _, _, hj, hg4, hgm, hgb, _, hj32⟩ := HH.out)
  all_goals (refine ⟨rfl, ?_⟩)
  all_goals (rw [hj])
  all_goals (exact took HW hj32 hg4 hgm hgb H2.out.2.1 H2.out.1 H3.out.1 H3.out.2)
end Go.Proofs.Ytjiligngjlejmaa.Vit
