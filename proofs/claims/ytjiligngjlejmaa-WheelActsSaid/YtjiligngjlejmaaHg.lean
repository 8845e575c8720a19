/- Tick. -/
import Derived.Test.YtjiligngjlejmaaHf
namespace Go.Proofs.Ytjiligngjlejmaa.Vit
open Go.Shelf Go.RowKit Go.Proofs.YtjiligngjlejmaaW.PrintWords Go.Proofs.YtjiligngjlejmaaW.PrintLast Go.Proofs.YtjiligngjlejmaaW.PrintMore Go.Proofs.Ytjiligngjlejmaa.Mem
attribute [local go_sem] max2_int min2_int max_two min_two max_three min_three max_four min_four   -- for this text's walks alone
set_option linter.unusedVariables false
set_option linter.unusedSimpArgs false

section
variable {P : Program} {ops : Array Oper} {o : Oper} {rest : List Oper} {a : Act} {Q : Exit → Act → World → Prop} {α : Type} {w : World}
/-- append of one element onto a row, in a plain region. -/
theorem wpList_append_Q (d : Kd α) (hgd : o.guard = none) (s x : Operand) (t : TypeId)
    (ho : o.op = .call { callee := .builtin .append, args := #[s, x], argTypes := #[t, t] }) (base : Nat) (e : TypeId) (z : Value) (bytes : Nat)
    (ht : P.underlying t = some (.slice e)) (hinfo : (P.info? e).map (fun i => (i.zero, i.size, i.bytes)) = some (some z, d.sz, bytes)) (hz : z.cells.size = d.sz) (hs0 : 0 < d.sz) (hb0 : 0 < bytes)
    (v : Value) (xs : List α) (p : α) (cs : List Value) (ok okp : Nat → Prop) (hs : a.eval s = v) (HO : d.Q e w base ok v xs)
    (ad : Addr) (c : Nat) (hx : a.eval x = .slice (some ad) 1 c) (hnews : ∀ j u, cs[j]? = some u → w.cell? (ad.add j) = some u)
    (hp : d.M w base okp p cs) (hokp : ∀ k, okp k → ok k ∧ some k ≠ v.ownBlock) (hfresh : ∀ k, w.heap.size ≤ k → ok k) (hbase : base ≤ w.heap.size) (hl : (xs.length + 1) * bytes ≤ 140737488355328)
    (h : ∀ g off cap w1, d.Q e w1 base ok (.slice (some ⟨g, off, none⟩) (xs.length + 1) cap) (xs ++ [p]) → w.grownBy w1 v.ownBlock → (v.ownBlock = some g ∨ w.heap.size ≤ g) → g < w1.heap.size →
      wpList P ops Q rest (a.put o.dst (.slice (some ⟨g, off, none⟩) (xs.length + 1) cap)) w1) :
    wpList P ops Q (o :: rest) a w := by
  refine wpList_plain hgd fun K' hK' => ?_
  have h5 := step_append_Q (P := P) (ops := ops) (o := o) (a := a) (K := K') (Q' := Q) (E := False) (w := w) d hgd s x t ho base e z bytes ht hinfo hz hs0 hb0 v xs p cs ok okp hs HO ad c hx hnews hp hokp hfresh hbase hl (fun g off cap w1 h1 h2 h3 h4 => hK' _ _ (h g off cap w1 h1 h2 h3 h4))
  have hw : Region.wanted o (yielded ops a.tmps) = true := by simp [Region.wanted, hgd]
  rw [if_pos hw] at h5
  exact h5
end
theorem IsW.reown {s0 : Nat} {W : World} {b m n c now : Nat} {f : Nat → Option Nat} {L : Nat → List Nat} {own own' : Nat → Nat} (h : IsW s0 W b m n c now f L own) (ho : ∀ k, k < W.heap.size → own' k = own k) : IsW s0 W b m n c now f L own' := by
  obtain ⟨⟨X, h1, h2, h3, h4, h5⟩, hm, hl, haw⟩ := h
  refine ⟨⟨X, h1, h2, h3, h4, fun j hj => ?_⟩, hm, hl, ?_⟩
  · obtain ⟨v, hv, hq⟩ := h5 j hj
    exact ⟨v, hv, Kd.Q_mono (Kd.Q_bound hq) (fun k hk => (ho k hk.2.2.1).trans hk.1)⟩
  · rw [ho _ (blk_lt h1), ho _ hm.lt]
    exact haw
theorem IsW.ticked {s0 : Nat} {W : World} {b m n c now : Nat} {f : Nat → Option Nat} {L : Nat → List Nat} {own : Nat → Nat} (h : IsW s0 W b m n c now f L own) (t : Nat) : IsW s0 (W.setCell ⟨b, 0, none⟩ (.int .i64 (t : Int))) b m n c t f L own := by
  obtain ⟨⟨X, h1, h2, h3, h4, h5⟩, hm, hl, haw⟩ := h
  have hbm : b ≠ m := hm.typed h1
  refine ⟨⟨_, blk_set h1 _ _, by rw [Array.size_setIfInBounds]; exact h2, ?_, ?_, fun j hj => ?_⟩, hm.keep (Below.heap_setCell W _ _ m (fun e => hbm e.symm)), hl, haw⟩
  · rw [Array.getElem?_setIfInBounds_self_of_lt (by omega)]
  · rw [Array.getElem?_setIfInBounds_ne (by omega)]
    exact h4
  · obtain ⟨v, hv, hq⟩ := h5 j hj
    exact ⟨v, by rw [Array.getElem?_setIfInBounds_ne (by omega)]; exact hv, Kd.Q_step hq (fun k hk hlt => Below.heap_setCell W _ _ k (fun e => by subst e; omega))⟩
/-- What is due of a spoke. -/
def due (f : Nat → Option Nat) (now : Nat) (l : List Nat) : List Nat := l.filter fun x => decide (f x = some now)
/-- A wheel's words: what is set, its spokes, how many. -/
structure St where
  f : Nat → Option Nat
  L : Nat → List Nat
  c : Nat
/-- One is taken. -/
def St.take1 (s : St) (a : Nat) : St := ⟨upd s.f a none, fun j => less (s.L j) a, s.c - (if (s.f a).isSome then 1 else 0)⟩
def IsS (s0 : Nat) (W : World) (b m n now : Nat) (s : St) (own : Nat → Nat) : Prop := IsW s0 W b m n s.c now s.f s.L own ∧ Tied s.f s.L ∧ (∀ j, (s.L j).length ≤ n) ∧ ∀ j x, x ∈ s.L j → x < 65536
theorem St.take1_len (s : St) (a j : Nat) : ((s.take1 a).L j).length ≤ (s.L j).length := List.length_filter_le _ _
theorem takesS (s0 : Nat) (W : World) (b m n now a : Nat) (s : St) (own : Nat → Nat) (h : IsS s0 W b m n now s own) (hn : n ≤ 1000000) (ha : a < 65536) :
    Calls Try.prog 17 #[.pointer (some ⟨b, 0, none⟩), .int .u16 (a : Int)] W fun e w' => e = .returned (.bool (s.f a).isSome) ∧ IsS s0 w' b m n now (s.take1 a) own ∧ Chg (WS b m own) W w' := by
  refine (takes s0 W b m n s.c now a s.f s.L own h.1 h.2.1 ha (fun j => Nat.le_trans (h.2.2.1 j) hn)).mono ?_
  rintro e w' ⟨he, h1, h2⟩
  exact ⟨he, ⟨h1, h.2.1.less a, fun j => Nat.le_trans (s.take1_len a j) (h.2.2.1 j), fun j x hx => h.2.2.2 j x (mem_less.1 hx).1⟩, h2⟩
theorem sort_row {base : Nat} {ok : Nat → Prop} (v : Value) (ds : List Nat) (w : World) (hq : (Kd.int .u16).Q 29 w base ok v (ints ds)) (hnil : ds = [] → v = .slice none 0 0) (hasc : ds.Pairwise (· < ·)) (hs : ds.length < 50) :
    Calls Try.prog 18 #[v] w fun e w' => e = .returned (.tuple #[]) ∧ Below w.heap.size w w' := by
  by_cases hd : ds = []
  · rw [hnil hd]
    refine (sort_nil w).mono ?_
    rintro e w' ⟨he, rfl⟩
    exact ⟨he, Below.refl _ _⟩
  · obtain ⟨g, o, cap, rfl, _⟩ := Kd.Q_form hq (by rw [ints_len]; exact List.length_pos_iff.2 hd)
    rw [ints_len] at hq ⊢
    refine sort_asc g o cap ds.length (fun t => (ints ds).toArray[t]!) w ⟨fun t ht => (holds_of_Q hq t (by rw [List.size_toArray, ints_len]; exact ht)).1, fun t ht => ?_⟩ hs
    have h1 : t + 1 < (ints ds).toArray.size := by rw [List.size_toArray, ints_len]; exact ht
    rw [getElem!_pos (ints ds).toArray (t + 1) h1, getElem!_pos (ints ds).toArray t (by omega)]
    have := List.pairwise_iff_getElem.1 hasc t (t + 1) (by omega) ht (by omega)
    simp [ints]
    omega
theorem below_app {B q : Nat} {W1 wr w7 : World} {ob : Obj} {u : Value} (hB : Below B W1 wr) (hBw : B ≤ wr.heap.size) (hu : ∀ k, u.ownBlock = some k → B ≤ k) (hg : ((wr.drewN q).alloc ob).grownBy w7 u.ownBlock) : Below B W1 w7 := by
  have hs : ((wr.drewN q).alloc ob).heap.size = wr.heap.size + 1 := World.size_alloc _ _
  exact hB.trans ⟨hg.os, hg.tape, hg.output, Nat.le_trans (by rw [hs]; exact Nat.le_succ _) hg.size, fun i hi => (hg.block i (by omega) (fun e => by have := hu i e.symm; omega)).trans (Below.heap_alloc (wr.drewN q) ob i (show i < wr.heap.size by omega))⟩
def natOf : Value → Nat | .int _ z => z.toNat | _ => 0
theorem due_take (f : Nat → Option Nat) (t : Nat) (l : List Nat) (k : Nat) (hk : k < l.length) : due f t (l.take (k + 1)) = due f t (l.take k) ++ (if f l[k] = some t then [l[k]] else []) := by
  unfold due
  rw [List.take_succ_eq_append_getElem hk, List.filter_append]
  congr 1
  by_cases h : f l[k] = some t
  · simp [h]
  · simp [h]
set_option maxHeartbeats 3200000 in
set_option maxRecDepth 100000 in
theorem tick_walk (s0 : Nat) (W : World) (b m n now : Nat) (s : St) (own : Nat → Nat) (h : IsS s0 W b m n now s own) (hn : n ≤ 1000000) (hnow : now ≤ 1000000) (ds : List Nat) (hds : due s.f (now + 1) (s.L ((now + 1) % 32)) = ds) (hasc : ds.Pairwise (· < ·)) (hshort : ds.length < 50) :
    Calls Try.prog 9 #[.pointer (some ⟨b, 0, none⟩)] W fun e w' => ∃ u own', e = .returned u ∧ (Kd.int .u16).Q 29 w' W.heap.size (fun k => W.heap.size ≤ k) u (ints ds) ∧
      (∀ i, i < W.heap.size → own' i = own i) ∧ IsS s0 w' b m n (now + 1) (ds.foldl St.take1 s) own' ∧ Chg (WS b m own) W w' := by
  obtain ⟨t, ht⟩ : ∃ t, now + 1 = t := ⟨_, rfl⟩
  obtain ⟨j, hj⟩ : ∃ j, t % 32 = j := ⟨_, rfl⟩
  have hjn : j < 32 := by omega
  rw [ht, hj] at hds
  rw [ht]
  have ht9 : t ≤ 1000000000 := by omega
  obtain ⟨hI, hT, hlen, hsml⟩ := h
  obtain ⟨⟨X, h1, h2, h3, h4, h5⟩, hm, hl, haw⟩ := hI
  obtain ⟨v, hv, hQ⟩ := h5 j hjn
  obtain ⟨A, cap, hvv⟩ : ∃ A cap, v = .slice A (s.L j).length cap := by
    obtain ⟨_, inner, ho, hr⟩ := hQ
    obtain ⟨A, c, he, _⟩ := q_slice ho
    exact ⟨A, c, by rw [he, ints_len]⟩
  subst hvv
  have hb : W.cell? ⟨b, 0, none⟩ = some (.int .i64 (now : Int)) := (blk_cell h1 0).trans h3
  have hbf : W.frozen? ⟨b, 0, none⟩ = false := blk_frozen h1 0
  have hW1 : W.heap.size = (W.setCell ⟨b, 0, none⟩ (.int .i64 (t : Int))).heap.size := by simp [World.setCell]
  have hblk := blk_set h1 0 (.int .i64 (t : Int))
  have e0 : (W.setCell ⟨b, 0, none⟩ (.int .i64 (t : Int))).cell? ⟨b, 0, none⟩ = some (.int .i64 (t : Int)) := (blk_cell hblk 0).trans (by rw [Array.getElem?_setIfInBounds_self_of_lt (by omega)])
  have e1 : (W.setCell ⟨b, 0, none⟩ (.int .i64 (t : Int))).cell? ⟨b, 1, none⟩ = some (.map (some m)) := (set_off _ _ (by omega) _).trans ((blk_cell h1 1).trans h4)
  have e2 : (W.setCell ⟨b, 0, none⟩ (.int .i64 (t : Int))).cell? ⟨b, 2 + j, none⟩ = some (.slice A (s.L j).length cap) := (set_off _ _ (by omega) _).trans ((blk_cell h1 (2 + j)).trans hv)
  have hS := IsW.ticked ⟨⟨X, h1, h2, h3, h4, h5⟩, hm, hl, haw⟩ t
  have hQ1 : (Kd.int .u16).Q 29 (W.setCell ⟨b, 0, none⟩ (.int .i64 (t : Int))) s0 (fun k => own k = j) (.slice A (s.L j).length cap) (ints (s.L j)) := Kd.Q_step hQ (fun k hk hlt => Below.heap_setCell W _ _ k (fun e => by subst e; omega))
  have hC1 : Chg (WS b m own) W (W.setCell ⟨b, 0, none⟩ (.int .i64 (t : Int))) := (Chg.refl _ W).set_ (fun _ => .inl rfl) _
  have HH := Aside0.mk (And.intro hS (And.intro hQ1 (And.intro hC1 (And.intro hT (And.intro hlen (And.intro hsml (And.intro hds (And.intro hasc (And.intro hshort hW1)))))))))
  have hjl : (j : Int) < 32 := by omega
  have r1 := tmod32 hj
  have r2 := nat_in (j := j) (by omega)
  have r3 : wrap64 ((now : Int) + 1) = (t : Int) := add_in ht ht9
  have hl0 : ((s.L j).length : Int) ≤ 1000000 := by have := hlen j; omega
  clear h1 h2 h3 h4 h5 hm hl haw hv hQ hblk hS hQ1 hC1 hT hlen hsml hds hasc hshort hW1 ht hj hnow
  go_enter Try.func9, Try.ntmps9
  go_upto_region 5 with fail
  go_quiet (fail)
  rw [r3]
  go_wp2
  go_loopw [3, 28] (fun x y wr => ∃ k : Nat, y = .int .i64 k ∧ k ≤ (s.L j).length ∧ Below W.heap.size (W.setCell ⟨b, 0, none⟩ (.int .i64 (t : Int))) wr ∧
    (Kd.int .u16).Q 29 wr W.heap.size (fun i => W.heap.size ≤ i) x (ints (due s.f t ((s.L j).take k))) ∧ (due s.f t ((s.L j).take k) = [] → x = .slice none 0 0)) (fun _ y _ => (s.L j).length - natOf y)
  case atStart => exact ⟨0, rfl, Nat.zero_le _, below_drewN' _ _ |>.mono (by rw [← HH.out.2.2.2.2.2.2.2.2.2]; exact Nat.le_refl _), Kd.Q_nil _ _ _ _ _, fun _ => rfl⟩
  case round =>
    obtain ⟨k, rfl, hk, hB, hq, hnil⟩ := hrel
    have hsz := HH.out.2.2.2.2.2.2.2.2.2
    have hB1 : Below (W.setCell ⟨b, 0, none⟩ (.int .i64 (t : Int))).heap.size (W.setCell ⟨b, 0, none⟩ (.int .i64 (t : Int))) wr := by rw [← hsz]; exact hB
    have g0 := below_cell hB1 e0
    have g1 := below_cell hB1 e1
    have hwsz : W.heap.size ≤ wr.heap.size := by rw [hsz]; exact hB1.size
    by_cases hkn : k < (s.L j).length
    · have hq1 := Kd.Q_below HH.out.2.1 hB1
      obtain ⟨g, o, cap', hA, _⟩ := Kd.Q_form hq1 (by rw [ints_len]; omega)
      obtain ⟨rfl, hxx, rfl⟩ : A = some ⟨g, o, none⟩ ∧ (s.L j).length = (ints (s.L j)).length ∧ cap = cap' := by injection hA with q1 q2 q3; exact ⟨q1, q2, q3⟩
      clear hxx
      obtain ⟨a, ha⟩ : ∃ a, (s.L j)[k] = a := ⟨_, rfl⟩
      have hmem : a ∈ s.L j := by rw [← ha]; exact List.getElem_mem _
      have ha65 := HH.out.2.2.2.2.2.1 j a hmem
      obtain ⟨ta, hfa, _⟩ := (HH.out.2.2.2.1.mem j a).1 hmem
      have hcell : wr.cell? ⟨g, o + k, none⟩ = some (.int .u16 (a : Int)) := by
        have hx := (holds_of_Q hq1 k (by rw [List.size_toArray, ints_len]; exact hkn)).1
        rw [hx, getElem!_pos (ints (s.L j)).toArray k (by rw [List.size_toArray, ints_len]; exact hkn)]
        simp [ints, ha]
      have hmw : MapIs wr m n s.c s.f := HH.out.1.map.keep (hB1.block m HH.out.1.map.lt)
      have hlook := fun q => MapIs.hit1 (W := wr.drewN q) (hmw.keep rfl) ha65 hfa
      have hlook0 := hmw.hit1 ha65 hfa
      have hdt := due_take s.f t (s.L j) k hkn
      rw [ha] at hdt
      have htab := HH.out.2.2.2.1.big a ta hfa
      have hlen1 : (due s.f t ((s.L j).take k)).length ≤ 1000000 := Nat.le_trans (List.length_filter_le _ _) (Nat.le_trans (by rw [List.length_take]; exact Nat.min_le_left _ _) (Nat.le_trans (Nat.le_of_lt (Nat.lt_of_lt_of_le hkn (HH.out.2.2.2.2.1 j))) hn))
      have z1 : ∀ q ob i, ((wr.drewN q).alloc ob).heap.size ≤ i → W.heap.size ≤ i := fun q ob i hi => by
        rw [World.size_alloc] at hi
        exact Nat.le_trans hwsz (Nat.le_trans (Nat.le_succ _) hi)
      have z2 : ∀ q ob, W.heap.size ≤ ((wr.drewN q).alloc ob).heap.size := fun q ob => by
        rw [World.size_alloc]
        exact Nat.le_succ_of_le hwsz
      have z3 : ((ints (due s.f t ((s.L j).take k))).length + 1) * 2 ≤ 140737488355328 := by
        rw [ints_len]
        exact Nat.le_trans (Nat.mul_le_mul_right 2 (Nat.succ_le_succ hlen1)) (by decide)
      have HR := Aside0.mk (And.intro hB (And.intro hq (And.intro hnil (And.intro hdt (And.intro hfa (And.intro hwsz hlen1))))))
      clear hB hq hnil hdt hq1 hmw hB1 hA hmem hfa hwsz hlen1 hsz
      by_cases htt : ta = t
      · subst htt
        go_upto_region 8 with fail
        go_quiet (fail)
        go_wp2_with (at_builtin; go_loud (refine wpList_append_Q (Kd.int .u16) (by rfl) _ _ _ (by rfl) W.heap.size 29 _ 2 Try.underlying31 info29 rfl (by decide) (by decide) _ (ints (due s.f ta ((s.L j).take k))) (a : Int) [.int .u16 (a : Int)] (fun i => W.heap.size ≤ i) (fun _ => False) (by rfl) (Kd.Q_alloc (Kd.Q_drewN HR.out.2.1 _) _) ⟨wr.heap.size, 0, none⟩ 1 (by rfl) (World.news_of_block (cs := #[.int .u16 (a : Int)]) (t := 29) (fr := (0, 0)) (heap_alloc_new (wr.drewN _) _)) (by exact rfl) (fun k hk => hk.elim) (z1 _ _) (z2 _ _) z3 ?_; intro gg off cap2 w7 hq hgrow hat hlt; rw [ints_len] at hq ⊢; have H7 := Aside0.mk (And.intro hq (And.intro hgrow hat)); clear hq hgrow hat hlt))
        obtain ⟨r1', r2', r3', r4', r5', r6', _⟩ := HR.out
        refine ⟨⟨k + 1, by congr 1, hkn, below_app r1' r6' (fun i hi => r2'.1 i hi) H7.out.2.1, ?_, ?_⟩, ?_⟩
        · rw [r4', if_pos r5', ints_snoc]
          exact H7.out.1
        · intro e
          rw [r4', if_pos r5'] at e
          simp at e
        · show (s.L j).length - ((k : Int) + 1).toNat < (s.L j).length - (k : Int).toNat
          clear r1 r2 r3 r4' r5'
          omega
      · have htt2 : ¬ (ta : Int) = (t : Int) := by omega
        go_upto_region 8 with fail
        go_quiet (fail)
        go_wp2_with fail
        obtain ⟨r1', r2', r3', r4', r5', r6', _⟩ := HR.out
        have hne : ¬ s.f a = some t := fun e => htt (Option.some.inj (r5'.symm.trans e))
        rw [if_neg hne, List.append_nil] at r4'
        refine ⟨⟨k + 1, by congr 1, hkn, pw_below_drewN r1' nq, ?_, ?_⟩, ?_⟩
        · rw [r4']
          exact Kd.Q_drewN r2' nq
        · intro e
          rw [r4'] at e
          exact r3' e
        · show (s.L j).length - ((k : Int) + 1).toNat < (s.L j).length - (k : Int).toNat
          clear r1 r2 r3 r4' r5'
          omega
    · have hkl : k = (s.L j).length := by omega
      subst hkl
      rw [List.take_length, HH.out.2.2.2.2.2.2.1] at hq hnil
      obtain ⟨B, c2, rfl⟩ : ∃ B c2, u3 = .slice B ds.length c2 := by
        obtain ⟨_, inner, ho, hr⟩ := hq
        obtain ⟨A, c, he, _⟩ := q_slice ho
        exact ⟨A, c, by rw [he, ints_len]⟩
      have hbW : b < W.heap.size := by rw [hsz]; exact lies_lt e0
      have hmW : m < W.heap.size := by rw [hsz]; exact HH.out.1.map.lt
      have hws : ∀ i, W.heap.size ≤ i → ¬ WS b m (fun i => if i < W.heap.size then own i else 32) i := fun i hi hw => by
        rcases hw with hw | hw | hw
        · omega
        · omega
        · have hx : (if i < W.heap.size then own i else 32) < 32 := hw
          rw [if_neg (by omega)] at hx
          omega
      have hmemd : ∀ a, a ∈ ds → a < 65536 := fun a ha => HH.out.2.2.2.2.2.1 j a (by
        rw [← HH.out.2.2.2.2.2.2.1] at ha
        unfold due at ha
        exact (List.mem_filter.1 ha).1)
      have hl50 := HH.out.2.2.2.2.2.2.2.2.1
      have hl51 : (ds.length : Int) < 50 := by clear r1 r2 r3; omega
      have hown : ∀ i, i < (W.setCell ⟨b, 0, none⟩ (.int .i64 (t : Int))).heap.size → (fun i => if i < W.heap.size then own i else 32) i = own i := fun i hi => if_pos (by rw [hsz]; exact hi)
      have hS2 : IsS s0 wr b m n t s (fun i => if i < W.heap.size then own i else 32) := ⟨(HH.out.1.reown hown).below hB1, HH.out.2.2.2.1, HH.out.2.2.2.2.1, HH.out.2.2.2.2.2.1⟩
      have HR := Aside0.mk (And.intro hB (And.intro hq (And.intro hnil (And.intro hS2 hwsz))))
      clear hB hq hnil hS2 hB1 hown hsz hwsz hl50
      go_upto_region 11 with fail
      go_wp2
      go_loopw [50] (fun y wx => ∃ k : Nat, y = .int .i64 k ∧ k ≤ ds.length ∧ IsS s0 wx b m n t ((ds.take k).foldl St.take1 s) (fun i => if i < W.heap.size then own i else 32) ∧
        Chg (WS b m (fun i => if i < W.heap.size then own i else 32)) wr wx ∧ (Kd.int .u16).Q 29 wx W.heap.size (fun i => W.heap.size ≤ i) (.slice B ds.length c2) (ints ds)) (fun y _ => ds.length - natOf y)
      case atStart => exact ⟨0, rfl, Nat.zero_le _, HR.out.2.2.2.1, Chg.refl _ _, HR.out.2.1⟩
      case round =>
        obtain ⟨k2, rfl, hk2, hS, hCh, hq2⟩ := hrel
        by_cases hkn2 : k2 < ds.length
        · obtain ⟨g2, o2, cap', hA, _⟩ := Kd.Q_form hq2 (by rw [ints_len]; omega)
          obtain ⟨rfl, hxx, rfl⟩ : B = some ⟨g2, o2, none⟩ ∧ ds.length = (ints ds).length ∧ c2 = cap' := by injection hA with q1 q2 q3; exact ⟨q1, q2, q3⟩
          clear hxx hA
          obtain ⟨a, ha⟩ : ∃ a, ds[k2] = a := ⟨_, rfl⟩
          have ha65 := hmemd a (by rw [← ha]; exact List.getElem_mem _)
          have hcell : wr.cell? ⟨g2, o2 + k2, none⟩ = some (.int .u16 (a : Int)) := by
            have hx := (holds_of_Q hq2 k2 (by rw [List.size_toArray, ints_len]; exact hkn2)).1
            rw [hx, getElem!_pos (ints ds).toArray k2 (by rw [List.size_toArray, ints_len]; exact hkn2)]
            simp [ints, ha]
          have htk := takesS s0 wr b m n t a ((ds.take k2).foldl St.take1 s) _ hS hn ha65
          have hft : (ds.take (k2 + 1)).foldl St.take1 s = ((ds.take k2).foldl St.take1 s).take1 a := by
            rw [List.take_succ_eq_append_getElem hkn2, List.foldl_append, ha]
            rfl
          have H4 := Aside0.mk (And.intro hCh (And.intro hq2 (And.intro hft hws)))
          clear hS hCh hq2 hft hws hmemd
          go_wp2_with (go_at_call 17; refine htk.mono ?_; rintro e w5 ⟨rfl, p1, p2⟩; have H5 := Aside0.mk (And.intro p1 p2); clear p1 p2)
          obtain ⟨r1', r2', r3', r4'⟩ := H4.out
          refine ⟨⟨k2 + 1, by congr 1, hkn2, by rw [r3']; exact H5.out.1, r1'.trans H5.out.2 (fun _ _ hh => hh), Kd.Q_step r2' (fun i hi hlt => H5.out.2.block i hlt (r4' i hi))⟩, ?_⟩
          show ds.length - ((k2 : Int) + 1).toNat < ds.length - (k2 : Int).toNat
          clear r1 r2 r3 r3'
          omega
        · have hkl2 : k2 = ds.length := by omega
          subst hkl2
          rw [List.take_length] at hS
          have hso := sort_row (.slice B ds.length c2) ds wr hq2 HR.out.2.2.1 HH.out.2.2.2.2.2.2.2.1 HH.out.2.2.2.2.2.2.2.2.1
          have H4 := Aside0.mk (And.intro hCh (And.intro hq2 hS))
          clear hS hCh hq2 hws hmemd
          go_wp2_with (go_at_call 18; refine hso.mono ?_; rintro e w5 ⟨rfl, p1⟩; have H5 := Aside0.mk p1; clear p1)
          refine bodyPost_ret (results_tmp rfl _ _ _) rfl ?_
          have hsz2 := HH.out.2.2.2.2.2.2.2.2.2
          have hB1 := HR.out.1
          rw [hsz2] at hB1
          have hc1 := HH.out.2.2.1.trans (Chg.of_below hB1 (fun _ => False)) (fun _ _ hf => hf.elim)
          have hc2 := hc1.trans H4.out.1 (fun i hi hw => by
            rcases hw with hw | hw | hw
            · exact .inl hw
            · exact .inr (.inl hw)
            · have hx : (if i < W.heap.size then own i else 32) < 32 := hw
              rw [if_pos hi] at hx
              exact .inr (.inr hx))
          exact ⟨_, fun i => if i < W.heap.size then own i else 32, rfl, Kd.Q_below H4.out.2.1 H5.out, fun i hi => if_pos hi, ⟨H4.out.2.2.1.below H5.out, H4.out.2.2.2⟩, hc2.trans (Chg.of_below H5.out (fun _ => False)) (fun _ _ hf => hf.elim)⟩
end Go.Proofs.Ytjiligngjlejmaa.Vit
