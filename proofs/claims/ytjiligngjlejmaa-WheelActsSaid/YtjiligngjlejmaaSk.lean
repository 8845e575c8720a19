/- A wheel's Tick whatever is due. Each theorem says its own conditions. -/
import Derived.Test.YtjiligngjlejmaaSj
namespace Go.Proofs.Ytjiligngjlejmaa.Vit
open Go.Shelf Go.RowKit Go.Proofs.YtjiligngjlejmaaW.PrintWords Go.Proofs.YtjiligngjlejmaaW.PrintLast Go.Proofs.YtjiligngjlejmaaW.PrintMore Go.Proofs.Ytjiligngjlejmaa.Mem Go.Proofs.Ytjiligngjlejmaa.Srt
attribute [local go_sem] max2_int min2_int max_two min_two max_three min_three max_four min_four   -- for this text's walks alone
set_option linter.unusedVariables false
set_option linter.unusedSimpArgs false

theorem IsW.keepS {S : Nat → Prop} {s0 : Nat} {W W' : World} {b m n c now : Nat} {f : Nat → Option Nat} {L : Nat → List Nat} {own : Nat → Nat} (h : IsW s0 W b m n c now f L own) (hC : Chg S W W') (hb : ¬ S b) (hm : ¬ S m) (ho : ∀ k, S k → 32 ≤ own k) : IsW s0 W' b m n c now f L own := by
  obtain ⟨⟨X, h1, h2, h3, h4, h5⟩, hM, hl, haw⟩ := h
  exact ⟨⟨X, hC.keeps h1 hb, h2, h3, h4, fun j hj => (match h5 j hj with | ⟨v, hv, hq⟩ => ⟨v, hv, Kd.Q_step hq (fun k hk hlt => hC.block k hlt (fun hs => by have := ho k hs; omega))⟩)⟩, hM.keep (hC.block m hM.lt hm), hl, haw⟩
theorem sort_row2 {base : Nat} {ok : Nat → Prop} (v : Value) (ds : List Nat) (w : World) (hq : (Kd.int .u16).Q 29 w base ok v (ints ds)) (hnil : ds = [] → v = .slice none 0 0) (hs : ds.length < 50) :
    Calls Try.prog 18 #[v] w fun e w' => e = .returned (.tuple #[]) ∧ (Kd.int .u16).Q 29 w' base ok v (ints (srt ds)) ∧ Chg (fun k => base ≤ k) w w' := by
  by_cases hd : ds = []
  · rw [hnil hd]
    refine (sort_nil w).mono ?_
    rintro e w' ⟨he, rfl⟩
    refine ⟨he, ?_, Chg.refl _ _⟩
    subst hd
    rw [hnil rfl] at hq
    rw [show srt [] = [] by simp [srt]]
    exact hq
  · obtain ⟨g, o, cap, rfl, _⟩ := Kd.Q_form hq (by rw [ints_len]; exact List.length_pos_iff.2 hd)
    rw [ints_len] at hq ⊢
    have hg := (Kd.Q_bound hq).1 g rfl
    refine (Srt.sort_any ds w hq hs hg.2.2.1).mono ?_
    rintro e w' ⟨he, h1, h2⟩
    exact ⟨he, h1, h2.mono (fun k hk => by subst hk; exact hg.2.1)⟩
set_option maxHeartbeats 3200000 in
set_option maxRecDepth 100000 in
theorem tick_any (s0 : Nat) (W : World) (b m n now : Nat) (s : St) (own : Nat → Nat) (h : IsS s0 W b m n now s own) (hn : n ≤ 1000000) (hnow : now ≤ 1000000) (ds : List Nat) (hds : due s.f (now + 1) (s.L ((now + 1) % 32)) = ds) (hshort : ds.length < 50) :
    Calls Try.prog 9 #[.pointer (some ⟨b, 0, none⟩)] W fun e w' => ∃ u own', e = .returned u ∧ (Kd.int .u16).Q 29 w' W.heap.size (fun k => W.heap.size ≤ k) u (ints (srt ds)) ∧
      (∀ i, i < W.heap.size → own' i = own i) ∧ IsS s0 w' b m n (now + 1) (ds.foldl St.take1 s) own' ∧ Chg (WS b m own) W w' := by
  obtain ⟨t, ht⟩ : ∃ t, now + 1 = t := ⟨_, rfl⟩
  obtain ⟨j, hj⟩ : ∃ j, t % 32 = j := ⟨_, rfl⟩
  have hjn : j < 32 := by omega
  rw [ht, hj] at hds
  rw [ht]
  have ht9 : t ≤ 1000000000 := by omega
  obtain ⟨hI, hT, hlen, hsml⟩ := h
  obtain ⟨⟨X, h1, h2, h3, h4, h5⟩, hm, hl, haw⟩ := hI
  obtain ⟨v, hv, hQ⟩ := h5 j hjn
  obtain ⟨A, cap, hvv⟩ : ∃ A cap, v = .slice A (s.L j).length cap := by
    obtain ⟨_, inner, ho, hr⟩ := hQ
    obtain ⟨A, c, he, _⟩ := q_slice ho
    exact ⟨A, c, by rw [he, ints_len]⟩
  subst hvv
  have hb : W.cell? ⟨b, 0, none⟩ = some (.int .i64 (now : Int)) := (blk_cell h1 0).trans h3
  have hbf : W.frozen? ⟨b, 0, none⟩ = false := blk_frozen h1 0
  have hW1 : W.heap.size = (W.setCell ⟨b, 0, none⟩ (.int .i64 (t : Int))).heap.size := by simp [World.setCell]
  have hblk := blk_set h1 0 (.int .i64 (t : Int))
  have e0 : (W.setCell ⟨b, 0, none⟩ (.int .i64 (t : Int))).cell? ⟨b, 0, none⟩ = some (.int .i64 (t : Int)) := (blk_cell hblk 0).trans (by rw [Array.getElem?_setIfInBounds_self_of_lt (by omega)])
  have e1 : (W.setCell ⟨b, 0, none⟩ (.int .i64 (t : Int))).cell? ⟨b, 1, none⟩ = some (.map (some m)) := (set_off _ _ (by omega) _).trans ((blk_cell h1 1).trans h4)
  have e2 : (W.setCell ⟨b, 0, none⟩ (.int .i64 (t : Int))).cell? ⟨b, 2 + j, none⟩ = some (.slice A (s.L j).length cap) := (set_off _ _ (by omega) _).trans ((blk_cell h1 (2 + j)).trans hv)
  have hS := IsW.ticked ⟨⟨X, h1, h2, h3, h4, h5⟩, hm, hl, haw⟩ t
  have hQ1 : (Kd.int .u16).Q 29 (W.setCell ⟨b, 0, none⟩ (.int .i64 (t : Int))) s0 (fun k => own k = j) (.slice A (s.L j).length cap) (ints (s.L j)) := Kd.Q_step hQ (fun k hk hlt => Below.heap_setCell W _ _ k (fun e => by subst e; omega))
  have hC1 : Chg (WS b m own) W (W.setCell ⟨b, 0, none⟩ (.int .i64 (t : Int))) := (Chg.refl _ W).set_ (fun _ => .inl rfl) _
  have HH := Aside0.mk (And.intro hS (And.intro hQ1 (And.intro hC1 (And.intro hT (And.intro hlen (And.intro hsml (And.intro hds (And.intro hshort (And.intro hshort hW1)))))))))
  have hjl : (j : Int) < 32 := by omega
  have r1 := tmod32 hj
  have r2 := nat_in (j := j) (by omega)
  have r3 : wrap64 ((now : Int) + 1) = (t : Int) := add_in ht ht9
  have hl0 : ((s.L j).length : Int) ≤ 1000000 := by have := hlen j; omega
  clear h1 h2 h3 h4 h5 hm hl haw hv hQ hblk hS hQ1 hC1 hT hlen hsml hds hshort hW1 ht hj hnow
  go_enter Try.func9, Try.ntmps9
  go_upto_region 5 with fail
  go_quiet (fail)
  rw [r3]
  go_wp2
  go_loopw [3, 28] (fun x y wr => ∃ k : Nat, y = .int .i64 k ∧ k ≤ (s.L j).length ∧ Below W.heap.size (W.setCell ⟨b, 0, none⟩ (.int .i64 (t : Int))) wr ∧
    (Kd.int .u16).Q 29 wr W.heap.size (fun i => W.heap.size ≤ i) x (ints (due s.f t ((s.L j).take k))) ∧ (due s.f t ((s.L j).take k) = [] → x = .slice none 0 0)) (fun _ y _ => (s.L j).length - natOf y)
  case atStart => exact ⟨0, rfl, Nat.zero_le _, below_drewN' _ _ |>.mono (by rw [← HH.out.2.2.2.2.2.2.2.2.2]; exact Nat.le_refl _), Kd.Q_nil _ _ _ _ _, fun _ => rfl⟩
  case round =>
    obtain ⟨k, rfl, hk, hB, hq, hnil⟩ := hrel
    have hsz := HH.out.2.2.2.2.2.2.2.2.2
    have hB1 : Below (W.setCell ⟨b, 0, none⟩ (.int .i64 (t : Int))).heap.size (W.setCell ⟨b, 0, none⟩ (.int .i64 (t : Int))) wr := by rw [← hsz]; exact hB
    have g0 := below_cell hB1 e0
    have g1 := below_cell hB1 e1
    have hwsz : W.heap.size ≤ wr.heap.size := by rw [hsz]; exact hB1.size
    by_cases hkn : k < (s.L j).length
    · have hq1 := Kd.Q_below HH.out.2.1 hB1
      obtain ⟨g, o, cap', hA, _⟩ := Kd.Q_form hq1 (by rw [ints_len]; omega)
      obtain ⟨rfl, hxx, rfl⟩ : A = some ⟨g, o, none⟩ ∧ (s.L j).length = (ints (s.L j)).length ∧ cap = cap' := by injection hA with q1 q2 q3; exact ⟨q1, q2, q3⟩
      clear hxx
      obtain ⟨a, ha⟩ : ∃ a, (s.L j)[k] = a := ⟨_, rfl⟩
      have hmem : a ∈ s.L j := by rw [← ha]; exact List.getElem_mem _
      have ha65 := HH.out.2.2.2.2.2.1 j a hmem
      obtain ⟨ta, hfa, _⟩ := (HH.out.2.2.2.1.mem j a).1 hmem
      have hcell : wr.cell? ⟨g, o + k, none⟩ = some (.int .u16 (a : Int)) := by
        have hx := (holds_of_Q hq1 k (by rw [List.size_toArray, ints_len]; exact hkn)).1
        rw [hx, getElem!_pos (ints (s.L j)).toArray k (by rw [List.size_toArray, ints_len]; exact hkn)]
        simp [ints, ha]
      have hmw : MapIs wr m n s.c s.f := HH.out.1.map.keep (hB1.block m HH.out.1.map.lt)
      have hlook := fun q => MapIs.hit1 (W := wr.drewN q) (hmw.keep rfl) ha65 hfa
      have hlook0 := hmw.hit1 ha65 hfa
      have hdt := due_take s.f t (s.L j) k hkn
      rw [ha] at hdt
      have htab := HH.out.2.2.2.1.big a ta hfa
      have hlen1 : (due s.f t ((s.L j).take k)).length ≤ 1000000 := Nat.le_trans (List.length_filter_le _ _) (Nat.le_trans (by rw [List.length_take]; exact Nat.min_le_left _ _) (Nat.le_trans (Nat.le_of_lt (Nat.lt_of_lt_of_le hkn (HH.out.2.2.2.2.1 j))) hn))
      have z1 : ∀ q ob i, ((wr.drewN q).alloc ob).heap.size ≤ i → W.heap.size ≤ i := fun q ob i hi => by
        rw [World.size_alloc] at hi
        exact Nat.le_trans hwsz (Nat.le_trans (Nat.le_succ _) hi)
      have z2 : ∀ q ob, W.heap.size ≤ ((wr.drewN q).alloc ob).heap.size := fun q ob => by
        rw [World.size_alloc]
        exact Nat.le_succ_of_le hwsz
      have z3 : ((ints (due s.f t ((s.L j).take k))).length + 1) * 2 ≤ 140737488355328 := by
        rw [ints_len]
        exact Nat.le_trans (Nat.mul_le_mul_right 2 (Nat.succ_le_succ hlen1)) (by decide)
      have HR := Aside0.mk (And.intro hB (And.intro hq (And.intro hnil (And.intro hdt (And.intro hfa (And.intro hwsz hlen1))))))
      clear hB hq hnil hdt hq1 hmw hB1 hA hmem hfa hwsz hlen1 hsz
      by_cases htt : ta = t
      · subst htt
        go_upto_region 8 with fail
        go_quiet (fail)
        go_wp2_with (at_builtin; go_loud (refine wpList_append_Q (Kd.int .u16) (by rfl) _ _ _ (by rfl) W.heap.size 29 _ 2 Try.underlying31 info29 rfl (by decide) (by decide) _ (ints (due s.f ta ((s.L j).take k))) (a : Int) [.int .u16 (a : Int)] (fun i => W.heap.size ≤ i) (fun _ => False) (by rfl) (Kd.Q_alloc (Kd.Q_drewN HR.out.2.1 _) _) ⟨wr.heap.size, 0, none⟩ 1 (by rfl) (World.news_of_block (cs := #[.int .u16 (a : Int)]) (t := 29) (fr := (0, 0)) (heap_alloc_new (wr.drewN _) _)) (by exact rfl) (fun k hk => hk.elim) (z1 _ _) (z2 _ _) z3 ?_; intro gg off cap2 w7 hq hgrow hat hlt; rw [ints_len] at hq ⊢; have H7 := Aside0.mk (And.intro hq (And.intro hgrow hat)); clear hq hgrow hat hlt))
        obtain ⟨r1', r2', r3', r4', r5', r6', _⟩ := HR.out
        refine ⟨⟨k + 1, by congr 1, hkn, below_app r1' r6' (fun i hi => r2'.1 i hi) H7.out.2.1, ?_, ?_⟩, ?_⟩
        · rw [r4', if_pos r5', ints_snoc]
          exact H7.out.1
        · intro e
          rw [r4', if_pos r5'] at e
          simp at e
        · show (s.L j).length - ((k : Int) + 1).toNat < (s.L j).length - (k : Int).toNat
          clear r1 r2 r3 r4' r5'
          omega
      · have htt2 : ¬ (ta : Int) = (t : Int) := by omega
        go_upto_region 8 with fail
        go_quiet (fail)
        go_wp2_with fail
        obtain ⟨r1', r2', r3', r4', r5', r6', _⟩ := HR.out
        have hne : ¬ s.f a = some t := fun e => htt (Option.some.inj (r5'.symm.trans e))
        rw [if_neg hne, List.append_nil] at r4'
        refine ⟨⟨k + 1, by congr 1, hkn, pw_below_drewN r1' nq, ?_, ?_⟩, ?_⟩
        · rw [r4']
          exact Kd.Q_drewN r2' nq
        · intro e
          rw [r4'] at e
          exact r3' e
        · show (s.L j).length - ((k : Int) + 1).toNat < (s.L j).length - (k : Int).toNat
          clear r1 r2 r3 r4' r5'
          omega
    · have hkl : k = (s.L j).length := by omega
      subst hkl
      rw [List.take_length, HH.out.2.2.2.2.2.2.1] at hq hnil
      obtain ⟨B, c2, rfl⟩ : ∃ B c2, u3 = .slice B ds.length c2 := by
        obtain ⟨_, inner, ho, hr⟩ := hq
        obtain ⟨A, c, he, _⟩ := q_slice ho
        exact ⟨A, c, by rw [he, ints_len]⟩
      have hbW : b < W.heap.size := by rw [hsz]; exact lies_lt e0
      have hmW : m < W.heap.size := by rw [hsz]; exact HH.out.1.map.lt
      have hws : ∀ i, W.heap.size ≤ i → ¬ WS b m (fun i => if i < W.heap.size then own i else 32) i := fun i hi hw => by
        rcases hw with hw | hw | hw
        · omega
        · omega
        · have hx : (if i < W.heap.size then own i else 32) < 32 := hw
          rw [if_neg (by omega)] at hx
          omega
      have hmemd : ∀ a, a ∈ ds → a < 65536 := fun a ha => HH.out.2.2.2.2.2.1 j a (by
        rw [← HH.out.2.2.2.2.2.2.1] at ha
        unfold due at ha
        exact (List.mem_filter.1 ha).1)
      have hl50 := HH.out.2.2.2.2.2.2.2.2.1
      have hl51 : (ds.length : Int) < 50 := by clear r1 r2 r3; omega
      have hown : ∀ i, i < (W.setCell ⟨b, 0, none⟩ (.int .i64 (t : Int))).heap.size → (fun i => if i < W.heap.size then own i else 32) i = own i := fun i hi => if_pos (by rw [hsz]; exact hi)
      have hS2 : IsS s0 wr b m n t s (fun i => if i < W.heap.size then own i else 32) := ⟨(HH.out.1.reown hown).below hB1, HH.out.2.2.2.1, HH.out.2.2.2.2.1, HH.out.2.2.2.2.2.1⟩
      have HR := Aside0.mk (And.intro hB (And.intro hq (And.intro hnil (And.intro hS2 hwsz))))
      clear hB hq hnil hS2 hB1 hown hsz hwsz hl50
      go_upto_region 11 with fail
      go_wp2
      go_loopw [50] (fun y wx => ∃ k : Nat, y = .int .i64 k ∧ k ≤ ds.length ∧ IsS s0 wx b m n t ((ds.take k).foldl St.take1 s) (fun i => if i < W.heap.size then own i else 32) ∧
        Chg (WS b m (fun i => if i < W.heap.size then own i else 32)) wr wx ∧ (Kd.int .u16).Q 29 wx W.heap.size (fun i => W.heap.size ≤ i) (.slice B ds.length c2) (ints ds)) (fun y _ => ds.length - natOf y)
      case atStart => exact ⟨0, rfl, Nat.zero_le _, HR.out.2.2.2.1, Chg.refl _ _, HR.out.2.1⟩
      case round =>
        obtain ⟨k2, rfl, hk2, hS, hCh, hq2⟩ := hrel
        by_cases hkn2 : k2 < ds.length
        · obtain ⟨g2, o2, cap', hA, _⟩ := Kd.Q_form hq2 (by rw [ints_len]; omega)
          obtain ⟨rfl, hxx, rfl⟩ : B = some ⟨g2, o2, none⟩ ∧ ds.length = (ints ds).length ∧ c2 = cap' := by injection hA with q1 q2 q3; exact ⟨q1, q2, q3⟩
          clear hxx hA
          obtain ⟨a, ha⟩ : ∃ a, ds[k2] = a := ⟨_, rfl⟩
          have ha65 := hmemd a (by rw [← ha]; exact List.getElem_mem _)
          have hcell : wr.cell? ⟨g2, o2 + k2, none⟩ = some (.int .u16 (a : Int)) := by
            have hx := (holds_of_Q hq2 k2 (by rw [List.size_toArray, ints_len]; exact hkn2)).1
            rw [hx, getElem!_pos (ints ds).toArray k2 (by rw [List.size_toArray, ints_len]; exact hkn2)]
            simp [ints, ha]
          have htk := takesS s0 wr b m n t a ((ds.take k2).foldl St.take1 s) _ hS hn ha65
          have hft : (ds.take (k2 + 1)).foldl St.take1 s = ((ds.take k2).foldl St.take1 s).take1 a := by
            rw [List.take_succ_eq_append_getElem hkn2, List.foldl_append, ha]
            rfl
          have H4 := Aside0.mk (And.intro hCh (And.intro hq2 (And.intro hft hws)))
          clear hS hCh hq2 hft hws hmemd
          go_wp2_with (go_at_call 17; refine htk.mono ?_; rintro e w5 ⟨rfl, p1, p2⟩; have H5 := Aside0.mk (And.intro p1 p2); clear p1 p2)
          obtain ⟨r1', r2', r3', r4'⟩ := H4.out
          refine ⟨⟨k2 + 1, by congr 1, hkn2, by rw [r3']; exact H5.out.1, r1'.trans H5.out.2 (fun _ _ hh => hh), Kd.Q_step r2' (fun i hi hlt => H5.out.2.block i hlt (r4' i hi))⟩, ?_⟩
          show ds.length - ((k2 : Int) + 1).toNat < ds.length - (k2 : Int).toNat
          clear r1 r2 r3 r3'
          omega
        · have hkl2 : k2 = ds.length := by omega
          subst hkl2
          rw [List.take_length] at hS
          have hso := sort_row2 (.slice B ds.length c2) ds wr hq2 HR.out.2.2.1 HH.out.2.2.2.2.2.2.2.2.1
          have H4 := Aside0.mk (And.intro hCh (And.intro hq2 hS))
          clear hS hCh hq2 hws hmemd
          go_wp2_with (go_at_call 18; refine hso.mono ?_; rintro e w5 ⟨rfl, p1⟩; have H5 := Aside0.mk p1; clear p1)
          refine bodyPost_ret (results_tmp rfl _ _ _) rfl ?_
          have hsz2 := HH.out.2.2.2.2.2.2.2.2.2
          have hB1 := HR.out.1
          rw [hsz2] at hB1
          have hc1 := HH.out.2.2.1.trans (Chg.of_below hB1 (fun _ => False)) (fun _ _ hf => hf.elim)
          have hc2 := hc1.trans H4.out.1 (fun i hi hw => by
            rcases hw with hw | hw | hw
            · exact .inl hw
            · exact .inr (.inl hw)
            · have hx : (if i < W.heap.size then own i else 32) < 32 := hw
              rw [if_pos hi] at hx
              exact .inr (.inr hx))
          exact ⟨_, fun i => if i < W.heap.size then own i else 32, rfl, H5.out.1, fun i hi => if_pos hi, ⟨H4.out.2.2.1.keepS H5.out.2 (by omega) (by omega) (fun k hk => by rw [if_neg (by omega)]; exact Nat.le_refl _), H4.out.2.2.2⟩, hc2.trans H5.out.2 (fun i hi hf => absurd hi (Nat.not_lt.2 hf))⟩
end Go.Proofs.Ytjiligngjlejmaa.Vit
