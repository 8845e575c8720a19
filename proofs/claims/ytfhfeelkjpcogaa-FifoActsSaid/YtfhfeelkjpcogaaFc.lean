/- Contracts of the queue's methods, part c: each theorem says its own conditions. -/
import Derived.Test.YtfhfeelkjpcogaaFb
import Derived.Deep.RegionLaw
import Derived.BigRegion
namespace Go.Proofs.Ytfhfeelkjpcogaa.Fifo
open Go.RowKit Go.Proofs.YtfhfeelkjpcogaaW.PrintWords Go.Proofs.YtfhfeelkjpcogaaW.PrintLast Go.Proofs.Ytfhfeelkjpcogaa.Mem
set_option linter.unusedVariables false
set_option linter.unusedSimpArgs false

theorem deliver_none {ok : Nat → Prop} {w : World} {base g : Nat} {most d : Int} {W : List (List Int)} (h : IsQ ok w base g most [] W d) :
    Calls Try.prog 14 #[.pointer (some ⟨g, 0, none⟩)] w fun e w' => e = .returned (.int .i64 9) ∧ w = w' := by
  obtain ⟨v1, v2, hb, hg, hok, h1, h2, hne⟩ := h
  obtain ⟨A2, c2, rfl, hl2⟩ := Kd.Q_slice h1
  have c_1 := blk_cell hb 1
  simp at c_1
  clear hb h1 h2 hne hl2
  go_enter Try.func14, Try.ntmps14
  go_wp2
  go_ret
  exact ⟨rfl, rfl⟩

set_option maxHeartbeats 1600000 in
set_option maxRecDepth 100000 in
theorem deliver_some {ok : Nat → Prop} {w : World} {base g : Nat} {most d : Int} {U W : List (List Int)} {x : List Int} (h : IsQ ok w base g most (x :: U) W d)
    (hbase : base ≤ w.heap.size) (hd0 : 0 ≤ d) (hd1 : d ≤ 1000000) (hW : W.length ≤ 1000000) :
    Calls Try.prog 14 #[.pointer (some ⟨g, 0, none⟩)] w fun e w' => e = .returned (.int .i64 0) ∧ IsQ (fun k => ok k ∨ w.heap.size ≤ k) w' base g most U (W ++ [x]) (d + 1) ∧
      Chg ok w w' := by
  obtain ⟨v1, v2, hb, hg, hok, h1, h2, hne⟩ := h
  obtain ⟨b, o, cap, rfl, hbb, hbl, cells, hcells⟩ := Kd.Q_form h1 (by simp)
  obtain ⟨c, hcl, hM, hcell, hfr⟩ := Kd.Q_elem h1 [] 0 (by omega) (by simp)
  obtain ⟨v, rfl, hR⟩ := hM
  have c_e : w.cell? ⟨b, o, none⟩ = some v := by simpa using hcell 0 v rfl
  obtain ⟨Av, cv, rfl⟩ := Kd.R_slice hR
  obtain ⟨A2, c2, rfl, hl2⟩ := Kd.Q_slice h2
  have hdrop := Kd.Q_drop h1 (k := 1) (by simp)
  obtain ⟨i0, hi, hz0, hz1, hz2⟩ := info_parts Try.info34
  have hcut := cut_from 28 34 .i64 Try.underlying28 hi 1 hz1 (some ⟨b, o, none⟩) (x :: U).length cap 1 (by omega) (by simp; omega)
  have c_1 := blk_cell hb 1
  have c_2 := blk_cell hb 2
  have c_3 := blk_cell hb 3
  simp at c_1 c_2 c_3
  have hVb : ∀ V, NeRow (.slice (some ⟨b, o, none⟩) (x :: U).length cap) V → NeRow (.slice (if cap = 1 then some ⟨b, o, none⟩ else (some (⟨b, o, none⟩ : Addr)).map (·.add (1 * D.sz))) ((x :: U).length - 1) (cap - 1)) V := by
    intro V hV k hk
    refine hV k ?_
    rw [← hk]
    split <;> rfl
  obtain ⟨A', hA'⟩ : ∃ A', (if cap = 1 then some ⟨b, o, none⟩ else (some (⟨b, o, none⟩ : Addr)).map (·.add (1 * D.sz))) = A' := ⟨_, rfl⟩
  have hcut' : ∀ W1 : World, (Instr.slice 28 (.slice (some ⟨b, o, none⟩) (U.length + 1) cap) (some (.int .i64 1)) none none).run Try.prog W1 = .ok (.slice A' U.length (cap - 1)) W1 := by
    intro W1
    have := hcut W1
    rw [show (1 : Int).toNat = 1 from rfl] at this
    rw [← hA']
    exact this
  rw [hA'] at hdrop hVb
  have gl := blk_lt hb
  have g2 : some g ≠ (Value.slice A2 W.length c2).ownBlock := Kd.Q_ne h2 hb (by decide)
  have H2 := Aside0.mk (show D.Q 34 (w.alloc (.cells #[.slice Av x.length cv] 34)).drew base (fun k => ok k ∨ w.heap.size ≤ k) (.slice A2 W.length c2) W from
    Kd.Q_drew (Kd.Q_alloc (Kd.Q_mono h2 (fun k hk => Or.inl hk)) _))
  have H7 := Aside0.mk (show D.M (w.alloc (.cells #[.slice Av x.length cv] 34)).drew base (fun k => (ok k ∨ w.heap.size ≤ k) ∧ some k ≠ (Value.slice A2 W.length c2).ownBlock) x [.slice Av x.length cv] by
    refine Kd.M_below ?_ (below_drew (below_alloc (Below.refl _ _) _))
    refine ⟨_, rfl, Kd.R_mono (Kd.R_bound hR) (fun k hk => ⟨Or.inl hk.1.1, ?_⟩)⟩
    obtain ⟨_, _, _, q, hq, cells', hc'⟩ := hk
    have : q = 5 := by simpa [Kd.int, Kd.scalar] using hq
    subst this
    exact Kd.Q_ne h2 hc' (by decide))
  have HH := Aside0.mk hb
  have H3 := Aside0.mk (Q_apart_row hdrop (hVb _ hne) (Q_typed h2) (by decide))
  have H3l := Aside0.mk (Kd.Q_lt hdrop)
  have H4 := Aside0.mk hne
  have H5 := Aside0.mk (hVb _ hne)
  have H1 := Aside0.mk h1
  have H8 := Aside0.mk (Kd.Q_lt h2)
  have H9 := Aside0.mk g2
  have H10 := Aside0.mk (show some b ≠ (Value.slice A2 W.length c2).ownBlock from fun he => hne b rfl he.symm)
  have HX := Aside0.mk (show ∀ k, (Value.slice A2 W.length c2).ownBlock = some k → ok k from h2.1)
  have HY := Aside0.mk hok
  clear hb h1 h2 hne hcell hfr hdrop hVb hR hcells hcl hcut hA' hl2 g2 hok
  go_enter Try.func14, Try.ntmps14
  go_wp2
  go_region_law ((refine step_append_Q D (by rfl) _ _ _ (by rfl) base 34 _ 24 Try.underlying28 Try.info34 rfl (by decide) (by decide) (.slice A2 W.length c2) W x [.slice Av x.length cv] (fun k => ok k ∨ w.heap.size ≤ k) _ (by rfl) H2.out ⟨w.heap.size, 0, none⟩ 1 (by rfl) (World.news_of_block (cs := #[.slice Av x.length cv]) (t := 34) (fr := (0, 0)) (heap_alloc_new w _)) H7.out (fun k hk => hk) (fun k hk => Or.inr (by simp at hk; omega)) (by simp; omega) (by omega) ?_; intro gg off cap2 w1 hq hgrow hat hlt; have hb1 := (hgrow.block g (by simp; omega) H9.out).trans ((Below.heap_alloc w _ g gl).trans HH.out); have d_1 := blk_cell hb1 1; have d_2 := blk_cell hb1 2; have d_3 := blk_cell hb1 3; have d_e := (World.cell?_of_block (a := ⟨b, o, none⟩) ((hgrow.block b (by simp; omega) H10.out).trans (Below.heap_alloc w _ b hbl))).trans c_e; have e_1 := blk_frozen hb1 1; have e_2 := blk_frozen hb1 2; have e_3 := blk_frozen hb1 3; simp at d_1 d_2 d_3; have HB1 := Aside0.mk hb1; have HQ := Aside0.mk hq; have HG := Aside0.mk hgrow; have HAT := Aside0.mk hat; clear hb1 hq hgrow hat))
  all_goals go_wp2
  all_goals go_ret
  all_goals
    have hb1 := HB1.out
    have hb2 := blk_set hb1 2 (.slice (some ⟨gg, off, none⟩) (W.length + 1) cap2)
    have hb3 := blk_set hb2 1 (.slice A' U.length (cap - 1))
    have hg1 := HG.out
    have hV : D.Q 34 w1 base (fun k => ok k ∨ w.heap.size ≤ k) (.slice A' U.length (cap - 1)) U :=
      Kd.Q_mono (Kd.Q_grown (Kd.Q_drew (Kd.Q_alloc H3.out _)) hg1 (fun k hk => hk.2)) (fun k hk => Or.inl hk.1)
    refine ⟨rfl, ⟨_, _, by simpa using blk_set hb3 3 (.int .i64 (d + 1)), hg, Or.inl HY.out, Kd.Q_set (Kd.Q_set (Kd.Q_set hV hb1 D_types 2 _) hb2 D_types 1 _) hb3 D_types 3 _,
      Kd.Q_set (Kd.Q_set (Kd.Q_set HQ.out hb1 D_types 2 _) hb2 D_types 1 _) hb3 D_types 3 _, ?_⟩, ?_⟩
    · intro k hk he
      have hgk : gg = k := by simpa [Value.ownBlock] using he
      subst hgk
      rcases HAT.out with h | h
      · exact H5.out gg hk h
      · have := H3l.out gg hk
        simp at h
        omega
    · refine Chg.set_ (p := ⟨g, 3, none⟩) (Chg.set_ (p := ⟨g, 1, none⟩) (Chg.set_ (p := ⟨g, 2, none⟩) ?_ (fun _ => HY.out) _) (fun _ => HY.out) _) (fun _ => HY.out) _
      exact ((Chg.refl ok w).alloc _).drew.trans (Chg.of_grown hg1) (fun i _ hi => HX.out i hi.symm)

end Go.Proofs.Ytfhfeelkjpcogaa.Fifo
