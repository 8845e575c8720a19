/- Contracts of the queue's methods, part e: each theorem says its own conditions. -/
import Derived.Test.YtfhfeelkjpcogaaFd
namespace Go.Proofs.Ytfhfeelkjpcogaa.Fifo
open Go.RowKit Go.Proofs.YtfhfeelkjpcogaaW.PrintWords Go.Proofs.YtfhfeelkjpcogaaW.PrintLast Go.Proofs.Ytfhfeelkjpcogaa.Mem
set_option linter.unusedVariables false
set_option linter.unusedSimpArgs false

theorem send_long {ok : Nat → Prop} {w : World} {base g : Nat} {most d : Int} {U W : List (List Int)} (A : Option Addr) (n c : Nat) (hn : 64 < n) :
    Calls Try.prog 13 #[.pointer (some ⟨g, 0, none⟩), .slice A n c] w fun e w' => e = .returned (.int .i64 7) ∧ w = w' := by
  go_enter Try.func13, Try.ntmps13
  go_wp2
  go_ret
  exact ⟨rfl, rfl⟩

set_option maxHeartbeats 800000 in
theorem send_full {ok : Nat → Prop} {w : World} {base g : Nat} {most d : Int} {U W : List (List Int)} (A : Option Addr) (n c : Nat) (hn : n ≤ 64)
    (h : IsQ ok w base g most U W d) (hU : U.length ≤ 1000000) (hd0 : 0 ≤ d) (hd1 : d ≤ 1000000) (hf : (U.length : Int) + d = most) :
    Calls Try.prog 13 #[.pointer (some ⟨g, 0, none⟩), .slice A n c] w fun e w' => e = .returned (.int .i64 8) ∧ ∃ n, w' = w.drewN n := by
  have HH := Aside0.mk h
  obtain ⟨v1, v2, hb, hg, hok, h1, h2, hne⟩ := h
  have c_0 := blk_cell hb 0
  simp at c_0
  have hf1 : ((U.length : Int) + d == most) = true := by simpa using hf
  have hf2 : ((U.length : Int) + d != most) = false := by simpa using hf
  clear hb h1 h2 hne hf
  go_enter Try.func13, Try.ntmps13
  go_wp2
  go_quiet ((go_at_call 17; exact Calls.quiet_of (kept_any (HH.out.drewN _) hU hd0 hd1)))
  go_wp2
  go_ret
  exact ⟨rfl, _, rfl⟩


set_option maxHeartbeats 3200000 in
set_option maxRecDepth 100000 in
theorem send_ok {ok : Nat → Prop} {w : World} {base g : Nat} {most d : Int} {U W : List (List Int)} (A : Option Addr) (n c : Nat) (x : List Int) (hn : n ≤ 64) (hC : (Kd.int .u8).C w A n x)
    (h : IsQ ok w base g most U W d) (hbase : base ≤ w.heap.size) (hU : U.length ≤ 1000000) (hd0 : 0 ≤ d) (hd1 : d ≤ 1000000) (hf : (U.length : Int) + d ≠ most) :
    Calls Try.prog 13 #[.pointer (some ⟨g, 0, none⟩), .slice A n c] w fun e w' => e = .returned (.int .i64 0) ∧ IsQ (fun k => ok k ∨ w.heap.size ≤ k) w' base g most (U ++ [x]) W d ∧
      Chg ok w w' := by
  have HI := Aside0.mk h
  obtain ⟨v1, v2, hb, hg, hok, h1, h2, hne⟩ := h
  obtain ⟨A1, c1, rfl, hl1⟩ := Kd.Q_slice h1
  have c_0 := blk_cell hb 0
  have c_1 := blk_cell hb 1
  simp at c_0 c_1
  have hf1 : ((U.length : Int) + d == most) = false := by simpa using hf
  have hf2 : ((U.length : Int) + d != most) = true := by simpa using hf
  have gl := blk_lt hb
  have H9 := Aside0.mk (show some g ≠ (Value.slice A1 U.length c1).ownBlock from Kd.Q_ne h1 hb (by decide))
  have HX := Aside0.mk (show ∀ k, (Value.slice A1 U.length c1).ownBlock = some k → ok k from h1.1)
  have HL := Aside0.mk (Kd.Q_lt h1)
  have HL2 := Aside0.mk (Kd.Q_lt h2)
  have H1 := Aside0.mk h1
  have H2 := Aside0.mk (Q_apart_row h2 (ne_symm hne) (Q_typed h1) (by decide))
  have HN := Aside0.mk hne
  have HB := Aside0.mk hb
  have HC := Aside0.mk hC
  have HY := Aside0.mk hok
  clear hb h1 h2 hne hf hC hok
  go_enter Try.func13, Try.ntmps13
  go_wp2
  go_quiet ((go_at_call 17; exact Calls.quiet_of (kept_any (HI.out.drewN _) hU hd0 hd1)))
  go_wp2
  generalize hwq : w.drewN _ = wq
  have hh : wq.heap = w.heap := by rw [← hwq]; exact World.heap_drewN _ _
  have hbw : Below w.heap.size w wq := by rw [← hwq]; exact pw_below_drewN (Below.refl _ _) _
  have c_1q : wq.cell? ⟨g, 1, none⟩ = some (.slice A1 U.length c1) := by rw [← hwq]; exact c_1
  have H1q := Aside0.mk (Kd.Q_below H1.out hbw)
  have H2q := Aside0.mk (Kd.Q_below H2.out hbw)
  have HBq := Aside0.mk ((hbw.block g gl).trans HB.out)
  have HCq := Aside0.mk (Kd.C_below HC.out hbw)
  have HW := Aside0.mk hbw
  have HH := Aside0.mk hh
  have glq : g < wq.heap.size := by rw [hh]; exact gl
  clear hwq hbw hh c_1 c_0
  go_region_law (first
    | (refine step_append_Q D (by rfl) _ _ _ (by rfl) base 34 _ 24 Try.underlying28 Try.info34 rfl (by decide) (by decide) (.slice A1 U.length c1) U x [.slice A' n c'] (fun k => ok k ∨ w.heap.size ≤ k) _ (by rfl) HQ1.out ⟨w1.heap.size, 0, none⟩ 1 (by rfl) (World.news_of_block (cs := #[.slice A' n c']) (t := 34) (fr := (0, 0)) (heap_alloc_new w1 _)) HM1.out (fun k hk => hk) (fun k hk => Or.inr (by have := HS1.out; simp at hk; omega)) (by have := HS1.out; simp; omega) (by omega) ?_
       intro gg off cap2 w2 hq hgrow hat hlt
       have hb2 := (hgrow.block g (by have := HS1.out; simp; omega) H9.out).trans ((Below.heap_alloc w1 _ g (by have := HS1.out; omega)).trans HBr.out)
       have e_1 := blk_frozen hb2 1
       have d_1 := blk_cell hb2 1
       simp at d_1
       have HB2 := Aside0.mk hb2
       have HQ := Aside0.mk hq
       have HG := Aside0.mk hgrow
       have HAT := Aside0.mk hat
       clear hb2 hq hgrow hat)
    | (go_simp
       go_at_call 28
       refine (clone_any A n c x _ (Kd.C_below HCq.out (below_drew (Below.refl _ _))) (by omega)).mono ?_
       rintro e w1 ⟨A', c', rfl, hR, hB0⟩
       have hB : Below wq.heap.size wq w1 := ⟨hB0.os, hB0.tape, hB0.output, hB0.size, hB0.block⟩
       have HS1 := Aside0.mk (show w.heap.size ≤ w1.heap.size by have := hB.size; have := HH.out; simp_all)
       have HBr := Aside0.mk ((hB.block g glq).trans HBq.out)
       have c_1r := (hB.cell (p := ⟨g, 1, none⟩) glq).trans c_1q
       have c_1s : ∀ o, (w1.alloc o).cell? ⟨g, 1, none⟩ = some (.slice A1 U.length c1) := fun o => Lib.cell?_alloc_some _ c_1r
       have HQ1 := Aside0.mk (show D.Q 34 (w1.alloc (.cells #[.slice A' n c'] 34)) base (fun k => ok k ∨ w.heap.size ≤ k) (.slice A1 U.length c1) U from
         Kd.Q_alloc (Kd.Q_mono (Kd.Q_below H1q.out hB) (fun k hk => Or.inl hk)) _)
       have HM1 := Aside0.mk (show D.M (w1.alloc (.cells #[.slice A' n c'] 34)) base (fun k => (ok k ∨ w.heap.size ≤ k) ∧ some k ≠ (Value.slice A1 U.length c1).ownBlock) x [.slice A' n c'] by
         refine Kd.M_below ?_ (below_alloc (Below.refl _ _) _)
         refine ⟨_, rfl, Kd.R_mono (Kd.R_lower (Kd.R_bound hR) (by have := HH.out; simp_all)) (fun k hk => ?_)⟩
         have hkk : w.heap.size ≤ k := by have := HH.out; have := hk.2.1; simp_all
         exact ⟨Or.inr hkk, fun he => by have := HL.out k he.symm; omega⟩)
       have HB1 := Aside0.mk hB
       clear hR hB hB0))
  all_goals go_wp2
  all_goals go_ret
  all_goals
    have hb2 := HB2.out
    have hg2 := HG.out
    have hV2 : D.Q 34 w2 base (fun k => ok k ∨ w.heap.size ≤ k) v2 W :=
      Kd.Q_mono (Kd.Q_grown (Kd.Q_alloc (Kd.Q_below H2q.out HB1.out) _) hg2 (fun k hk => hk.2)) (fun k hk => Or.inl hk.1)
    refine ⟨rfl, ⟨_, _, by simpa using blk_set hb2 1 _, hg, Or.inl HY.out, Kd.Q_set HQ.out hb2 D_types 1 _, Kd.Q_set hV2 hb2 D_types 1 _, ?_⟩, ?_⟩
    · intro k hk he
      have hgk : gg = k := by simpa [Value.ownBlock] using hk
      subst hgk
      rcases HAT.out with h | h
      · exact HN.out gg h he
      · have := HL2.out gg he
        have := HS1.out
        simp at h
        omega
    · refine Chg.set_ (p := ⟨g, 1, none⟩) ?_ (fun _ => HY.out) _
      exact (((Chg.of_below HW.out ok).trans (Chg.of_below HB1.out ok) (fun _ _ h => h)).alloc _).trans (Chg.of_grown hg2) (fun i _ hi => HX.out i hi.symm)

end Go.Proofs.Ytfhfeelkjpcogaa.Fifo
