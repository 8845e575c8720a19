/- Contracts of the document's queue (a list and three counts): each theorem says its own conditions. -/
import Derived.Test.YtfhfeelkjpcogaaFf
namespace Go.Proofs.Ytfhfeelkjpcogaa.Fifo
open Go.RowKit Go.Proofs.YtfhfeelkjpcogaaW.PrintWords Go.Proofs.YtfhfeelkjpcogaaW.PrintLast Go.Proofs.YtfhfeelkjpcogaaW.PrintMore Go.Proofs.Ytfhfeelkjpcogaa.Mem
attribute [local go_sem] max2_int min2_int max_two min_two max_three min_three max_four min_four   -- for this text's walks alone
set_option linter.unusedVariables false
set_option linter.unusedSimpArgs false

theorem D_types45 : ∀ q, q ∈ (34 : Nat) :: D.E → q ≠ 45 := by decide

/-- The document's queue at block h. -/
def IsW (ok : Nat → Prop) (w : World) (base h : Nat) (most : Int) (L : List (List Int)) (dl pl ac : Int) : Prop :=
  ∃ v, w.heap[h]? = some (.cells #[.int .i64 most, v, .int .i64 dl, .int .i64 pl, .int .i64 ac] 45 (0, 0)) ∧ base ≤ h ∧ ok h ∧ D.Q 34 w base ok v L

section
variable {ok ok' : Nat → Prop} {w w1 : World} {base h : Nat} {most dl pl ac : Int} {L : List (List Int)}
theorem IsW.step (hI : IsW ok w base h most L dl pl ac) (hm : ∀ k, ok k → k < w.heap.size → w1.heap[k]? = w.heap[k]?) : IsW ok w1 base h most L dl pl ac := by
  obtain ⟨v, hb, hg, hok, h1⟩ := hI
  exact ⟨v, (hm h hok (blk_lt hb)).trans hb, hg, hok, Kd.Q_step h1 hm⟩
theorem IsW.chg {S : Nat → Prop} (hI : IsW ok w base h most L dl pl ac) (hc : Chg S w w1) (hS : ∀ k, ok k → k < w.heap.size → ¬ S k) : IsW ok w1 base h most L dl pl ac :=
  hI.step (fun k hk hl => hc.block k hl (hS k hk hl))
theorem IsW.below (hI : IsW ok w base h most L dl pl ac) (hc : Below w.heap.size w w1) : IsW ok w1 base h most L dl pl ac := hI.step (fun k _ hl => hc.block k hl)
theorem IsW.drewN (hI : IsW ok w base h most L dl pl ac) (n : Nat) : IsW ok (w.drewN n) base h most L dl pl ac := hI.below (pw_below_drewN (Below.refl _ _) n)
theorem IsW.mono (hI : IsW ok w base h most L dl pl ac) (hm : ∀ k, ok k → ok' k) : IsW ok' w base h most L dl pl ac := by
  obtain ⟨v, hb, hg, hok, h1⟩ := hI
  exact ⟨v, hb, hg, hm h hok, Kd.Q_mono h1 hm⟩
theorem IsW.bound (hI : IsW ok w base h most L dl pl ac) : IsW (fun k => ok k ∧ base ≤ k ∧ k < w.heap.size) w base h most L dl pl ac := by
  obtain ⟨v, hb, hg, hok, h1⟩ := hI
  exact ⟨v, hb, hg, ⟨hok, hg, blk_lt hb⟩, Kd.Q_mono (Kd.Q_bound h1) (fun k hk => ⟨hk.1, hk.2.1, hk.2.2.1⟩)⟩
theorem IsW.set2 (hI : IsW ok w base h most L dl pl ac) (x : Int) : IsW ok (w.setCell ⟨h, 2, none⟩ (.int .i64 x)) base h most L x pl ac := by
  obtain ⟨v, hb, hg, hok, h1⟩ := hI
  exact ⟨v, by simpa using blk_set hb 2 (.int .i64 x), hg, hok, Kd.Q_set h1 hb D_types45 2 _⟩
theorem IsW.set3 (hI : IsW ok w base h most L dl pl ac) (x : Int) : IsW ok (w.setCell ⟨h, 3, none⟩ (.int .i64 x)) base h most L dl x ac := by
  obtain ⟨v, hb, hg, hok, h1⟩ := hI
  exact ⟨v, by simpa using blk_set hb 3 (.int .i64 x), hg, hok, Kd.Q_set h1 hb D_types45 3 _⟩
theorem IsW.set4 (hI : IsW ok w base h most L dl pl ac) (x : Int) : IsW ok (w.setCell ⟨h, 4, none⟩ (.int .i64 x)) base h most L dl pl x := by
  obtain ⟨v, hb, hg, hok, h1⟩ := hI
  exact ⟨v, by simpa using blk_set hb 4 (.int .i64 x), hg, hok, Kd.Q_set h1 hb D_types45 4 _⟩
theorem IsW.cells (hI : IsW ok w base h most L dl pl ac) : ∃ A c, w.cell? ⟨h, 0, none⟩ = some (.int .i64 most) ∧ w.cell? ⟨h, 1, none⟩ = some (.slice A L.length c) ∧ w.cell? ⟨h, 2, none⟩ = some (.int .i64 dl) ∧
    w.cell? ⟨h, 3, none⟩ = some (.int .i64 pl) ∧ w.cell? ⟨h, 4, none⟩ = some (.int .i64 ac) ∧ ∀ j, w.frozen? ⟨h, j, none⟩ = false := by
  obtain ⟨v, hb, hg, hok, h1⟩ := hI
  obtain ⟨A, c, rfl, _⟩ := Kd.Q_slice h1
  exact ⟨A, c, by simpa using blk_cell hb 0, by simpa using blk_cell hb 1, by simpa using blk_cell hb 2, by simpa using blk_cell hb 3, by simpa using blk_cell hb 4, fun j => blk_frozen hb j⟩
end

section
variable {ok : Nat → Prop} {w : World} {base h : Nat} {most dl pl ac : Int} {L : List (List Int)}
set_option maxHeartbeats 800000 in
theorem docDeliver_any (hI : IsW ok w base h most L dl pl ac) (h0 : 0 ≤ dl) (h1 : dl ≤ 1000000) :
    Calls Try.prog 22 #[.pointer (some ⟨h, 0, none⟩)] w fun e w' => e = .returned (.int .i64 (if dl = L.length then 9 else 0)) ∧ IsW ok w' base h most L (if dl = L.length then dl else dl + 1) pl ac ∧ Chg (fun k => k = h) w w' := by
  have HI := Aside0.mk hI
  obtain ⟨A, c, c0, c1, c2, c3, c4, hf⟩ := hI.cells
  have f2 := hf 2
  clear hI hf
  by_cases hd : dl = L.length
  · have hd1 : (dl == (L.length : Int)) = true := by simpa using hd
    have HD := Aside0.mk hd
    rw [if_pos hd, if_pos hd]
    clear hd
    go_enter Try.func22, Try.ntmps22
    go_wp2
    go_quiet (fail)
    go_wp2
    go_ret
    exact ⟨rfl, HI.out.drewN _, (Chg.refl _ _).drewN _⟩
  · have hd1 : (dl == (L.length : Int)) = false := by simpa using hd
    rw [if_neg hd, if_neg hd]
    clear hd
    go_enter Try.func22, Try.ntmps22
    go_wp2
    go_quiet (fail)
    go_wp2
    go_ret
    exact ⟨rfl, (HI.out.drewN _).set2 _, Chg.set_ (p := ⟨h, 2, none⟩) ((Chg.refl (fun k => k = h) _).drewN _) (fun _ => rfl) _⟩

/-- what DocAck answers, and what is left. -/
def wackR (n dl ac : Int) : Int := if n < 0 then 1 else if n > dl - ac then 9 else 0
def wackA (n dl ac : Int) : Int := if n < 0 then ac else if n > dl - ac then ac else ac + n

set_option maxHeartbeats 800000 in
theorem docAck_any (n : Int) (hI : IsW ok w base h most L dl pl ac) (h0 : 0 ≤ dl) (h1 : dl ≤ 1000000) (h2 : 0 ≤ ac) (h3 : ac ≤ 1000000) :
    Calls Try.prog 24 #[.pointer (some ⟨h, 0, none⟩), .int .i64 n] w fun e w' => e = .returned (.int .i64 (wackR n dl ac)) ∧ IsW ok w' base h most L dl pl (wackA n dl ac) ∧ Chg (fun k => k = h) w w' := by
  have HI := Aside0.mk hI
  obtain ⟨A, c, c0, c1, c2, c3, c4, hf⟩ := hI.cells
  have f4 := hf 4
  clear hI hf
  unfold wackR wackA
  by_cases hn : n < 0
  · rw [if_pos hn, if_pos hn]
    go_enter Try.func24, Try.ntmps24
    go_wp2
    go_ret
    exact ⟨rfl, HI.out, Chg.refl _ _⟩
  · rw [if_neg hn, if_neg hn]
    by_cases hd : n > dl - ac
    · rw [if_pos hd, if_pos hd]
      go_enter Try.func24, Try.ntmps24
      go_wp2
      go_quiet (fail)
      go_wp2
      go_ret
      exact ⟨rfl, HI.out.drewN _, (Chg.refl _ _).drewN _⟩
    · rw [if_neg hd, if_neg hd]
      go_enter Try.func24, Try.ntmps24
      go_wp2
      go_quiet (fail)
      go_wp2
      go_ret
      exact ⟨rfl, (HI.out.drewN _).set4 _, Chg.set_ (p := ⟨h, 4, none⟩) ((Chg.refl (fun k => k = h) _).drewN _) (fun _ => rfl) _⟩

set_option maxHeartbeats 800000 in
theorem docPoll_none (hI : IsW ok w base h most L dl pl ac) (hp : pl = dl) :
    Calls Try.prog 23 #[.pointer (some ⟨h, 0, none⟩)] w fun e w' => e = .returned (.tuple #[.slice none 0 0, .bool false]) ∧ ∃ n, w' = w.drewN n := by
  subst hp
  obtain ⟨A, c, c0, c1, c2, c3, c4, hf⟩ := hI.cells
  clear hI hf
  go_enter Try.func23, Try.ntmps23
  go_wp2
  go_quiet (fail)
  go_wp2
  go_ret2
  exact ⟨rfl, _, rfl⟩

set_option maxHeartbeats 1600000 in
theorem docPoll_some (hI : IsW ok w base h most L dl pl ac) (hp : pl ≠ dl) (h0 : 0 ≤ pl) (h1 : pl < L.length) (hL : L.length ≤ 1000000) :
    Calls Try.prog 23 #[.pointer (some ⟨h, 0, none⟩)] w fun e w' => ∃ A' c', e = .returned (.tuple #[.slice A' (L.getD pl.toNat []).length c', .bool true]) ∧ (Kd.int .u8).C w' A' (L.getD pl.toNat []).length (L.getD pl.toNat []) ∧
      IsW ok w' base h most L dl (pl + 1) ac ∧ Chg (fun k => k = h) w w' := by
  have HI := Aside0.mk hI
  obtain ⟨v, hb, hg, hok, hQ⟩ := hI
  obtain ⟨b, o, cap, rfl, hbb, hbl, cells, hcells⟩ := Kd.Q_form hQ (by omega)
  obtain ⟨c, hcl, hM, hcell, hfr⟩ := Kd.Q_elem hQ [] pl h0 h1
  obtain ⟨v, rfl, hR⟩ := hM
  obtain ⟨A', c', rfl, hle, hC⟩ := Kd.R_reads hR
  obtain ⟨x, hx⟩ : ∃ x, L.getD pl.toNat [] = x := ⟨_, rfl⟩
  rw [hx] at hcell hC ⊢
  have c_e : w.cell? ⟨b, o + pl.toNat, none⟩ = some (.slice A' x.length c') := by simpa [Kd.slice] using hcell 0 _ rfl
  have hbh : b ≠ h := by
    rintro rfl
    rw [hb] at hcells
    injection hcells with hcells
    injection hcells with _ ht
    exact absurd ht (by decide)
  have c1 := blk_cell hb 1
  have c2 := blk_cell hb 2
  have c3 := blk_cell hb 3
  have f3 := blk_frozen hb 3
  simp at c1 c2 c3
  have hp1 : (pl == dl) = false := by simpa using hp
  have hCs : (Kd.int .u8).C (w.setCell ⟨h, 3, none⟩ (.int .i64 (pl + 1))) A' x.length x := by
    have := Kd.R_reads (Kd.R_set hR hb (t := 45) (by decide) 3 (.int .i64 (pl + 1)))
    obtain ⟨A2, c2', he, _, hC2⟩ := this
    injection he with h1' h2' h3'
    subst h1'
    rw [hx] at hC2
    exact hC2
  have HC := Aside0.mk hCs
  have HX := Aside0.mk hx
  clear hb hQ hcell hfr hR hC hcells hcl hp hx hCs hle
  go_enter Try.func23, Try.ntmps23
  go_wp2
  go_quiet (fail)
  go_wp2
  go_quiet (fail)
  go_wp2
  go_ret2
  exact ⟨A', c', rfl, Kd.C_below HC.out ⟨rfl, rfl, rfl, Nat.le_refl _, fun _ _ => rfl⟩, ((HI.out.drewN _).set3 _).drewN _, (Chg.set_ (p := ⟨h, 3, none⟩) ((Chg.refl (fun k => k = h) _).drewN _) (fun _ => rfl) _).drewN _⟩

theorem docSend_long (A : Option Addr) (n c : Nat) (hn : 64 < n) :
    Calls Try.prog 21 #[.pointer (some ⟨h, 0, none⟩), .slice A n c] w fun e w' => e = .returned (.int .i64 7) ∧ w = w' := by
  go_enter Try.func21, Try.ntmps21
  go_wp2
  go_ret
  exact ⟨rfl, rfl⟩

set_option maxHeartbeats 800000 in
theorem docSend_full (A : Option Addr) (n c : Nat) (hn : n ≤ 64) (hI : IsW ok w base h most L dl pl ac) (hf : (L.length : Int) - ac ≥ most) (hL : L.length ≤ 1000000) (h0 : 0 ≤ ac) (h1 : ac ≤ 1000000) :
    Calls Try.prog 21 #[.pointer (some ⟨h, 0, none⟩), .slice A n c] w fun e w' => e = .returned (.int .i64 8) ∧ ∃ n, w' = w.drewN n := by
  obtain ⟨A, c, c0, c1, c2, c3, c4, hfz⟩ := hI.cells
  clear hI hfz
  go_enter Try.func21, Try.ntmps21
  go_wp2
  go_quiet (fail)
  go_wp2
  go_ret
  exact ⟨rfl, _, rfl⟩

set_option maxHeartbeats 3200000 in
set_option maxRecDepth 100000 in
theorem docSend_ok (A : Option Addr) (n c : Nat) (x : List Int) (hn : n ≤ 64) (hC : (Kd.int .u8).C w A n x) (hI : IsW ok w base h most L dl pl ac) (hbase : base ≤ w.heap.size)
    (hf : ¬ (L.length : Int) - ac ≥ most) (hL : L.length ≤ 1000000) (h0 : 0 ≤ ac) (h1 : ac ≤ 1000000) :
    Calls Try.prog 21 #[.pointer (some ⟨h, 0, none⟩), .slice A n c] w fun e w' => e = .returned (.int .i64 0) ∧ IsW (fun k => ok k ∨ w.heap.size ≤ k) w' base h most (L ++ [x]) dl pl ac ∧ Chg ok w w' := by
  have hx : x.length = n := hC.1
  obtain ⟨v, hb, hg, hok, hQ⟩ := hI
  obtain ⟨A1, c1, rfl, hl1⟩ := Kd.Q_slice hQ
  have k0 := blk_cell hb 0
  have k1 := blk_cell hb 1
  have k4 := blk_cell hb 4
  simp at k0 k1 k4
  have gl := blk_lt hb
  have H9 := Aside0.mk (show some h ≠ (Value.slice A1 L.length c1).ownBlock from Kd.Q_ne hQ hb (by decide))
  have HXX := Aside0.mk (show ∀ k, (Value.slice A1 L.length c1).ownBlock = some k → ok k from hQ.1)
  have HL := Aside0.mk (Kd.Q_lt hQ)
  have HQ := Aside0.mk hQ
  have HB := Aside0.mk hb
  have HC := Aside0.mk hC
  have HY := Aside0.mk hok
  have HXL := Aside0.mk hx
  clear hb hQ hC hok hx
  go_enter Try.func21, Try.ntmps21
  go_wp2
  go_quiet (fail)
  go_wp2
  generalize hwq : w.drewN _ = wq
  have hh : wq.heap = w.heap := by rw [← hwq]; exact World.heap_drewN _ _
  have hbw : Below w.heap.size w wq := by rw [← hwq]; exact pw_below_drewN (Below.refl _ _) _
  have k1q : wq.cell? ⟨h, 1, none⟩ = some (.slice A1 L.length c1) := by rw [← hwq]; exact k1
  have k1s : ∀ o, (wq.alloc o).cell? ⟨h, 1, none⟩ = some (.slice A1 L.length c1) := fun o => Lib.cell?_alloc_some _ k1q
  have hsz : wq.heap.size = w.heap.size := by rw [hh]
  have HQq := Aside0.mk (Kd.Q_below HQ.out hbw)
  have HBq := Aside0.mk ((hbw.block h gl).trans HB.out)
  have HCq := Aside0.mk (Kd.C_below HC.out hbw)
  have HW := Aside0.mk hbw
  have HS := Aside0.mk hsz
  have glq : h < wq.heap.size := by rw [hsz]; exact gl
  clear hwq hbw hh k0 k1 k4 hsz
  go_region_law (first
    | (refine step_append_Q D (by rfl) _ _ _ (by rfl) base 34 _ 24 Try.underlying28 Try.info34 rfl (by decide) (by decide) (.slice A1 L.length c1) L x [.slice A' n c'] (fun k => ok k ∨ w.heap.size ≤ k) _ (by rfl) HQ1.out ⟨w1.heap.size, 0, none⟩ 1 (by rfl) (World.news_of_block (cs := #[.slice A' n c']) (t := 34) (fr := (0, 0)) (heap_alloc_new w1 _)) HM1.out (fun k hk => hk) (fun k hk => Or.inr (by have := HS1.out; simp at hk; omega)) (by have := HS1.out; simp; omega) (by omega) ?_
       intro gg off cap2 w2 hq hgrow hat hlt
       have hb2 := (hgrow.block h (by have := HS1.out; simp; omega) H9.out).trans ((Below.heap_alloc w1 _ h (by have := HS1.out; omega)).trans HBr.out)
       have e_1 := blk_frozen hb2 1
       have d_1 := blk_cell hb2 1
       simp at d_1
       have HB2 := Aside0.mk hb2
       have HQ2 := Aside0.mk hq
       have HG := Aside0.mk hgrow
       clear hb2 hq hgrow hat)
    | (refine Kd.R_append_rows_step (Kd.int .u8) (w0 := wq) wq.heap.size (by rfl) _ _ _ _ (.int .u8 0) 1 (by rfl) Try.underlying34 Try.info5 rfl (by decide) (by decide) (.slice (some ⟨wq.heap.size, 0, none⟩) 0 0) [] x A n c (fun k => wq.heap.size ≤ k) (fun _ => False) (by rfl) (by rfl) (Kd.R_below (Kd.R_of_own (World.ownsRow_made wq #[] 0 (Nat.le_refl _) (Nat.zero_le _) rfl) (fun k hk => by simp [Value.ownBlock] at hk; omega)) (below_drew (Below.refl _ _))) (Kd.C_below HCq.out (below_drew (below_alloc (Below.refl _ _) _))) (fun x cs h => h) (fun _ hk => hk.elim) (fun k hk => by simp at hk; omega) (below_drew (below_alloc (Below.refl _ _) _)) (by simp) (by simp; omega) ?_
       intro v1 w1 hR hB0 hG hat
       have hB : Below wq.heap.size wq w1 := hB0
       rw [List.nil_append] at hR
       obtain ⟨A', c', hv⟩ := Kd.R_slice hR
       rw [HXL.out] at hv
       subst hv
       have HS1 := Aside0.mk (show w.heap.size ≤ w1.heap.size by have := hB.size; have := HS.out; omega)
       have HBr := Aside0.mk ((hB.block h glq).trans HBq.out)
       have k1r := (hB.cell (p := ⟨h, 1, none⟩) glq).trans k1q
       have k1t : ∀ o, (w1.alloc o).cell? ⟨h, 1, none⟩ = some (.slice A1 L.length c1) := fun o => Lib.cell?_alloc_some _ k1r
       have HQ1 := Aside0.mk (show D.Q 34 (w1.alloc (.cells #[.slice A' n c'] 34)) base (fun k => ok k ∨ w.heap.size ≤ k) (.slice A1 L.length c1) L from
         Kd.Q_alloc (Kd.Q_mono (Kd.Q_below HQq.out hB) (fun k hk => Or.inl hk)) _)
       have HM1 := Aside0.mk (show D.M (w1.alloc (.cells #[.slice A' n c'] 34)) base (fun k => (ok k ∨ w.heap.size ≤ k) ∧ some k ≠ (Value.slice A1 L.length c1).ownBlock) x [.slice A' n c'] by
         refine Kd.M_below ?_ (below_alloc (Below.refl _ _) _)
         refine ⟨_, rfl, Kd.R_mono (Kd.R_lower hR (by have := HS.out; omega)) (fun k hk => ?_)⟩
         have hkk : w.heap.size ≤ k := by have := HS.out; omega
         exact ⟨Or.inr hkk, fun he => by have := HL.out k he.symm; omega⟩)
       have HB1 := Aside0.mk hB
       clear hR hB hB0 hG hat))
  all_goals go_wp2
  all_goals go_ret
  all_goals
    have hb2 := HB2.out
    have hg2 := HG.out
    refine ⟨rfl, ⟨_, by simpa using blk_set hb2 1 _, hg, Or.inl HY.out, Kd.Q_set HQ2.out hb2 D_types45 1 _⟩, ?_⟩
    refine Chg.set_ (p := ⟨h, 1, none⟩) ?_ (fun _ => HY.out) _
    exact (((Chg.of_below HW.out ok).trans (Chg.of_below HB1.out ok) (fun _ _ h => h)).alloc _).trans (Chg.of_grown hg2) (fun i _ hi => HXX.out i hi.symm)

end

end Go.Proofs.Ytfhfeelkjpcogaa.Fifo
