/- Contracts of the queue's methods, part b: each theorem says its own conditions. -/
import Derived.Test.YtfhfeelkjpcogaaFa
namespace Go.Proofs.Ytfhfeelkjpcogaa.Fifo
open Go.RowKit Go.Proofs.YtfhfeelkjpcogaaW.PrintWords Go.Proofs.YtfhfeelkjpcogaaW.PrintLast Go.Proofs.Ytfhfeelkjpcogaa.Mem
set_option linter.unusedVariables false
set_option linter.unusedSimpArgs false

/-! ### Ack -/
theorem IsQ.set3 {ok : Nat → Prop} {w : World} {base g : Nat} {most d : Int} {U W : List (List Int)} (h : IsQ ok w base g most U W d) (x : Int) :
    IsQ ok (w.setCell ⟨g, 3, none⟩ (.int .i64 x)) base g most U W x := by
  obtain ⟨v1, v2, hb, hg, hok, h1, h2, hne⟩ := h
  exact ⟨v1, v2, by simpa using blk_set hb 3 (.int .i64 x), hg, hok, Kd.Q_set h1 hb D_types 3 _, Kd.Q_set h2 hb D_types 3 _, hne⟩
theorem IsQ.lt {ok : Nat → Prop} {w : World} {base g : Nat} {most d : Int} {U W : List (List Int)} (h : IsQ ok w base g most U W d) : g < w.heap.size := by
  obtain ⟨v1, v2, hb, _⟩ := h
  exact blk_lt hb
theorem IsQ.drewN {ok : Nat → Prop} {w : World} {base g : Nat} {most d : Int} {U W : List (List Int)} (h : IsQ ok w base g most U W d) (n : Nat) : IsQ ok (w.drewN n) base g most U W d :=
  h.below (pw_below_drewN (Below.refl _ _) n)

/-- what Ack answers, and what is left. -/
def ackR (n d : Int) : Int := if n < 0 then 1 else if n > d then 9 else 0
def ackD (n d : Int) : Int := if n < 0 then d else if n > d then d else d - n

theorem ack_any {ok : Nat → Prop} {w : World} {base g : Nat} {most d : Int} {U W : List (List Int)} (n : Int) (h : IsQ ok w base g most U W d)
    (hd0 : 0 ≤ d) (hd1 : d ≤ 1000000) :
    Calls Try.prog 18 #[.pointer (some ⟨g, 0, none⟩), .int .i64 n] w fun e w' => e = .returned (.int .i64 (ackR n d)) ∧ IsQ ok w' base g most U W (ackD n d) ∧ Chg (fun k => k = g) w w' := by
  have HH := Aside0.mk h
  obtain ⟨v1, v2, hb, hg, hok, h1, h2, hne⟩ := h
  have c_3 := blk_cell hb 3
  have f_3 := blk_frozen hb 3
  simp at c_3
  clear hb h1 h2 hne
  unfold ackR ackD
  by_cases hn : n < 0
  · rw [if_pos hn, if_pos hn]
    go_enter Try.func18, Try.ntmps18
    go_wp2
    go_ret
    exact ⟨rfl, HH.out, Chg.refl _ _⟩
  · rw [if_neg hn, if_neg hn]
    by_cases hd : n > d
    · rw [if_pos hd, if_pos hd]
      go_enter Try.func18, Try.ntmps18
      go_wp2
      go_ret
      exact ⟨rfl, HH.out, Chg.refl _ _⟩
    · rw [if_neg hd, if_neg hd]
      go_enter Try.func18, Try.ntmps18
      go_wp2
      go_ret
      exact ⟨rfl, HH.out.set3 _, Chg.set_ (p := ⟨g, 3, none⟩) (Chg.refl (fun k => k = g) _) (fun _ => rfl) _⟩

/-! ### New -/
theorem new_bad (most : Int) (w : World) (h : most < 1 ∨ most > 64) :
    Calls Try.prog 11 #[.int .i64 most] w fun e w' => e = .returned (.tuple #[.pointer none, .int .i64 1]) ∧ w = w' := by
  rcases h with h | h
  · go_enter Try.func11, Try.ntmps11
    go_wp2
    go_ret2
    exact ⟨rfl, rfl⟩
  · have h' : ¬ most < 1 := by omega
    go_enter Try.func11, Try.ntmps11
    go_wp2
    go_ret2
    exact ⟨rfl, rfl⟩

theorem new_any (most : Int) (w : World) (h0 : 1 ≤ most) (h1 : most ≤ 64) :
    Calls Try.prog 11 #[.int .i64 most] w fun e w' => ∃ g, e = .returned (.tuple #[.pointer (some ⟨g, 0, none⟩), .int .i64 0]) ∧
      IsQ (fun k => w.heap.size ≤ k) w' w.heap.size g most [] [] 0 ∧ Below w.heap.size w w' := by
  go_enter Try.func11, Try.ntmps11
  go_wp2
  go_ret2
  exact ⟨_, rfl, ⟨_, _, by simpa using heap_alloc_new w _, Nat.le_refl _, Nat.le_refl _, Kd.Q_nil _ _ _ _ _, Kd.Q_nil _ _ _ _ _, fun k hk => by simp [Value.ownBlock] at hk⟩, below_alloc (Below.refl _ _) _⟩

/-! ### Poll -/
theorem Try.info34 : (Try.prog.info? 34).map (fun i => (i.zero, i.size, i.bytes)) = some (some (.slice none 0 0), 1, 24) := by kernel_rfl

theorem poll_none {ok : Nat → Prop} {w : World} {base g : Nat} {most d : Int} {U : List (List Int)} (h : IsQ ok w base g most U [] d) :
    Calls Try.prog 15 #[.pointer (some ⟨g, 0, none⟩)] w fun e w' => e = .returned (.tuple #[.slice none 0 0, .bool false]) ∧ w = w' := by
  obtain ⟨v1, v2, hb, hg, hok, h1, h2, hne⟩ := h
  obtain ⟨A2, c2, rfl, hl2⟩ := Kd.Q_slice h2
  have c_2 := blk_cell hb 2
  simp at c_2
  clear hb h1 h2 hne hl2
  go_enter Try.func15, Try.ntmps15
  go_wp2
  go_ret2
  exact ⟨rfl, rfl⟩

theorem poll_some {ok : Nat → Prop} {w : World} {base g : Nat} {most d : Int} {U W : List (List Int)} {x : List Int} (h : IsQ ok w base g most U (x :: W) d) :
    Calls Try.prog 15 #[.pointer (some ⟨g, 0, none⟩)] w fun e w' => ∃ v, e = .returned (.tuple #[v, .bool true]) ∧ IsQ ok w' base g most U W d ∧
      (Kd.int .u8).R 5 w' base ok v x ∧ Chg (fun k => k = g) w w' := by
  obtain ⟨v1, v2, hb, hg, hok, h1, h2, hne⟩ := h
  obtain ⟨b, o, cap, rfl, hbb, hbl, cells, hcells⟩ := Kd.Q_form h2 (by simp)
  obtain ⟨c, hcl, hM, hcell, hfr⟩ := Kd.Q_elem h2 [] 0 (by omega) (by simp)
  obtain ⟨v, rfl, hR⟩ := hM
  have c_e : w.cell? ⟨b, o, none⟩ = some v := by simpa using hcell 0 v rfl
  have hdrop := Kd.Q_drop h2 (k := 1) (by simp)
  obtain ⟨i0, hi, hz0, hz1, hz2⟩ := info_parts Try.info34
  have hcut := cut_from 28 34 .i64 Try.underlying28 hi 1 hz1 (some ⟨b, o, none⟩) (x :: W).length cap 1 (by omega) (by simp; omega)
  have c_2 := blk_cell hb 2
  have f_2 := blk_frozen hb 2
  simp at c_2
  have R1 : (Kd.int .u8).R 5 w base ok v x := by simpa using Kd.R_mono hR (fun k hk => hk.1)
  have hVb : NeRow v1 (.slice (if cap = 1 then some ⟨b, o, none⟩ else (some (⟨b, o, none⟩ : Addr)).map (·.add (1 * D.sz))) ((x :: W).length - 1) (cap - 1)) := by
    intro k hk he
    refine hne k hk ?_
    rw [← he]
    split <;> rfl
  obtain ⟨A', hA'⟩ : ∃ A', (if cap = 1 then some ⟨b, o, none⟩ else (some (⟨b, o, none⟩ : Addr)).map (·.add (1 * D.sz))) = A' := ⟨_, rfl⟩
  have hcut' : ∀ W1 : World, (Instr.slice 28 (.slice (some ⟨b, o, none⟩) (W.length + 1) cap) (some (.int .i64 1)) none none).run Try.prog W1 = .ok (.slice A' W.length (cap - 1)) W1 := by
    intro W1
    have := hcut W1
    rw [show (1 : Int).toNat = 1 from rfl] at this
    rw [← hA']
    exact this
  rw [hA'] at hdrop hVb
  have HH := Aside0.mk (show ∃ v2, w.heap[g]? = some (.cells #[.int .i64 most, v1, v2, .int .i64 d] 53 (0, 0)) ∧ base ≤ g ∧ ok g ∧ D.Q 34 w base ok v1 U ∧ D.Q 34 w base ok (.slice A' W.length (cap - 1)) W ∧ NeRow v1 (.slice A' W.length (cap - 1)) ∧ (Kd.int .u8).R 5 w base ok v x from ⟨_, hb, hg, hok, h1, hdrop, hVb, R1⟩)
  clear hb h1 h2 hne hcell hfr hdrop hVb hR R1 hcells hcl hcut hA'
  go_enter Try.func15, Try.ntmps15
  go_wp2
  go_ret2
  obtain ⟨v2, hb, hg, hok, h1, h2, hne, hR⟩ := HH.out
  exact ⟨v, rfl, ⟨_, _, by simpa using blk_set hb 2 _, hg, hok, Kd.Q_set h1 hb D_types 2 _, Kd.Q_set h2 hb D_types 2 _, hne⟩, Kd.R_set hR hb (by decide) 2 _, Chg.set_ (p := ⟨g, 2, none⟩) (Chg.refl (fun k => k = g) _) (fun _ => rfl) _⟩

end Go.Proofs.Ytfhfeelkjpcogaa.Fifo
