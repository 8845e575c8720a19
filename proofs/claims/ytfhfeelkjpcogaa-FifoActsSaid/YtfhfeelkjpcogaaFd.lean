/- Contracts of the queue's methods, part d: each theorem says its own conditions. -/
import Derived.Test.YtfhfeelkjpcogaaFc
import Derived.WalkSpells
namespace Go.Proofs.Ytfhfeelkjpcogaa.Fifo
open Go.RowKit Go.Proofs.YtfhfeelkjpcogaaW.PrintWords Go.Proofs.YtfhfeelkjpcogaaW.PrintLast Go.Proofs.Ytfhfeelkjpcogaa.Mem
set_option linter.unusedVariables false
set_option linter.unusedSimpArgs false

theorem Try.info5 : (Try.prog.info? 5).map (fun i => (i.zero, i.size, i.bytes)) = some (some (.int .u8 0), 1, 1) := by kernel_rfl
theorem int_cells {k : IntKind} {w : World} {a : Addr} {n : Nat} {xs : List Int} (h : (Kd.int k).C w (some a) n xs) (j : Nat) (hj : j < n) : w.cell? (a.add j) = some (.int k (xs.getD j 0)) := by
  obtain ⟨hl, _, hr⟩ := h
  obtain ⟨ad, he, hc⟩ := hr (by omega)
  injection he with he
  subst he
  have hjl : j < xs.length := by omega
  obtain ⟨c, _, hK, hcell⟩ := hc j _ (List.getElem?_eq_getElem hjl)
  have hK' : c = [.int k xs[j]] := hK
  subst hK'
  have := hcell 0 _ rfl
  rw [List.getD_eq_getElem?_getD, List.getElem?_eq_getElem hjl]
  simpa [Kd.int, Kd.scalar] using this

theorem clone_any (A : Option Addr) (n c : Nat) (x : List Int) (w : World) (hC : (Kd.int .u8).C w A n x) (hn : n ≤ 140737488355328) :
    Calls Try.prog 28 #[.slice A n c] w fun e w' => ∃ A' c', e = .returned (.slice A' n c') ∧ (Kd.int .u8).R 5 w' w.heap.size (fun _ => True) (.slice A' n c') x ∧ Below w.heap.size w w' := by
  have hx : x.length = n := hC.1
  cases A with
  | none =>
    have h0 : n = 0 := by
      rcases Nat.eq_zero_or_pos n with h | h
      · exact h
      · obtain ⟨ad, he, _⟩ := hC.2.2 h
        cases he
    subst h0
    obtain rfl : x = [] := List.eq_nil_of_length_eq_zero hx
    have hq := Lib.run_eql_slice_nil (P := Try.prog)
    clear hC
    have q22 : ∀ w : World, (binOp .eql 34 (.slice none 0 c) (.slice none 0 0)).run Try.prog w = .ok (.bool true) w := fun w => Lib.run_eql_slice_nil w _ _ none 0 c 0 0 Try.underlying34
    clear hq
    go_enter Try.func28, Try.ntmps28
    go_wp2
    go_ret
    exact ⟨_, _, rfl, Kd.R_nil _ _ _ _ _, Below.refl _ _⟩
  | some a =>
    obtain ⟨i0, hi, hz0, hz1, hz2⟩ := info_parts Try.info5
    have q22 : ∀ w : World, (binOp .eql 34 (.slice (some a) n c) (.slice none 0 0)).run Try.prog w = .ok (.bool false) w := fun w => Lib.run_eql_slice_nil w _ _ (some a) n c 0 0 Try.underlying34
    have A0 := Aside0.mk hC
    clear hC
    go_enter Try.func28, Try.ntmps28
    go_wp2_with (at_builtin; refine wpList_append_own _ rfl _ _ 34 rfl w.heap.size 5 i0 (.int .u8 0) 1 1 Try.underlying34 hi hz0 hz1 hz2 rfl (by decide) _ _ _ rfl (World.ownsRow_made w #[] 0 (Nat.le_refl _) (Nat.zero_le _) rfl) a n c (x.map (Value.int .u8)) rfl ?qc1 ?qc2 ?qc3 ?qc4 ?qc5 ?qc6 ?_)
    case qc1 => simp; omega
    case qc2 =>
      intro j u hj
      have hjn : j < n := by
        have := (List.getElem?_eq_some_iff.1 hj).1
        simp at this
        omega
      refine Lib.cell?_alloc_some _ ?_
      rw [int_cells A0.out j hjn]
      have e : (x.map (Value.int .u8))[j]? = some (Value.int .u8 (x.getD j 0)) := by simp [List.getD, List.getElem?_eq_getElem (show j < x.length by omega)]
      rw [e] at hj
      exact hj
    case qc3 => intro u hu; obtain ⟨x, _, rfl⟩ := List.mem_map.1 hu; rfl
    case qc4 => unfold maxLen; omega
    case qc5 => omega
    case qc6 => simp
    intro v' w1 hown hgrow hnil
    go_wp2
    go_ret
    have hown' : w1.ownsRow w.heap.size 5 1 v' n (x.map (Value.int .u8)) := by simpa using hown
    obtain ⟨A', c', rfl⟩ := own_slice hown'
    exact ⟨A', c', rfl, Kd.R_of_own (by rw [hx]; exact hown') (fun _ _ => trivial), ((Below.refl _ w).alloc (Nat.le_refl _) _).grown hgrow (by simp) (by intro k hk; simp [Value.ownBlock] at hk; omega)⟩

end Go.Proofs.Ytfhfeelkjpcogaa.Fifo
