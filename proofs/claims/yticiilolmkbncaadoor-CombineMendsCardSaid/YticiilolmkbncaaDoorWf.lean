/- The law CombineOrder: in whatever order versions come, the numbers are the same. Each theorem says its own conditions. -/
import Derived.Test.YticiilolmkbncaaDoorWe
namespace Go.Proofs.YticiilolmkbncaaDoor.Vit
open Go.RowKit Go.Proofs.YticiilolmkbncaaDoorW.PrintWords Go.Proofs.YticiilolmkbncaaDoorW.PrintLast Go.Proofs.YticiilolmkbncaaDoorW.PrintMore Go.Proofs.YticiilolmkbncaaDoor.Mem
attribute [local go_sem] max2_int min2_int max_two min_two max_three min_three max_four min_four   -- for this text's walks alone
set_option linter.unusedVariables false
set_option linter.unusedSimpArgs false

set_option maxHeartbeats 1600000 in
theorem Same_any (xs : List Int) (A B : Option Addr) (n c d : Nat) (w : World) (hC : (Kd.int .i64).C w A n xs) (hD : (Kd.int .i64).C w B n xs) (hn : n ≤ 140737488355327) :
    Calls Tryd.prog 33 #[.slice A n c, .slice B n d] w fun e w' => e = .returned (.bool true) ∧ ∃ q, w' = w.drewN q := by
  have HC := Aside0.mk (And.intro hC hD)
  have hnb : ((n : Int) != (n : Int)) = false := by simp
  clear hC hD
  go_enter Tryd.func33, Tryd.ntmps33
  go_wp2_with fail
  go_loopw [5] (fun i wr => ∃ t : Nat, i = .int .i64 t ∧ t ≤ n ∧ ∃ q, wr = w.drewN q) (fun i _ => n - (intOf i).toNat)
  case atStart => exact ⟨0, rfl, Nat.zero_le _, 0, rfl⟩
  case round =>
    obtain ⟨t, rfl, ht, q, hwq⟩ := hrel
    have HWQ := Aside0.mk hwq
    by_cases htn : t < n
    · have hlt : (t : Int) < (n : Int) := by omega
      obtain ⟨ad, hA, hx⟩ := Kd.at_int HC.out.1 (t : Int) (by omega) hlt
      cases hA
      obtain ⟨ad2, hA2, hx2⟩ := Kd.at_int HC.out.2 (t : Int) (by omega) hlt
      cases hA2
      obtain ⟨x, hxx⟩ : ∃ x, rd xs t = x := ⟨_, rfl⟩
      rw [hxx, Int.toNat_natCast] at hx hx2
      have hx1 : wr.cell? (ad.add t) = some (.int .i64 x) := by rw [hwq]; exact hx
      have hx3 : wr.cell? (ad2.add t) = some (.int .i64 x) := by rw [hwq]; exact hx2
      have hb : (x != x) = false := by simp
      clear hxx hwq hx hx2
      go_wp2_with fail
      go_quiet (fail)
      go_wp2_with fail
      exact ⟨⟨t + 1, by go_num, by omega, _, by rw [HWQ.out]; exact World.drewN_drewN _ _ _⟩, by simp only [intOf]; omega⟩
    · have hlt : ¬ (t : Int) < (n : Int) := by omega
      obtain rfl : t = n := by omega
      clear hwq
      go_wp2_with fail
      go_ret
      exact ⟨rfl, q, HWQ.out⟩
/-- What came under a number, as versions of a list. -/
def cv13 (x : Int) : Nat := ((IntKind.u64.wrap x).tmod 4).toNat
theorem cv13_lt (x : Int) : cv13 x < 4 := by
  have h0 : 0 ≤ IntKind.u64.wrap x := by have := IntKind.wrap_u64 x; omega
  unfold cv13
  rw [Int.tmod_eq_emod_of_nonneg h0]
  omega
theorem cv13_is (x : Int) : (IntKind.u64.wrap x).tmod 4 = (cv13 x : Int) := by
  have h0 : 0 ≤ IntKind.u64.wrap x := by have := IntKind.wrap_u64 x; omega
  unfold cv13
  rw [Int.tmod_eq_emod_of_nonneg h0]
  omega
def rcv (m : List Nat) (row : List (Bool × Int × List Int × List Int)) (i : Nat) : Nat × List Nat :=
  (cv13 (row.getD i (false, 0, [], [])).2.1, partl m (row.getD i (false, 0, [], [])).2.2.1 (cv13 (row.getD i (false, 0, [], [])).2.1))
theorem bump_cnt (rs : List (Nat × List Nat)) (v : Nat) (p : List Nat) : bump (fun i => cnt i rs) v = fun i => cnt i ((v, p) :: rs) := by
  funext i
  unfold bump
  simp only [cnt]
  by_cases h : i = v
  · subst h
    rw [if_pos rfl, if_pos rfl]
  · rw [if_neg h, if_neg (fun e => h e.symm), Nat.add_zero]
theorem cnt_le (v : Nat) : ∀ rs : List (Nat × List Nat), cnt v rs ≤ rs.length
  | [] => Nat.le_refl _
  | (u, p) :: rs => by
    have := cnt_le v rs
    simp only [cnt, List.length_cons]
    split <;> omega
theorem tot_perm (j : Nat) {a b : List (Nat × List Nat)} (h : a.Perm b) : tot j a = tot j b := by
  induction h with
  | nil => rfl
  | cons x _ ih => obtain ⟨v, p⟩ := x; simp only [tot, ih]
  | swap x y l => obtain ⟨v, p⟩ := x; obtain ⟨u, q⟩ := y; simp only [tot]; omega
  | trans _ _ h1 h2 => exact h1.trans h2
theorem cnt_perm (v : Nat) {a b : List (Nat × List Nat)} (h : a.Perm b) : cnt v a = cnt v b := by
  induction h with
  | nil => rfl
  | cons x _ ih => obtain ⟨u, p⟩ := x; simp only [cnt, ih]
  | swap x y l => obtain ⟨u, p⟩ := x; obtain ⟨u', q⟩ := y; simp only [cnt]; omega
  | trans _ _ h1 h2 => exact h1.trans h2
theorem softs_perm (L : Nat) {a b : List (Nat × List Nat)} (h : a.Perm b) (hl : a.length ≤ 30) (hv : ∀ q ∈ a, q.1 < 4) : softs L a = softs L b := by
  have hv2 : ∀ q ∈ b, q.1 < 4 := fun q hq => hv q (h.mem_iff.2 hq)
  apply List.ext_getElem (by rw [softs_len, softs_len])
  intro j h1 h2
  rw [softs_len] at h1
  have e1 := softs_get L a hl hv j h1
  have e2 := softs_get L b (by rw [← h.length_eq]; exact hl) hv2 j h1
  rw [List.getD_eq_getElem?_getD, List.getElem?_eq_getElem (by rw [softs_len]; exact h1), Option.getD_some] at e1 e2
  rw [e1, e2, tot_perm j h]
theorem Chg.of_part {B : Nat} {w w' : World} (h : Below B w w') : Chg (fun k => B ≤ k) w w' := ⟨h.os, h.tape, h.output, h.size, fun k _ hn => h.block k (by omega)⟩
/-- The versions so far, the last one first. -/
def rsq (m : List Nat) (row : List (Bool × Int × List Int × List Int)) : Nat → List (Nat × List Nat)
  | 0 => []
  | k + 1 => rcv m row k :: rsq m row k
theorem rsq_len (m : List Nat) (row : List (Bool × Int × List Int × List Int)) : ∀ k, (rsq m row k).length = k
  | 0 => rfl
  | k + 1 => by unfold rsq; rw [List.length_cons, rsq_len m row k]
theorem rsq_lt (m : List Nat) (row : List (Bool × Int × List Int × List Int)) : ∀ k, ∀ q ∈ rsq m row k, q.1 < 4
  | 0, q, h => by simp [rsq] at h
  | k + 1, q, h => by
    unfold rsq at h
    rcases List.mem_cons.1 h with rfl | h
    · exact cv13_lt _
    · exact rsq_lt m row k q h
theorem rsq_perm (m : List Nat) (row : List (Bool × Int × List Int × List Int)) : ∀ k, (rsq m row k).Perm ((List.range k).map (rcv m row))
  | 0 => .nil
  | k + 1 => by
    rw [List.range_succ, List.map_append]
    unfold rsq
    exact ((rsq_perm m row k).cons _).trans (List.perm_append_singleton _ _).symm
end Go.Proofs.YticiilolmkbncaaDoor.Vit
