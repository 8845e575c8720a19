/- Contracts of the decoder's guard (a number out of bounds?) : each theorem says its own conditions. -/
import Derived.Test.YticiilolmkbncaaDoorVh
import Derived.Shelf.Abstract
namespace Go.Proofs.YticiilolmkbncaaDoor.Vit
open Go.RowKit Go.Proofs.YticiilolmkbncaaDoorW.PrintWords Go.Proofs.YticiilolmkbncaaDoorW.PrintLast Go.Proofs.YticiilolmkbncaaDoorW.PrintMore Go.Proofs.YticiilolmkbncaaDoor.Mem
attribute [local go_sem] max2_int min2_int max_two min_two max_three min_three max_four min_four   -- for this text's walks alone
set_option linter.unusedVariables false
set_option linter.unusedSimpArgs false

/-- A number within the bounds. -/
def clip (x : Int) : Int := max (min x 31) (-31)
theorem Clip_any (x : Int) (w : World) : Calls Tryd.prog 44 #[.int .i64 x] w fun e w' => e = .returned (.int .i64 (clip x)) ∧ ∃ q, w' = w.drewN q := by
  go_enter Tryd.func44, Tryd.ntmps44
  go_wp2_with fail
  all_goals (go_ret; refine ⟨?_, 0, rfl⟩; refine congrArg (fun i => Ending.returned (Value.int .i64 i)) ?_; unfold clip; split at * <;> omega)
theorem nclip_any (x : Int) (w : World) : Calls Tryd.prog 43 #[.int .i64 x] w fun e w' => e = .returned (.bool (x != clip x)) ∧ ∃ q, w' = w.drewN q := by
  go_enter Tryd.func43, Tryd.ntmps43
  go_wp2_with (go_at_call 44; refine (Clip_any x _).mono ?_; rintro e w1 ⟨rfl, q1, rfl⟩)
  go_ret
  exact ⟨rfl, _, rfl⟩
theorem IndexFunc_any (xs : List Int) (A : Option Addr) (c : Nat) (w : World) (hC : (Kd.int .i64).C w A xs.length xs) (hc : xs.length ≤ c) (hn : xs.length ≤ 140737488355328) :
    Calls Tryd.prog 61 #[.slice A xs.length c, .func (.func 43) #[] #[]] w fun e w' =>
      (∃ i : Int, e = .returned (.int .i64 i) ∧ (0 ≤ i ↔ ∃ x ∈ xs, x ≠ clip x)) ∧ ∃ q, w' = w.drewN q := by
  have HC := Aside0.mk hC
  clear hC
  go_enter Tryd.func61, Tryd.ntmps61
  go_wp2_with fail
  go_loopw [5, 8] (fun _ i wr => ∃ t : Nat, i = .int .i64 t ∧ t ≤ xs.length ∧ (∃ q, wr = w.drewN q) ∧ Aside0 (∀ x, x ∈ xs.take t → x = clip x)) (fun _ i _ => xs.length - (intOf i).toNat)
  case atStart =>
    exact ⟨0, rfl, Nat.zero_le _, ⟨0, rfl⟩, ⟨fun x hx => absurd hx (by simp)⟩⟩
  case round =>
    obtain ⟨t, rfl, ht, ⟨q, rfl⟩, hR⟩ := hrel
    by_cases htn : t < xs.length
    · have hlt : (t : Int) < (xs.length : Int) := by omega
      obtain ⟨ad, hA, hx⟩ := Kd.at_int HC.out (t : Int) (by omega) hlt
      cases hA
      obtain ⟨x, hrd⟩ : ∃ x, rd xs t = x := ⟨_, rfl⟩
      rw [hrd] at hx
      have hge : xs[t]? = some x := by
        rw [← hrd]
        simp [rd, List.getD, List.getElem?_eq_getElem htn]
      have HG := Aside0.mk hge
      have hx : ∀ q, (w.drewN q).cell? (ad.add t) = some (.int .i64 x) := fun _ => hx
      clear hrd hge
      by_cases hq : x = clip x
      · have hb : (x != clip x) = false := by simp [← hq]
        have HQ := Aside0.mk hq
        have hcall := fun W => nclip_any x W
        rw [hb] at hcall
        clear hq hb
        go_wp2_with (go_at_call 43; refine (hcall _).mono ?_; rintro e w1 ⟨rfl, q1, rfl⟩)
        refine ⟨⟨t + 1, by go_num, by omega, ⟨_, rfl⟩, ⟨?_⟩⟩, by simp only [intOf]; omega⟩
        intro y hy
        rw [List.take_add_one, HG.out] at hy
        rcases List.mem_append.1 hy with h | h
        · exact hR.out y h
        · have : y = x := by simpa using h
          rw [this]
          exact HQ.out
      · have hb : (x != clip x) = true := by simpa using hq
        have HQ := Aside0.mk hq
        have hcall := fun W => nclip_any x W
        rw [hb] at hcall
        clear hq hb
        go_wp2_with (go_at_call 43; refine (hcall _).mono ?_; rintro e w1 ⟨rfl, q1, rfl⟩)
        go_ret
        exact ⟨⟨_, rfl, fun _ => ⟨x, List.mem_of_getElem? HG.out, HQ.out⟩, fun _ => by omega⟩, _, rfl⟩
    · have hlt : ¬ (t : Int) < (xs.length : Int) := by omega
      have hte : t = xs.length := by omega
      subst hte
      go_wp2_with fail
      go_ret
      refine ⟨⟨_, rfl, fun h => by omega, fun ⟨x, hx, hne⟩ => absurd (hR.out x (by rw [List.take_length]; exact hx)) hne⟩, q, rfl⟩
theorem ContainsFunc_any (xs : List Int) (A : Option Addr) (c : Nat) (w : World) (hC : (Kd.int .i64).C w A xs.length xs) (hc : xs.length ≤ c) (hn : xs.length ≤ 140737488355328) :
    Calls Tryd.prog 42 #[.slice A xs.length c, .func (.func 43) #[] #[]] w fun e w' =>
      e = .returned (.bool (decide (∃ x ∈ xs, x ≠ clip x))) ∧ ∃ q, w' = w.drewN q := by
  have HI := Aside0.mk (fun W (hW : (Kd.int .i64).C W A xs.length xs) => IndexFunc_any xs A c W hW hc hn)
  have HC := Aside0.mk hC
  clear hC hc hn
  go_enter Tryd.func42, Tryd.ntmps42
  go_wp2_with (go_at_call 61; refine (HI.out _ (by first | exact HC.out | exact Kd.C_drew HC.out | exact Kd.C_drewN HC.out _)).mono ?_; rintro e w1 ⟨⟨i, rfl, hi⟩, q1, rfl⟩; have HX := Aside0.mk hi; clear hi)
  go_ret
  refine ⟨?_, _, rfl⟩
  refine congrArg (fun b => Ending.returned (Value.bool b)) ?_
  exact decide_eq_decide.2 HX.out
end Go.Proofs.YticiilolmkbncaaDoor.Vit
