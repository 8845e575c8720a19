/- Proved: in every row of versions, also raw ones, the numbers and counts are told, and what is decoded; of none nothing is. Conditions: the taps hold what the program's text lays (the card ties them). -/
import Derived.Test.YticiilolmkbncaaDoorRows
import Derived.Test.YticiilolmkbncaaDoorTie
import Derived.Test.YticiilolmkbncaaDoorCards
import Derived.Test.YticiilolmkbncaaDoorWl
import Derived.Test.YticiilolmkbncaaDoorVt
import Derived.Test.YticiilolmkbncaaDoorOpen
import Derived.Test.YticiilolmkbncaaDoorOpenc
import Derived.WalkKit
import Derived.ProofKit
import Derived.OpenShut
import Derived.ShutString
import Derived.ChangeOld
import Derived.Below
import Derived.SizedLaws
import Derived.LaidMore
import Derived.Lay
import Derived.SevenTiedAt
import Derived.Stop.Joined
namespace Go.Proofs.YticiilolmkbncaaDoor.combineAdds
open Go.ChangeShapes Go.WideShapes Go.ChangeAt Go.RowKit
open Go.ChangeMaps (open_string shut_string)
open Go.Proofs.YticiilolmkbncaaDoor Go.Proofs.YticiilolmkbncaaDoorW.PrintWords
set_option linter.unusedVariables false
theorem own : ownKnob Tryd.prog.godebug = none := by kernel_rfl
theorem laidOut : laidOutB Tryd.prog = true := by kernel_rfl
set_option maxRecDepth 100000 in
theorem lifted (os : Os) (started : os.Started) (H : Type) (enc : TypeId × Value → H) :
    ReturnsInHanded {} Tryd.checked os 12 .any (fun w args => (Rows.combineAddsSpec.pre enc Tryd.prog Tryd.f12 Rows.combineAddsRow.domain false w args ∧ laidMetH Tryd.prog [("shuttle/conv.taps", Rows.laid_shuttle_conv_taps)] w) ∧ sizedMet enc Tryd.prog Tryd.f12 (OpenSpec.ofChange Rows.combineAddsSpec) false w args) (Rows.combineAddsSpec.post enc Tryd.prog Tryd.f12 false true false false) := by
  refine returnsInHanded_of_change_and (C := Tryd.checked) (X := fun w _ => laidMetH Tryd.prog [("shuttle/conv.taps", Rows.laid_shuttle_conv_taps)] w) (fun _ _ _ hh h => h.of_heap hh) own started (by kernel_rfl) Tryd.func12
    (ChangeSpec.witness_shaped (enc := enc) (C := Tryd.checked) (os := os) (X := fun w _ => laidMetH Tryd.prog [("shuttle/conv.taps", Rows.laid_shuttle_conv_taps)] w) false (World.laidAll Tryd.prog os [("shuttle/conv.taps", Rows.laid_shuttle_conv_taps)]) #[.int .i64 0, .slice none 0 0, .slice none 0 0] 8 (World.laidAll_os _ _ _)
      (World.shaped_of_ZipB (by kernel_rfl) (by kernel_rfl)) (by kernel_rfl) (by kernel_rfl) (by kernel_rfl)
      (by rw [MakeChecks.laidMetH_plain _ _ _ (by kernel_rfl)]; exact laidMet_laidAll _ (by kernel_rfl) (by kernel_rfl))) ?_
  intro W base args ds gs before hval0 hW hcnd hsz0 hL _
  have hsz : (DataW.weightsEach Tryd.prog (Tryd.f12.params.toList ++ Rows.combineAddsSpec.plain.varTypes Tryd.prog) (ds ++ gs)).all (· ≤ reachBytes) = true := hsz0
  have hval : ∀ (j : Nat) t v, Tryd.f12.params[j]? = some t → args[j]? = some v → Value.okWide Tryd.prog W .any base t v := hval0
  have hW' := hW
  obtain ⟨p, q, hA0, hV, rfl, hfz, hnd⟩ := hW
  have hA : DataW.TrodAll enc Tryd.prog W 0 (fun _ => true) true Tryd.f12.params.toList args.toList ds p := hA0
  rw [Tryd.params12] at hA hval hsz
  obtain ⟨v0, vs0, d0, ds0, p0, q0, hargs, rfl, rfl, h0, r0⟩ := trodAll_cons hA
  obtain ⟨v1, vs1, d1, ds1, p1, q1, rfl, rfl, rfl, h1, r1⟩ := trodAll_cons r0
  obtain ⟨v2, vs2, d2, ds2, p2, q2, rfl, rfl, rfl, h2, r2⟩ := trodAll_cons r1
  obtain ⟨rfl, rfl, rfl⟩ := trodAll_nil r2
  obtain rfl : args = #[v0, v1, v2] := by cases args; simp_all
  obtain ⟨rfl, rfl⟩ := trodVars_none hV
  obtain ⟨a0, rfl, rfl, rfl, w0⟩ := open_int Tryd.underlying3 (hval 0 3 v0 rfl rfl) h0
  obtain ⟨A1, n1, c1, rfl⟩ := okWide_slice Tryd.underlying25 (hval 1 25 v1 rfl rfl)
  have k1 := h1
  have lt1 : ∀ x ∈ p1, x.block < W.heap.size := by obtain ⟨m, hm⟩ := k1; exact DataW.trod_lt m _ _ _ hm
  obtain ⟨l1, C1, o1, hle1⟩ := Opn.slice_arg Tryd.underlying25 (by kernel_rfl) (Opn.opens_int Tryd.underlying5) h1
  have s1 : n1 * 1 ≤ 140737488351232 := Opn.sized_arg hsz (j := 1) (t := 25) rfl rfl Tryd.underlying25 (by kernel_rfl) h1
  obtain ⟨A2, n2, c2, rfl⟩ := okWide_slice Tryd.underlying43 (hval 2 43 v2 rfl rfl)
  have k2 := h2
  have lt2 : ∀ x ∈ p2, x.block < W.heap.size := by obtain ⟨m, hm⟩ := k2; exact DataW.trod_lt m _ _ _ hm
  obtain ⟨l2, C2, o2, hle2⟩ := Opn.slice_arg Tryd.underlying43 (by kernel_rfl) (Opn.opens_struct4 Tryd.underlying49 (by kernel_rfl) (by kernel_rfl) (by kernel_rfl) (by kernel_rfl) (by kernel_rfl) rfl rfl rfl rfl (Opn.opens_bool Tryd.underlying4) (Opn.opens_int Tryd.underlying3) (Opn.opens_slice Tryd.underlying22 (by kernel_rfl) (Opn.opens_int Tryd.underlying3)) (Opn.opens_slice Tryd.underlying25 (by kernel_rfl) (Opn.opens_int Tryd.underlying5))) h2
  have s2 : n2 * 64 ≤ 140737488351232 := Opn.sized_arg hsz (j := 2) (t := 43) rfl rfl Tryd.underlying43 (by kernel_rfl) h2
  clear hA0 hval0 hsz0 hsz
  refine (Vit.adds_any a0 A1 A2 n1 c1 n2 c2 l1 l2 W C1 (fun x hx => (Vit.wf_u8 (o1 x hx)).1) hle1 (by omega) C2 (by omega) (fun q hq x hx => (Vit.wf_u8 ((o2 q hq).2.2.2 x hx)).1) (Vit.taps_of_laid hL)).mono fun e W' ⟨he, bel⟩ => ?_
  subst he
  exact ⟨_, rfl, _, _, _, [], _, [], hW', trodAll_mk1 (shut_bool Tryd.underlying4 _), (trodAll_cons_mk (shut_int Tryd.underlying3 w0) (trodAll_cons_mk (Below.trod laidOut (by kernel_rfl) (of_decide_eq_true (by kernel_rfl)) k1 bel lt1) (trodAll_cons_mk (Below.trod laidOut (by kernel_rfl) (of_decide_eq_true (by kernel_rfl)) k2 bel lt2) trodAll_mk0))), rfl, bel.frame _, fun h => by cases h⟩
theorem over : Rows.combineAddsRow.holds Tryd.pinned (OpenSpec.ofChange Rows.combineAddsSpec) :=
  OpenClaim.holds_of_wide 12 Tryd.f12 rfl rfl rfl rfl rfl rfl rfl ⟨rfl, rfl, rfl, rfl, rfl⟩ rfl rfl rfl rfl rfl (by kernel_rfl) Tryd.func12 (by kernel_rfl)
    (of_decide_eq_true (by kernel_rfl)) (by unfold Func.isWrapper; first | (rw [if_pos (by decide +kernel)]; kernel_rfl) | (rw [if_neg (by decide +kernel)]; exact ⟨rfl, rfl⟩))
    (fun os started H enc _ => lifted os started H enc)
theorem proved : Rows.CombineAddsCardSaid :=
  Claim7.holds_tied_plain_at .later [] [.data] true (true, "0ebe49f741b8858a9e612b55fe0a51d4637a24e230c965be29ecb21e1a3421cc") false over (fun _ h => by cases h) (by kernel_rfl) (fun _ h => by cases h) combineAdds_row_tie rfl ⟨rfl, rfl⟩ (by kernel_rfl) rfl
    (fun f fn hf hfn => by
      obtain rfl : f = 12 := Option.some.inj ((show Tryd.prog.funcNamed "shuttle/shuttlelaw13.CombineAdds" = some 12 by kernel_rfl).symm.trans hf) |>.symm
      obtain rfl : fn = Tryd.f12 := (Option.some.inj (Tryd.func12.symm.trans hfn)).symm
      exact ⟨by kernel_rfl, fun j t ht => by
        rw [Tryd.params12] at ht
        have hm : t ∈ [3, 25, 43] := by simpa using Array.mem_of_getElem? ht
        have hall : ([3, 25, 43].all fun u => !Tryd.prog.wantsStandIn u) = true := by kernel_rfl
        exact (show Tryd.prog.wantsStandIn t = false by simpa using List.all_eq_true.1 hall t hm)⟩)
    (by kernel_rfl)
#print axioms proved
end Go.Proofs.YticiilolmkbncaaDoor.combineAdds
namespace Go.Proofs.YticiilolmkbncaaDoor
/-- The row, under a short name, for the claim. -/
theorem combineAdds_holds : Rows.CombineAddsCardSaid := combineAdds.proved
end Go.Proofs.YticiilolmkbncaaDoor
