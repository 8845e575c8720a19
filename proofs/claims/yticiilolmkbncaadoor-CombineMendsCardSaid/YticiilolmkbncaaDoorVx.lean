/- The law ViterbiFew: of all numbers, for up to seven bits, the best of all lists is told, one by one. Each theorem says its own conditions. -/
import Derived.Test.YticiilolmkbncaaDoorVw
namespace Go.Proofs.YticiilolmkbncaaDoor.Vit
open Go.RowKit Go.Proofs.YticiilolmkbncaaDoorW.PrintWords Go.Proofs.YticiilolmkbncaaDoorW.PrintLast Go.Proofs.YticiilolmkbncaaDoorW.PrintMore Go.Proofs.YticiilolmkbncaaDoor.Mem
attribute [local go_sem] max2_int min2_int max_two min_two max_three min_three max_four min_four   -- for this text's walks alone
set_option linter.unusedVariables false
set_option linter.unusedSimpArgs false

set_option maxHeartbeats 6400000 in
set_option maxRecDepth 100000 in
theorem few_any (a0 : Int) (A : Option Addr) (n0 c : Nat) (xs : List Int) (w : World) (hC : (Kd.int .i64).C w A n0 xs) (hc : n0 ≤ c) (hn : n0 ≤ 140737488355327) (ht : Taps w) :
    Calls Tryd.prog 3 #[.int .i64 a0, .slice A n0 c] w fun e w' => e = .returned (.bool true) ∧ Below w.heap.size w w' := by
  have HT := Aside0.mk (And.intro ht hC)
  clear ht hC
  have hm0 : 0 ≤ (IntKind.u64.wrap a0).tmod 8 ∧ (IntKind.u64.wrap a0).tmod 8 < 8 := by
    have h0 : 0 ≤ IntKind.u64.wrap a0 := by have := IntKind.wrap_u64 a0; omega
    rw [Int.tmod_eq_emod_of_nonneg h0]
    omega
  obtain ⟨L, hr⟩ : ∃ L : Nat, (IntKind.u64.wrap a0).tmod 8 = (L : Int) := ⟨((IntKind.u64.wrap a0).tmod 8).toNat, by omega⟩
  have hL8 : L < 8 := by omega
  have f1 : wrap64 (L : Int) = (L : Int) := by unfold wrap64; omega
  clear hm0
  obtain ⟨K, hKl⟩ : ∃ K, 4 * (L + 6) = K := ⟨_, rfl⟩
  have f3 : wrap64 ((L : Int) + 6) = (L : Int) + 6 := by unfold wrap64; omega
  have f4 : wrap64 (4 * ((L : Int) + 6)) = (K : Int) := by unfold wrap64; omega
  have f5 : 4 * ((L : Int) + 6) = (K : Int) := by omega
  obtain ⟨Z, hZ⟩ : ∃ Z, madeCells #[Value.int .i64 0] K = Z := ⟨_, rfl⟩
  have hmk := make_int K (by omega)
  rw [hZ] at hmk
  have hRz := made_R (k := .i64) (e := 3) (W := w) (L := K) (by omega) hZ w.heap.size (Nat.le_refl _)
  obtain ⟨Y, hY⟩ : ∃ Y, padTo xs K = Y := ⟨_, rfl⟩
  have hYl : Y.length = K := by rw [← hY, padTo_len]
  have hYin : ∀ y ∈ Y, -31 ≤ y ∧ y ≤ 31 := fun y hy => padTo_in (by rw [hY]; exact hy)
  have HK := Aside0.mk (And.intro hL8 (And.intro hKl (And.intro hL8 (And.intro hRz (And.intro hY (And.intro hYl hYin))))))
  clear hZ hRz hY hYl hYin
  have hK184 : K ≤ 184 := by omega
  clear hKl
  go_enter Tryd.func3, Tryd.ntmps3
  go_upto_region 3 with fail
  have hfew8 := Few8_any xs A n0 c K (w.alloc (.cells Z 3)) (Kd.C_alloc HT.out.2 _) hc hn (by omega)
  have HF8 := Aside0.mk hfew8
  clear hfew8
  go_upto_region 4 with (go_at_call 13; refine HF8.out.mono ?_; rintro e w2 ⟨v2, rfl, hR2, hB2⟩; have H2 := Aside0.mk (And.intro hR2 hB2); clear hR2 hB2)
  obtain ⟨A2, c2, e2, hc2, hC2⟩ := Kd.R_reads H2.out.1
  subst e2
  obtain ⟨F, hF⟩ : ∃ F, (few8 xs K).length = F := ⟨_, rfl⟩
  rw [hF] at hc2 hC2 ⊢
  have HF2 := Aside0.mk (And.intro hF hC2)
  clear hF hC2
  have hsz2 : w.heap.size + 1 ≤ w2.heap.size := by have := H2.out.2.size; simpa using this
  have HS2 := Aside0.mk hsz2
  clear hsz2
  refine wp_region_lit ?_
  refine wpList_plain rfl (fun _ hK => ?_)
  go_simp
  refine hK _ _ ?_
  clear hK
  refine wpList_plain rfl (fun _ hK => ?_)
  go_simp
  refine hK _ _ ?_
  clear hK
  refine Kd.R_copy (enc := Value.int .i64) (h1 := fun _ => rfl) 0 (w0 := w) w.heap.size rfl (.tmp 23) (.tmp 24) 22 22 3 rfl Tryd.underlying22 size3 (.slice (some ⟨w.heap.size, 0, none⟩) K K) (List.replicate K 0) (few8 xs K) A2 F c2 (fun _ => True) rfl rfl (Kd.R_below HK.out.2.2.2.1 H2.out.2) HF2.out.2 ((below_alloc (Below.refl _ _) _).trans (H2.out.2.mono (by simp))) (by have := HS2.out; omega) ?_
  intro w3 ho hb hg
  have H3 := Aside0.mk (And.intro ho hb)
  clear ho hb hg
  refine wpList_nil ?_
  have hYl := HK.out.2.2.2.2.2.1
  have hYR : (Kd.int .i64).R 3 w3 w.heap.size (fun _ => True) (.slice (some ⟨w.heap.size, 0, none⟩) K K) Y := by
    have h := H3.out.1
    rw [List.length_replicate] at h
    rw [← HK.out.2.2.2.2.1]
    unfold padTo
    rw [HF2.out.1]
    exact h
  obtain ⟨A5, c5, e5, hc5, hC5⟩ := Kd.R_reads hYR
  rw [hYl] at e5 hc5 hC5
  injection e5 with e6 e7 e8
  subst e6 e8
  have hB3 : Below w.heap.size w w3 := H3.out.2
  have hdec := Decode_any Y (some ⟨w.heap.size, 0, none⟩) K w3 (by rw [hYl]; exact hC5) (by omega) (by omega) (HT.out.1.below hB3)
  have hbr := fun W (hW : (Kd.int .i64).C W (some ⟨w.heap.size, 0, none⟩) K Y) => Brute_any Y L HK.out.1 (by rw [hYl]; exact HK.out.2.1.symm) HK.out.2.2.2.2.2.2 (some ⟨w.heap.size, 0, none⟩) K W (by rw [hYl]; exact hW) (by omega)
  have hD : decOf Y = (ints (bestL Y L), bestS Y L, 0) := decOf_is (n := L) (by rw [hYl]; exact HK.out.2.1.symm) (by omega) HK.out.2.2.2.2.2.2
  rw [hYl] at hbr
  rw [hD, hYl] at hdec
  obtain ⟨S0, hS0⟩ : ∃ S0, bestS Y L = S0 := ⟨_, rfl⟩
  obtain ⟨b0, hb0⟩ : ∃ b0, bestL Y L = b0 := ⟨_, rfl⟩
  have hb0l : b0.length = L := by rw [← hb0]; exact bw_len _ _ _ _ _ _
  rw [hS0, hb0] at hbr hdec
  have HD := Aside0.mk (And.intro hdec (And.intro hB3 (And.intro hC5 (And.intro hbr hb0l))))
  clear hdec hB3 hbr hS0 hb0 hb0l hD hYR hC5 hYl e7
  go_wp2_with fail
  refine HD.out.1.mono ?_
  rintro e w4 ⟨v4, rfl, hR4, hB4⟩
  obtain ⟨A4, c4, e4, hc4, hC4⟩ := Kd.R_reads hR4
  replace e4 : v4 = .slice A4 L c4 := by rw [e4, ints_len, HD.out.2.2.2.2]
  replace hC4 : (Kd.int .u8).C w4 A4 L (ints b0) := by rw [ints_len, HD.out.2.2.2.2] at hC4; exact hC4
  subst e4
  have hB4w := HD.out.2.1.trans (hB4.mono HD.out.2.1.size)
  have H4 := Aside0.mk (And.intro hC4 (And.intro hB4 hB4w))
  clear hR4 hc4 hC4 hB4 hB4w
  go_wp2_with fail
  refine (HD.out.2.2.2.1 w4 (Kd.C_below HD.out.2.2.1 H4.out.2.1)).mono ?_
  rintro e w5 ⟨A6, c6, rfl, hC6, hB5⟩
  have hB5w := H4.out.2.2.trans (hB5.mono H4.out.2.2.size)
  obtain ⟨S, hS⟩ : ∃ S, strOfNums (ints b0) = S := ⟨_, rfl⟩
  have HDS := Aside0.mk (And.intro (decodes_any w5 (HT.out.1.below hB5w)) (And.intro hB5w (And.intro (Kd.C_below H4.out.1 hB5) (And.intro hC6 hS))))
  clear hB5w hB5 hC6 hS
  go_wp2_with (first | (go_at_call 16; refine HDS.out.1.mono ?_; rintro e w9 ⟨rfl, hB9⟩; have HB9 := Aside0.mk hB9; have k1 : (convert 25 9 (.slice A4 L c4)).run Tryd.prog w9 = .ok (.string S) w9 := (by rw [← HDS.out.2.2.2.2]; exact Kd.C_string Tryd.underlying25 Tryd.underlying5 Tryd.underlying9 (Kd.C_below HDS.out.2.2.1 hB9)); have k2 : (convert 25 9 (.slice A6 L c6)).run Tryd.prog w9 = .ok (.string S) w9 := (by rw [← HDS.out.2.2.2.2]; exact Kd.C_string Tryd.underlying25 Tryd.underlying5 Tryd.underlying9 (Kd.C_below HDS.out.2.2.2.1 hB9)); clear hB9))
  go_ret
  exact ⟨rfl, HDS.out.2.1.trans (HB9.out.mono HDS.out.2.1.size)⟩
end Go.Proofs.YticiilolmkbncaaDoor.Vit
