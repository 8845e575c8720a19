/- The law ViterbiBest: no list scores more than the one that is told. Each theorem says its own conditions. -/
import Derived.Test.YticiilolmkbncaaDoorVr
import Derived.Test.YticiilolmkbncaaDoorVp
namespace Go.Proofs.YticiilolmkbncaaDoor.Vit
open Go.RowKit Go.Proofs.YticiilolmkbncaaDoorW.PrintWords Go.Proofs.YticiilolmkbncaaDoorW.PrintLast Go.Proofs.YticiilolmkbncaaDoorW.PrintMore Go.Proofs.YticiilolmkbncaaDoor.Mem
attribute [local go_sem] max2_int min2_int max_two min_two max_three min_three max_four min_four   -- for this text's walks alone
set_option linter.unusedVariables false
set_option linter.unusedSimpArgs false

theorem size3 : (Tryd.prog.info? 3).map (·.size) = some 1 := by kernel_rfl
/-- Numbers, made as long as need be by noughts. -/
def padTo (xs : List Int) (n : Nat) : List Int := (few8 xs n).take (min (few8 xs n).length n) ++ (List.replicate n 0).drop (min (few8 xs n).length n)
theorem padTo_len (xs : List Int) (n : Nat) : (padTo xs n).length = n := by
  unfold padTo
  rw [List.length_append, List.length_take, List.length_drop, List.length_replicate]
  omega
theorem padTo_in {xs : List Int} {n : Nat} {x : Int} (h : x ∈ padTo xs n) : -31 ≤ x ∧ x ≤ 31 := by
  rcases List.mem_append.1 h with h | h
  · exact few8_in (List.mem_of_mem_take h)
  · have := List.eq_of_mem_replicate (List.mem_of_mem_drop h)
    omega
theorem made_R {k : IntKind} {W : World} {e L : Nat} {Z : Array Value} (hL : L ≤ 1099511627776) (hZ : madeCells #[Value.int k 0] L = Z) (base : Nat) (hb : base ≤ W.heap.size) :
    (Kd.int k).R e (W.alloc (.cells Z e)) base (fun _ => True) (.slice (some ⟨W.heap.size, 0, none⟩) L L) (List.replicate L 0) := by
  rw [← hZ]
  exact Kd.R_of_own (enc := Value.int k) (h1 := fun _ => rfl) (own_made' W base e k L hb (by omega)) (fun _ _ => trivial)
/-- No list scores more than what is told. -/
theorem told_most {Y : List Int} {m : List Nat} {L : Nat} (hm : m.length = L) (hL : L ≤ 4096) (hb : Bits m) (hY : Y.length = 4 * (L + 6)) (hin : ∀ y ∈ Y, -31 ≤ y ∧ y ≤ 31) : sc Y (code m) ≤ cv (fun j => Y.getD j 0) L (L + 6) 0 0 := by
  have hf : ∀ j, -1000 ≤ (fun j => Y.getD j 0) j ∧ (fun j => Y.getD j 0) j ≤ 1000 := fun j => by
    show -1000 ≤ Y.getD j 0 ∧ Y.getD j 0 ≤ 1000
    by_cases hj : j < Y.length
    · have h1 : Y.getD j 0 ∈ Y := by rw [List.getD_eq_getElem?_getD, List.getElem?_eq_getElem hj]; exact List.getElem_mem hj
      have := hin _ h1
      omega
    · rw [List.getD_eq_getElem?_getD, List.getElem?_eq_none (by omega)]
      exact ⟨by decide, by decide⟩
  have h1 := (cv_best hf hL L 0 0 (by omega) (by omega)).1 m hm hb
  have h2 := ps_sc (fun j => Y.getD j 0) (m ++ zs 6) 0 0 Y (by rw [hY, List.length_append, zs_len, hm]) (fun j => Or.inl (by rw [Nat.mul_zero, Nat.zero_add]))
  rw [h2] at h1
  exact h1

set_option maxHeartbeats 6400000 in
set_option maxRecDepth 100000 in
theorem bestlaw_any (A B : Option Addr) (n0 c m0 d : Nat) (xs os : List Int) (w : World) (hC : (Kd.int .i64).C w A n0 xs) (hc : n0 ≤ c) (hn : n0 ≤ 140737488355327) (hD : (Kd.int .u8).C w B m0 os) (hx : ∀ x ∈ os, 0 ≤ x) (hd : m0 ≤ d) (hm : m0 ≤ 140737488355327) (ht : Taps w) :
    Calls Tryd.prog 5 #[.slice A n0 c, .slice B m0 d] w fun e w' => e = .returned (.bool true) ∧ Below w.heap.size w w' := by
  have HT := Aside0.mk (And.intro ht hC)
  have hfew := Few1_any os hx B m0 d 40 w hD hd hm (by decide)
  obtain ⟨m, hmm⟩ : ∃ m, few1 os 40 = m := ⟨_, rfl⟩
  have hmb : Bits m := by rw [← hmm]; exact few1_bits _ _
  have hml : m.length ≤ 40 := by rw [← hmm, few1_len]; omega
  rw [hmm] at hfew
  have HM := Aside0.mk (And.intro hmb hml)
  have HF := Aside0.mk hfew
  clear ht hD hC hx hmb hml hfew hmm hd hm
  go_enter Tryd.func5, Tryd.ntmps5
  go_upto_region 2 with (go_at_call 21; refine HF.out.mono ?_; rintro e w1 ⟨v1, rfl, hR1, hB1⟩; have H1 := Aside0.mk (And.intro hR1 hB1); clear hR1 hB1)
  obtain ⟨A1, c1, e1, hc1, hC1⟩ := Kd.R_reads H1.out.1
  rw [ints_len] at e1 hc1 hC1
  subst e1
  obtain ⟨L, hL⟩ : ∃ L, m.length = L := ⟨_, rfl⟩
  obtain ⟨K, hKl⟩ : ∃ K, 4 * (L + 6) = K := ⟨_, rfl⟩
  rw [hL] at hC1 hc1 ⊢
  have hL40 : L ≤ 40 := by have := HM.out.2; omega
  have f3 : wrap64 ((L : Int) + 6) = (L : Int) + 6 := by unfold wrap64; omega
  have f4 : wrap64 (4 * ((L : Int) + 6)) = (K : Int) := by unfold wrap64; omega
  have f5 : 4 * ((L : Int) + 6) = (K : Int) := by omega
  obtain ⟨Z, hZ⟩ : ∃ Z, madeCells #[Value.int .i64 0] K = Z := ⟨_, rfl⟩
  have hmk := make_int K (by omega)
  rw [hZ] at hmk
  have hRz := made_R (k := .i64) (e := 3) (W := w1) (L := K) (by omega) hZ w1.heap.size (Nat.le_refl _)
  obtain ⟨Y, hY⟩ : ∃ Y, padTo xs K = Y := ⟨_, rfl⟩
  have hYl : Y.length = K := by rw [← hY, padTo_len]
  have hYin : ∀ y ∈ Y, -31 ≤ y ∧ y ≤ 31 := fun y hy => padTo_in (by rw [hY]; exact hy)
  have HK := Aside0.mk (And.intro hL (And.intro hKl (And.intro hC1 (And.intro hRz (And.intro hY (And.intro hYl hYin))))))
  clear hL hC1 hZ hRz hY hYl hYin
  have hKl' := Aside0.mk hKl
  have hK184 : K ≤ 184 := by omega
  clear hKl
  go_upto_region 3 with fail
  have hfew8 := Few8_any xs A n0 c K (w1.alloc (.cells Z 3)) (Kd.C_alloc (Kd.C_below HT.out.2 H1.out.2) _) hc hn (by omega)
  have HF8 := Aside0.mk hfew8
  clear hfew8
  go_upto_region 4 with (go_at_call 13; refine HF8.out.mono ?_; rintro e w2 ⟨v2, rfl, hR2, hB2⟩; have H2 := Aside0.mk (And.intro hR2 hB2); clear hR2 hB2)
  obtain ⟨A2, c2, e2, hc2, hC2⟩ := Kd.R_reads H2.out.1
  subst e2
  obtain ⟨F, hF⟩ : ∃ F, (few8 xs K).length = F := ⟨_, rfl⟩
  rw [hF] at hc2 hC2 ⊢
  have HF2 := Aside0.mk (And.intro hF hC2)
  clear hF hC2
  have hsz2 : w1.heap.size + 1 ≤ w2.heap.size := by have := H2.out.2.size; simpa using this
  have HS2 := Aside0.mk hsz2
  clear hsz2
  refine wp_region_lit ?_
  refine wpList_plain rfl (fun _ hK => ?_)
  go_simp
  refine hK _ _ ?_
  clear hK
  refine wpList_plain rfl (fun _ hK => ?_)
  go_simp
  refine hK _ _ ?_
  clear hK
  refine Kd.R_copy (enc := Value.int .i64) (h1 := fun _ => rfl) 0 (w0 := w1) w1.heap.size rfl (.tmp 20) (.tmp 21) 22 22 3 rfl Tryd.underlying22 size3 (.slice (some ⟨w1.heap.size, 0, none⟩) K K) (List.replicate K 0) (few8 xs K) A2 F c2 (fun _ => True) rfl rfl (Kd.R_below HK.out.2.2.2.1 H2.out.2) HF2.out.2 ((below_alloc (Below.refl _ _) _).trans (H2.out.2.mono (by simp))) (by have := HS2.out; omega) ?_
  intro w3 ho hb hg
  have H3 := Aside0.mk (And.intro ho hb)
  clear ho hb hg
  refine wpList_nil ?_
  have hYl := HK.out.2.2.2.2.2.1
  have hYR : (Kd.int .i64).R 3 w3 w1.heap.size (fun _ => True) (.slice (some ⟨w1.heap.size, 0, none⟩) K K) Y := by
    have h := H3.out.1
    rw [List.length_replicate] at h
    rw [← HK.out.2.2.2.2.1]
    unfold padTo
    rw [HF2.out.1]
    exact h
  obtain ⟨A5, c5, e5, hc5, hC5⟩ := Kd.R_reads hYR
  rw [hYl] at e5 hc5 hC5
  injection e5 with e6 e7 e8
  subst e6 e8
  have hB3 : Below w.heap.size w w3 := H1.out.2.trans (H3.out.2.mono H1.out.2.size)
  have hdec := Decode_any Y (some ⟨w1.heap.size, 0, none⟩) K w3 (by rw [hYl]; exact hC5) (by omega) (by omega) (HT.out.1.below hB3)
  obtain ⟨C0, hC0⟩ : ∃ C0, cv (fun j => Y.getD j 0) L (L + 6) 0 0 = C0 := ⟨_, rfl⟩
  obtain ⟨b0, hb0⟩ : ∃ b0, ints (bw (fun j => Y.getD j 0) L (L + 6) L 0 0) = b0 := ⟨_, rfl⟩
  rw [decOf_is (n := L) (by rw [hYl]; exact HK.out.2.1.symm) (by omega) HK.out.2.2.2.2.2.2, hC0, hb0, hYl] at hdec
  have hmost := told_most (Y := Y) HK.out.1 (by omega) HM.out.1 (by rw [hYl]; exact HK.out.2.1.symm) HK.out.2.2.2.2.2.2
  rw [hC0] at hmost
  have HD := Aside0.mk (And.intro hdec (And.intro hB3 (And.intro hC5 hmost)))
  clear hdec hB3 hC0 hb0 hYR hC5 hYl hmost e7
  go_wp2_with fail
  refine HD.out.1.mono ?_
  rintro e w4 ⟨v4, rfl, hR4, hB4⟩
  have hB4w := HD.out.2.1.trans (hB4.mono HD.out.2.1.size)
  have HDS := Aside0.mk (And.intro (decodes_any w4 (HT.out.1.below hB4w)) (And.intro hB4w hB4))
  obtain ⟨M, hM⟩ : ∃ M, sc Y (code m) = M := ⟨_, rfl⟩
  have hM1 : M ≤ C0 := by rw [← hM]; exact HD.out.2.2.2
  have HMM := Aside0.mk hM
  clear hR4 hB4 hB4w hM
  have hcode := fun W hW => Code_any m HM.out.1 A1 c1 W hW (by rw [HK.out.1]; exact hc1) (by rw [HK.out.1]; omega)
  rw [HK.out.1] at hcode
  have HCO := Aside0.mk hcode
  have hscore := fun (W : World) (B : Option Addr) (d : Nat) h1 h2 hd => Score_any Y (code m) (fun y hy => by have := HK.out.2.2.2.2.2.2 y hy; omega) (some ⟨w1.heap.size, 0, none⟩) B K d K W HK.out.2.2.2.2.2.1 (by rw [code_len, HK.out.1, HK.out.2.1]) (by omega) h1 h2 (Nat.le_refl _) hd
  rw [HMM.out] at hscore
  have HSC := Aside0.mk hscore
  clear hcode hscore
  go_wp2_with (first | (go_at_call 16; refine HDS.out.1.mono ?_; rintro e w9 ⟨rfl, hB9⟩; have HB9 := Aside0.mk hB9; clear hB9) | (go_at_call 20; (refine (HCO.out _ (Kd.C_below (Kd.C_below (Kd.C_below HK.out.2.2.1 H3.out.2) HDS.out.2.2) HB9.out)).mono ?_; rintro e w10 ⟨v10, rfl, hR10, hB10⟩; obtain ⟨A6, c6, e6, hc6, hC6⟩ := Kd.R_reads hR10; rw [ints_len, code_len, HK.out.1, HK.out.2.1] at e6 hc6 hC6; subst e6; have H10 := Aside0.mk (And.intro hc6 (And.intro hC6 hB10)); clear hR10 hc6 hC6 hB10)) | (go_at_call 19; (refine (HSC.out _ A6 c6 (Kd.C_below (Kd.C_below (Kd.C_below HD.out.2.2.1 HDS.out.2.2) HB9.out) H10.out.2.2) H10.out.2.1 H10.out.1).mono ?_; rintro e w11 ⟨rfl, rfl⟩)))
  go_ret
  refine ⟨?_, ?_⟩
  · refine congrArg (fun b => Ending.returned (Value.bool b)) ?_
    first | rfl | exact decide_eq_true hM1
  · have hB9w := HDS.out.2.1.trans (HB9.out.mono HDS.out.2.1.size)
    exact hB9w.trans (H10.out.2.2.mono hB9w.size)
end Go.Proofs.YticiilolmkbncaaDoor.Vit
