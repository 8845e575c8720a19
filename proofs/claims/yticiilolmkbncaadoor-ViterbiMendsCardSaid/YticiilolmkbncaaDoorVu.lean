/- The law ViterbiMends: of a code of which fewer than six bits are turned the list is told. Each theorem says its own conditions. -/
import Derived.Test.YticiilolmkbncaaDoorVr
namespace Go.Proofs.YticiilolmkbncaaDoor.Vit
open Go.RowKit Go.Proofs.YticiilolmkbncaaDoorW.PrintWords Go.Proofs.YticiilolmkbncaaDoorW.PrintLast Go.Proofs.YticiilolmkbncaaDoorW.PrintMore Go.Proofs.YticiilolmkbncaaDoor.Mem
attribute [local go_sem] max2_int min2_int max_two min_two max_three min_three max_four min_four   -- for this text's walks alone
set_option linter.unusedVariables false
set_option linter.unusedSimpArgs false

theorem turnN_bits {l : List Nat} (hl : Bits l) (at_ : List Int) (n : Nat) : Bits (turnN l at_ n) := fun b hb => by
  obtain ⟨i, _, rfl⟩ := List.mem_map.1 hb
  refine turnAt_le ?_ i at_ _
  rw [List.getD_eq_getElem?_getD]
  by_cases h : i < l.length
  · rw [List.getElem?_eq_getElem h]; exact hl _ (List.getElem_mem h)
  · rw [List.getElem?_eq_none (by omega)]; exact Nat.zero_le _
theorem turnN_at (l : List Nat) (at_ : List Int) (n t : Nat) (h : t < n) : (turnN l at_ n).getD t 0 = turnAt (l.getD t 0) t at_ at_.length := by
  unfold turnN
  rw [List.getD_eq_getElem?_getD, List.getElem?_map, List.getElem?_range h]
  rfl
theorem turn_one (l : List Nat) (y : Int) (n : Nat) : ∀ t, t ≤ n → apn (turnN l [y] n) l t ≤ if y < (t : Int) then 1 else 0
  | 0, _ => by simp [apn]
  | t + 1, h => by
    have ih := turn_one l y n t (by omega)
    rw [apn, turnN_at l [y] n t (by omega)]
    have e : turnAt (l.getD t 0) t [y] [y].length = if y = (t : Int) then 1 - l.getD t 0 else l.getD t 0 := rfl
    rw [e]
    by_cases hy : y = (t : Int)
    · rw [if_neg (by omega)] at ih
      rw [if_pos (show y < ((t + 1 : Nat) : Int) by omega), if_pos hy]
      split <;> omega
    · rw [if_neg hy, if_pos rfl]
      by_cases h2 : y < (t : Int)
      · rw [if_pos h2] at ih
        rw [if_pos (show y < ((t + 1 : Nat) : Int) by omega)]
        omega
      · rw [if_neg h2] at ih
        rw [if_neg (show ¬ y < ((t + 1 : Nat) : Int) by omega)]
        omega
theorem turn_apart (l : List Nat) (y : Int) : apart (turnN l [y] l.length) l ≤ 1 := by
  have h := turn_one l y l.length l.length (Nat.le_refl _)
  have e := apn_apart (turnN l [y] l.length) l (turnN_len _ _ _)
  rw [turnN_len] at e
  rw [← e]
  split at h <;> omega

set_option maxHeartbeats 6400000 in
set_option maxRecDepth 100000 in
theorem mends_any (A B : Option Addr) (n0 c m0 d : Nat) (xs at_ : List Int) (w : World) (hC : (Kd.int .u8).C w A n0 xs) (hx : ∀ x ∈ xs, 0 ≤ x) (hc : n0 ≤ c) (hn : n0 ≤ 140737488355327) (hD : (Kd.int .i64).C w B m0 at_) (hd : m0 ≤ d) (hm : m0 ≤ 140737488355327) (ht : Taps w) :
    Calls Tryd.prog 6 #[.slice A n0 c, .slice B m0 d] w fun e w' => e = .returned (.bool true) ∧ Below w.heap.size w w' := by
  have HT := Aside0.mk (And.intro ht hD)
  have hfew := Few1_any xs hx A n0 c 40 w hC hc hn (by decide)
  obtain ⟨m, hmm⟩ : ∃ m, few1 xs 40 = m := ⟨_, rfl⟩
  have hmb : Bits m := by rw [← hmm]; exact few1_bits _ _
  have hml : m.length ≤ 40 := by rw [← hmm, few1_len]; omega
  rw [hmm] at hfew
  have HM := Aside0.mk (And.intro hmb hml)
  have HF := Aside0.mk hfew
  clear ht hD hC hx hmb hml hfew hmm hc hn
  go_enter Tryd.func6, Tryd.ntmps6
  go_upto_region 2 with (go_at_call 21; refine HF.out.mono ?_; rintro e w1 ⟨v1, rfl, hR1, hB1⟩; have H1 := Aside0.mk (And.intro hR1 hB1); clear hR1 hB1)
  obtain ⟨A1, c1, e1, hc1, hC1⟩ := Kd.R_reads H1.out.1
  rw [ints_len] at e1 hc1 hC1
  subst e1
  have hcode := Code_any m HM.out.1 A1 c1 w1 hC1 hc1 (by have := HM.out.2; omega)
  obtain ⟨K4, hK⟩ : ∃ K4, code m = K4 := ⟨_, rfl⟩
  obtain ⟨L, hL⟩ : ∃ L, m.length = L := ⟨_, rfl⟩
  obtain ⟨K, hKl⟩ : ∃ K, 4 * (L + 6) = K := ⟨_, rfl⟩
  have hK4 : K4.length = K := by rw [← hK, code_len, hL, hKl]
  have hKb : Bits K4 := by rw [← hK]; exact code_bits _
  rw [hK, hL] at hcode
  rw [hL] at hC1 hc1 ⊢
  have HC := Aside0.mk hcode
  have HK := Aside0.mk (And.intro hK (And.intro hL (And.intro hKl (And.intro hK4 (And.intro hKb hC1)))))
  clear hcode hK hL hK4 hKb hC1
  go_upto_region 3 with (go_at_call 20; refine HC.out.mono ?_; rintro e w2 ⟨v2, rfl, hR2, hB2⟩; have H2 := Aside0.mk (And.intro hR2 hB2); clear hR2 hB2)
  obtain ⟨A2, c2, e2, hc2, hC2⟩ := Kd.R_reads H2.out.1
  rw [ints_len, HK.out.2.2.2.1] at e2 hc2 hC2
  subst e2
  have HC2 := Aside0.mk hC2
  clear hC2
  have HB2 := Aside0.mk (H1.out.2.trans (H2.out.2.mono H1.out.2.size))
  have hKpos : ((K : Nat) : Int) ≠ 0 := by omega
  have hKK := Aside0.mk hKl
  have hKle : K ≤ 184 := by have := HM.out.2; have := HK.out.2.1; omega
  clear hKl
  have hwk : IntKind.u64.wrap ((K : Nat) : Int) = (K : Int) := by rw [IntKind.wrap_u64]; omega
  go_upto_block 0 with fail
  go_cut [6] (fun o wx => ∃ (Aj : Option Addr) (cj : Nat) (T : List Nat), o = .slice Aj K cj ∧ K ≤ cj ∧ T.length = K ∧ Bits T ∧ apart T K4 ≤ 5 ∧ (Kd.int .u8).C wx Aj K (ints T) ∧ Below w2.heap.size w2 wx)
  case first =>
    go_wp2_with fail
    go_loopw [6, 7] (fun o s wr => ∃ (j : Nat) (Aj : Option Addr) (cj : Nat) (T : List Nat), s = .int .i64 j ∧ j ≤ 5 ∧ j ≤ m0 ∧ o = .slice Aj K cj ∧ K ≤ cj ∧ T.length = K ∧ Bits T ∧ apart T K4 ≤ j ∧ (Kd.int .u8).C wr Aj K (ints T) ∧ Below w2.heap.size w2 wr) (fun _ s _ => 5 - (intOf s).toNat)
    case atStart => exact ⟨0, A2, c2, K4, rfl, by omega, by omega, rfl, hc2, HK.out.2.2.2.1, HK.out.2.2.2.2.1, by rw [apart_self]; omega, HC2.out, Below.refl _ _⟩
    case round =>
      obtain ⟨j, Aj, cj, T, rfl, hj5, hjm, rfl, hcj, hT, hTb, hap, hCj, hBj⟩ := hrel
      have HJ := Aside0.mk (And.intro hT (And.intro hTb (And.intro hap (And.intro hCj hBj))))
      clear hT hTb hap
      by_cases h1 : j < m0
      · have h1' : (j : Int) < (m0 : Int) := by omega
        by_cases h5 : j < 5
        · have h5' : (j : Int) < 5 := by omega
          obtain ⟨ad, hA, hcell⟩ := Kd.at_int (Kd.C_below (Kd.C_below HT.out.2 HB2.out) hBj) (j : Int) (by omega) h1'
          cases hA
          rw [Int.toNat_natCast] at hcell
          obtain ⟨y, hy⟩ : ∃ y, rd at_ (j : Int) = y := ⟨_, rfl⟩
          rw [hy] at hcell
          obtain ⟨p, hp⟩ : ∃ p, wrap64 ((IntKind.u64.wrap y).tmod (K : Int)) = p := ⟨_, rfl⟩
          clear hy hCj hBj
          go_wp2_with fail
          refine (Turn_any T HJ.out.2.1 [p] Aj (some ⟨wr.heap.size, 0, none⟩) cj 1 K 1 _ HJ.out.1 rfl (by omega) (by decide) (Kd.C_alloc HJ.out.2.2.2.1 _) (C_block [p] (by simp) (heap_alloc_new wr _)) hcj (Nat.le_refl _)).mono ?_
          rintro e w5 ⟨v5, rfl, hR5, hB5⟩
          have H5 := Aside0.mk (And.intro hR5 hB5)
          clear hR5 hB5
          go_wp2_with fail
          obtain ⟨A5, c5, e5, hc5, hC5⟩ := Kd.R_reads H5.out.1
          rw [ints_len, turnN_len] at e5 hc5 hC5
          have hTl := HJ.out.1
          refine ⟨⟨j + 1, A5, c5, turnN T [p] K, by go_num, by omega, by omega, e5, hc5, turnN_len _ _ _, turnN_bits HJ.out.2.1 _ _, ?_, hC5, ?_⟩, by simp only [intOf]; omega⟩
          · have h1 := turn_apart T p
            rw [hTl] at h1
            have h2 := apart_tri (turnN T [p] K) T K4 (by rw [turnN_len, hTl]) (by rw [hTl, HK.out.2.2.2.1])
            have h3 := HJ.out.2.2.1
            omega
          · exact (below_alloc HJ.out.2.2.2.2 _).trans (H5.out.2.mono (by have := HJ.out.2.2.2.2.size; simp; omega))
        · have h5' : ¬ (j : Int) < 5 := by omega
          obtain rfl : j = 5 := by omega
          clear hCj hBj
          go_wp2_with fail
          go_meet
          exact ⟨Aj, cj, T, rfl, hcj, HJ.out.1, HJ.out.2.1, HJ.out.2.2.1, HJ.out.2.2.2.1, HJ.out.2.2.2.2⟩
      · have h1' : ¬ (j : Int) < (m0 : Int) := by omega
        clear hCj hBj
        go_wp2_with fail
        all_goals go_meet
        all_goals exact ⟨Aj, cj, T, rfl, hcj, HJ.out.1, HJ.out.2.1, by have := HJ.out.2.2.1; omega, HJ.out.2.2.2.1, HJ.out.2.2.2.2⟩
  case rest =>
    obtain ⟨Aj, cj, T, rfl, hcj, hT, hTb, hap, hCj, hBj⟩ := hcut
    have HJ := Aside0.mk (And.intro hT (And.intro hTb (And.intro hap (And.intro hCj hBj))))
    clear hT hTb hap hCj hBj
    go_wp2_with fail
    go_loopw [8, 9] (fun o s wr => ∃ t : Nat, s = .int .i64 t ∧ t ≤ K ∧ (Kd.int .i64).R 3 wr wc.heap.size (fun _ => True) o ((T.take t).map sg) ∧ Below wc.heap.size wc wr) (fun _ s _ => K - (intOf s).toNat)
    case atStart => exact ⟨0, rfl, by omega, Kd.R_nil _ _ _ _ _, Below.refl _ _⟩
    case round =>
      obtain ⟨t, rfl, ht, hR, hB⟩ := hrel
      have HR := Aside0.mk (And.intro hR hB)
      by_cases hlt : t < K
      · have hlt' : (t : Int) < (K : Int) := by omega
        obtain ⟨ad, hA, hcell⟩ := Kd.at_int (Kd.C_below HJ.out.2.2.2.1 hB) (t : Int) (by omega) hlt'
        cases hA
        have htl : t < T.length := by have := HJ.out.1; omega
        have hrd : rd (ints T) (t : Int) = ((T[t] : Nat) : Int) := by simp [rd, ints, List.getD_eq_getElem?_getD, List.getElem?_eq_getElem htl]
        have htk : (T.take (t + 1)).map sg = (T.take t).map sg ++ [sg T[t]] := by rw [List.take_add_one, List.getElem?_eq_getElem htl, List.map_append]; rfl
        obtain ⟨x, hx⟩ : ∃ x, T[t] = x := ⟨_, rfl⟩
        rw [hx] at hrd htk
        rw [hrd, Int.toNat_natCast] at hcell
        have HTK := Aside0.mk htk
        clear hR hB hrd hx htk
        go_wp2_with (first | (go_at_call 23; refine (Of8_any x _).mono ?_; rintro e w5 ⟨rfl, rfl⟩) | ((with_reducible refine gate_builtin (b := .append) (xs := #[.tmp 47, .tmp 53]) rfl ?_); at_builtin; refine Kd.R_append (Kd.int .i64) (w0 := wc) wc.heap.size rfl (.tmp 47) (.tmp 53) 22 3 (.int .i64 0) 8 rfl Tryd.underlying22 info3 rfl (by decide) (by omega) u8 ((T.take t).map sg) (sg x) [.int .i64 (sg x)] (fun _ => True) (fun _ => False) rfl rfl ?aP (fun _ hk => hk.elim) ?aF ?aO ?aB ?aS ?aL ?_; (case aP => exact rfl); (case aB => exact HR.out.2); (case aF => exact (fun _ _ => trivial)); (case aO => exact HR.out.1); (case aS => exact below_size HR.out.2); (case aL => simp; omega); intro v1 w7 ho hb hg hat; have HN := Aside0.mk (And.intro ho (And.intro hb hg)); clear ho hb hg hat))
        refine ⟨⟨t + 1, by go_num, by omega, ?_, HN.out.2.1⟩, by simp only [intOf]; omega⟩
        rw [HTK.out]
        exact HN.out.1
      · have hlt' : ¬ (t : Int) < (K : Int) := by omega
        obtain rfl : t = K := by omega
        clear hR hB
        have hRK := HR.out.1
        rw [show T.take t = T by rw [List.take_of_length_le (by have := HJ.out.1; omega)]] at hRK
        obtain ⟨A8, c8, rfl, hc8, hC8⟩ := Kd.R_reads hRK
        have hlen : (T.map sg).length = t := by rw [List.length_map]; exact HJ.out.1
        have hBr : Below w.heap.size w wr := HB2.out.trans ((HJ.out.2.2.2.2.trans (HR.out.2.mono HJ.out.2.2.2.2.size)).mono HB2.out.size)
        have hdec := Decode_any (T.map sg) A8 c8 wr hC8 hc8 (by omega) (HT.out.1.below hBr)
        have hD : decOf (T.map sg) = (ints m, (t : Int) - 2 * (apart T K4 : Int), 0) := by
          rw [decOf_mends (l := m) (t := T) (by have := HM.out.2; omega) HM.out.1 HJ.out.2.1 (by have h1 := HJ.out.1; have h2 := HK.out.2.1; have h3 := HK.out.2.2.1; omega) (by rw [HK.out.1]; have := HJ.out.2.2.1; omega), HK.out.1, HK.out.2.1, HK.out.2.2.1]
        rw [hD, hlen] at hdec
        rw [hlen]
        have hac : apart K4 T = apart T K4 := apart_comm _ _
        obtain ⟨a, ha⟩ : ∃ a, apart T K4 = a := ⟨_, rfl⟩
        rw [ha] at hac hdec
        have ha5 : a ≤ 5 := by rw [← ha]; exact HJ.out.2.2.1
        have hw1 : wrap64 (2 * (a : Int)) = 2 * (a : Int) := by unfold wrap64; omega
        have hw2 : wrap64 ((t : Int) - 2 * (a : Int)) = (t : Int) - 2 * (a : Int) := by unfold wrap64; omega
        have HAP := Aside0.mk (fun W (h1 : (Kd.int .u8).C W A2 t (ints K4)) (h2 : (Kd.int .u8).C W Aj t (ints T)) => Apart_any K4 T A2 Aj c2 cj t W HK.out.2.2.2.1 HJ.out.1 (by omega) h1 h2 hc2 hcj)
        rw [hac] at HAP
        have HDEC := Aside0.mk (And.intro hdec hBr)
        clear hRK hc8 hC8 hlen hdec hD hBr hac ha
        go_wp2_with fail
        refine HDEC.out.1.mono ?_
        rintro e w8 ⟨v8, rfl, hR8, hB8⟩
        obtain ⟨A9, c9, e9, hc9, hC9⟩ := Kd.R_reads hR8
        replace e9 : v8 = .slice A9 L c9 := by rw [e9, ints_len, HK.out.2.1]
        replace hC9 : (Kd.int .u8).C w8 A9 L (ints m) := by rw [ints_len, HK.out.2.1] at hC9; exact hC9
        subst e9
        obtain ⟨S, hS⟩ : ∃ S, strOfNums (ints m) = S := ⟨_, rfl⟩
        have hB1r : Below w1.heap.size w1 wr := H2.out.2.trans ((HJ.out.2.2.2.2.trans (HR.out.2.mono HJ.out.2.2.2.2.size)).mono H2.out.2.size)
        have HS := Aside0.mk (And.intro hS (And.intro hC9 (And.intro (Kd.C_below HK.out.2.2.2.2.2 (hB1r.trans (hB8.mono hB1r.size))) (And.intro (Kd.C_below HC2.out ((HJ.out.2.2.2.2.trans (HR.out.2.mono HJ.out.2.2.2.2.size)).trans (hB8.mono (HJ.out.2.2.2.2.trans (HR.out.2.mono HJ.out.2.2.2.2.size)).size))) (Kd.C_below HJ.out.2.2.2.1 (HR.out.2.trans (hB8.mono HR.out.2.size)))))))
        have hB8w := HDEC.out.2.trans (hB8.mono HDEC.out.2.size)
        have HDS := Aside0.mk (And.intro (decodes_any w8 (HT.out.1.below hB8w)) hB8w)
        clear hR8 hc9 hC9 hS hB8w hB1r hB8
        go_wp2_with (first | (go_at_call 16; refine HDS.out.1.mono ?_; rintro e w9 ⟨rfl, hB9⟩; have HB9 := Aside0.mk hB9; have k1 : (convert 25 9 (.slice A9 L c9)).run Tryd.prog w9 = .ok (.string S) w9 := (by rw [← HS.out.1]; exact Kd.C_string Tryd.underlying25 Tryd.underlying5 Tryd.underlying9 (Kd.C_below HS.out.2.1 hB9)); have k2 : (convert 25 9 (.slice A1 L c1)).run Tryd.prog w9 = .ok (.string S) w9 := (by rw [← HS.out.1]; exact Kd.C_string Tryd.underlying25 Tryd.underlying5 Tryd.underlying9 (Kd.C_below HS.out.2.2.1 hB9)); clear hB9) | (go_at_call 24; refine (HAP.out _ (Kd.C_below HS.out.2.2.2.1 HB9.out) (Kd.C_below HS.out.2.2.2.2 HB9.out)).mono ?_; rintro e w10 ⟨rfl, q10, rfl⟩))
        go_ret
        exact ⟨rfl, pw_below_drewN (HDS.out.2.trans (HB9.out.mono HDS.out.2.size)) _⟩
end Go.Proofs.YticiilolmkbncaaDoor.Vit
