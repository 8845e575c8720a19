/- The law CombineAdds: in every row of versions, also raw ones, the numbers and counts are told, and what is decoded; of none nothing is: its walk. Each theorem says its own conditions. -/
import Derived.Test.YticiilolmkbncaaDoorWk
namespace Go.Proofs.YticiilolmkbncaaDoor.Vit
open Go.RowKit Go.Proofs.YticiilolmkbncaaDoorW.PrintWords Go.Proofs.YticiilolmkbncaaDoorW.PrintLast Go.Proofs.YticiilolmkbncaaDoorW.PrintMore Go.Proofs.YticiilolmkbncaaDoor.Mem
attribute [local go_sem] max2_int min2_int max_two min_two max_three min_three max_four min_four   -- for this text's walks alone
set_option linter.unusedVariables false
set_option linter.unusedSimpArgs false

theorem Both.more {n b z s7 k sb br sr : Nat} {A1 : Option Addr} {m : List Nat} {w wr : World} {X : List Int} {cs : Nat → Nat} (h : Both n b z s7 A1 m w wr k sb br sr X cs) : Both n b z s7 A1 m w wr (k + 1) sb br sr X cs :=
  ⟨h.one, h.two, h.apart, h.far, fun i => Nat.le_succ_of_le (h.few i), h.inn, h.list, h.below, h.low⟩
theorem Both.ref {n b z s7 k sb br sr : Nat} {A1 : Option Addr} {m : List Nat} {w wr w1 w2 : World} {X : List Int} {cs : Nat → Nat} (h : Both n b z s7 A1 m w wr k sb br sr X cs) (hc : Chg (fun k => k = b ∨ k = sb) wr w1) (hB : Below w1.heap.size w1 w2) : IsRef w2 br sr n X cs := by
  have hbb : b ≠ br := fun e => absurd h.one.blk (by rw [e, h.two.blk]; intro h; injection h with h; injection h with _ h; exact absurd h (by decide))
  have hbs : b ≠ sr := fun e => absurd h.one.blk (by rw [e, h.two.row]; intro h; injection h with h; injection h with _ h; exact absurd h (by decide))
  have hsb : sb ≠ br := fun e => absurd h.one.row (by rw [e, h.two.blk]; intro h; injection h with h; injection h with _ h; exact absurd h (by decide))
  exact (h.two.chg hc (by omega) (by have := h.apart; omega)).below hB
theorem rem60 {a : Int} (h0 : 0 ≤ a) (h1 : a ≤ 4096) : ∃ N : Nat, N ≤ 60 ∧ ((60 < a ∧ a ≤ 4096) → a.tmod 60 = (N : Int)) ∧ (¬ (60 < a ∧ a ≤ 4096) → a = (N : Int)) := by
  by_cases h : 60 < a ∧ a ≤ 4096
  · refine ⟨(a.tmod 60).toNat, ?_, fun _ => ?_, fun e => absurd h e⟩ <;> (rw [Int.tmod_eq_emod_of_nonneg h0]; omega)
  · exact ⟨a.toNat, by omega, fun e => absurd e h, fun _ => by omega⟩
set_option maxHeartbeats 6400000 in
set_option maxRecDepth 100000 in
theorem adds_any (a0 : Int) (A F : Option Addr) (n1 c1 n2 c2 : Nat) (xs : List Int) (row : List (Bool × Int × List Int × List Int)) (w : World) (hA : (Kd.int .u8).C w A n1 xs) (hx : ∀ x ∈ xs, 0 ≤ x) (hc1 : n1 ≤ c1) (hn1 : n1 ≤ 140737488355327)
    (hF : DC.C w F n2 row) (hn2 : n2 ≤ 140737488355327) (ho : ∀ q ∈ row, ∀ x ∈ q.2.2.2, 0 ≤ x) (ht : Taps w) :
    Calls Tryd.prog 12 #[.int .i64 a0, .slice A n1 c1, .slice F n2 c2] w fun e w' => e = .returned (.bool true) ∧ Below w.heap.size w w' := by
  have hcb := combines_any w ht
  have HT := Aside0.mk (And.intro ht (And.intro hcb (And.intro hA (And.intro hx (And.intro hF ho)))))
  have hneq := neq4_same 0 0 0 0
  clear ht hcb hA hx hF ho
  go_enter Tryd.func12, Tryd.ntmps12
  go_upto_region 5 with (first | (go_at_call 36; (with_reducible refine (none_any _).mono ?_); rintro e w' ⟨rfl, rfl⟩) | (go_at_call 32; (with_reducible refine (nil_reset _).mono ?_); rintro e w' ⟨rfl, rfl⟩) | (go_at_call 31; (with_reducible refine (nil_decode _).mono ?_); rintro e w' ⟨rfl, rfl⟩) | (go_at_call 26; (with_reducible refine HT.out.2.1.mono ?_); rintro e w1 ⟨rfl, hB1⟩; have H1 := Aside0.mk hB1; clear hB1) | (go_at_call 28; (with_reducible refine (nil_add _ _ _).mono ?_); rintro e w' ⟨rfl, rfl⟩) | (go_at_call 34; (with_reducible refine (nil_soft _).mono ?_); rintro e w' ⟨rfl, rfl⟩) | (go_at_call 35; (with_reducible refine (nil_counts _).mono ?_); rintro e w2 ⟨rfl, hB2⟩; have H2 := Aside0.mk hB2; clear hB2) | (go_at_call 37; (with_reducible refine (nil_bits _).mono ?_); rintro e w' ⟨rfl, rfl⟩))
  have hBw2 := H1.out.trans (H2.out.mono H1.out.size)
  have HB2 := Aside0.mk hBw2
  clear hBw2 hneq
  by_cases hbad : a0 < 0 ∨ 4096 < a0
  · by_cases h0 : a0 < 0
    · have h1 : ¬ 60 < a0 := by omega
      have d1 : decide (60 < a0) = false := decide_eq_false h1
      have d0 : decide (a0 < 0) = true := decide_eq_true h0
      have hnb := fun W => New_bad a0 hbad W
      have HNB := Aside0.mk hnb
      clear hnb hbad
      go_wp2_with (go_at_call 25; refine (HNB.out _).mono ?_; rintro e w' ⟨rfl, rfl⟩)
      go_ret
      exact ⟨rfl, HB2.out⟩
    · have h1 : 60 < a0 := by omega
      have h2 : ¬ a0 ≤ 4096 := by omega
      have h3 : 4096 < a0 := by omega
      have d1 : decide (60 < a0) = true := decide_eq_true h1
      have d2 : decide (a0 ≤ 4096) = false := decide_eq_false h2
      have d3 : decide (4096 < a0) = true := decide_eq_true h3
      have d0 : decide (a0 < 0) = false := decide_eq_false h0
      have hnb := fun W => New_bad a0 hbad W
      have HNB := Aside0.mk hnb
      clear hnb hbad
      go_wp2_with (go_at_call 25; refine (HNB.out _).mono ?_; rintro e w' ⟨rfl, rfl⟩)
      go_ret
      exact ⟨rfl, HB2.out⟩
  · obtain ⟨N, hN60, hN1, hN2⟩ := rem60 (a := a0) (by omega) (by omega)
    have HN := Aside0.mk (And.intro hN1 hN2)
    clear hN1 hN2
    go_cut [62] from 57 to 62 (fun s wx => s = .bool (decide (60 < a0 ∧ a0 ≤ 4096)) ∧ wx = w2)
    case first =>
      by_cases h1 : 60 < a0
      · have h2 : a0 ≤ 4096 := by omega
        have d1 : decide (60 < a0) = true := decide_eq_true h1
        have d2 : decide (a0 ≤ 4096) = true := decide_eq_true h2
        have D3 := Aside0.mk (show decide (60 < a0 ∧ a0 ≤ 4096) = true from decide_eq_true ⟨h1, h2⟩)
        clear hbad
        go_wp2_with fail
        go_meet
        exact ⟨by rw [D3.out], rfl⟩
      · have d1 : decide (60 < a0) = false := decide_eq_false h1
        have D3 := Aside0.mk (show decide (60 < a0 ∧ a0 ≤ 4096) = false from decide_eq_false (fun h => h1 h.1))
        clear hbad
        go_wp2_with fail
        go_meet
        exact ⟨by rw [D3.out], rfl⟩
    case rest =>
      obtain ⟨rfl, rfl⟩ := hcut
      go_upto_if 62 with fail
      go_cut [0] from 57 (fun s wx => s = .int .i64 (N : Int) ∧ wx = wc)
      case first =>
        by_cases hc : 60 < a0 ∧ a0 ≤ 4096
        · rw [decide_eq_true hc]
          have hr := HN.out.1 hc
          have hw : wrap64 (N : Int) = (N : Int) := wrap64_in _ (by omega) (by omega)
          clear hbad hc
          go_wp2_with fail
          go_meet
          exact ⟨rfl, rfl⟩
        · rw [decide_eq_false hc]
          have hr := Aside0.mk (HN.out.2 hc)
          clear hbad hc
          go_wp2_with fail
          go_meet
          exact ⟨by rw [hr.out], rfl⟩
      case rest =>
        obtain ⟨rfl, rfl⟩ := hcut
        have hN0 : ¬ (N : Int) < 0 := by omega
        have hN4 : ¬ (4096 : Int) < (N : Int) := by omega
        have d0 : decide ((N : Int) < 0) = false := decide_eq_false hN0
        have d1 : decide ((4096 : Int) < (N : Int)) = false := decide_eq_false hN4
        have d2 : decide (4096 < N) = false := decide_eq_false (by omega)
        have hx := HT.out.2.2.2.1
        go_upto_region 10 with (go_at_call 25; refine (New_any N (by omega) _).mono ?_; rintro e w3 ⟨rfl, hI3, hB3⟩; have H3 := Aside0.mk (And.intro hI3 hB3); clear hI3 hB3)
        have hBw3 := HB2.out.trans (H3.out.2.mono HB2.out.size)
        have hf1 := Few1_any xs hx A n1 c1 N w3 (Kd.C_below HT.out.2.2.1 hBw3) hc1 hn1 (by omega)
        have hfl : (few1 xs N).length ≤ N := by rw [few1_len]; omega
        have hpe : ints (padl xs N) = ints (few1 xs N) ++ List.replicate (N - (few1 xs N).length) 0 := by unfold padl; rw [ints_append, ints_zs]
        have hfy := fun W (hW : Below w3.heap.size w3 W) => Few1_any xs hx A n1 c1 N W (Kd.C_below (Kd.C_below HT.out.2.2.1 hBw3) hW) hc1 hn1 (by omega)
        obtain ⟨fw, hfw⟩ : ∃ fw, few1 xs N = fw := ⟨_, rfl⟩
        obtain ⟨m, hm⟩ : ∃ m, padl xs N = m := ⟨_, rfl⟩
        have hml : m.length = N := by rw [← hm, padl_len]
        have hmb : Bits m := by rw [← hm]; exact padl_bits _ _
        obtain ⟨fl, hfl2⟩ : ∃ fl, fw.length = fl := ⟨_, rfl⟩
        rw [hfw] at hf1 hfl hfy hpe
        rw [hm] at hpe
        rw [hfl2] at hfl hpe
        have hsub : wrap64 ((N : Int) - (fl : Int)) = ((N - fl : Nat) : Int) := by rw [wrap64_in _ (by omega) (by omega)]; omega
        have hsub2 : (N : Int) - (fl : Int) = ((N - fl : Nat) : Int) := by omega
        have HF := Aside0.mk (And.intro hf1 (And.intro hfy (And.intro hpe (And.intro hml (And.intro hmb (And.intro hfl2 hBw3))))))
        clear hf1 hfy hpe hml hmb hfl2 hBw3 hfw hm hx
        go_upto_region 11 with (first | (go_at_call 21; (with_reducible refine HF.out.1.mono ?_); rintro e w4 ⟨u4, rfl, hR4, hB4⟩; obtain ⟨A4, c4, e4, hc4, hC4⟩ := Kd.R_reads hR4; rw [ints_len, HF.out.2.2.2.2.2.1] at e4; subst e4; have H4 := Aside0.mk (And.intro hR4 hB4); clear hR4 hB4 hc4 hC4) | (go_at_call 21; refine (HF.out.2.1 w4 H4.out.2).mono ?_; rintro e w5 ⟨u5, rfl, hR5, hB5⟩; obtain ⟨A5, c5, e5, hc5, hC5⟩ := Kd.R_reads hR5; rw [ints_len, HF.out.2.2.2.2.2.1] at e5; subst e5; have H5 := Aside0.mk hB5; clear hR5 hB5 hc5 hC5) | (at_builtin; refine Kd.R_append_zeros (Kd.int .u8) (w0 := w3) w3.heap.size rfl (.tmp 84) (.tmp 90) 25 3 5 (.int .u8 0) 1 rfl Tryd.underlying25 Tryd.underlying3 info5 rfl (by decide) (by decide) (.slice A4 fl c4) (ints fw) 0 ((N - fl : Nat) : Int) (fun _ => True) rfl rfl ?zZ (fun _ _ => trivial) (Kd.R_below H4.out.1 H5.out) (by omega) (H4.out.2.trans (H5.out.mono H4.out.2.size)) (Nat.le_trans H4.out.2.size H5.out.size) (by rw [ints_len, HF.out.2.2.2.2.2.1]; omega) ?_; (case zZ => exact rfl); intro v6 w6 hR6 hB6 hG6 hat6; have H6 := Aside0.mk (And.intro hR6 hB6); clear hR6 hB6 hG6 hat6))
        obtain ⟨A1, c1', e1, hc1', hC1⟩ := Kd.R_reads H6.out.1
        rw [Int.toNat_natCast, ← HF.out.2.2.1, ints_len, HF.out.2.2.2.1] at e1 hc1' hC1
        subst e1
        obtain ⟨b, hb⟩ : ∃ b, wc.heap.size = b := ⟨_, rfl⟩
        obtain ⟨s7, hs7⟩ : ∃ s7, w3.heap.size = s7 := ⟨_, rfl⟩
        have hI3 := H3.out.1
        rw [hb] at hI3 ⊢
        have hA1b : ∀ ad, A1 = some ad → s7 ≤ ad.block ∧ ad.block < w6.heap.size := fun ad had => by
          have h := (Kd.R_bound H6.out.1).1 ad.block (by rw [had]; rfl)
          exact ⟨by rw [← hs7]; exact h.2.1, h.2.2.1⟩
        have hbs7 : b + 1 < s7 := by have := blk_lt hI3.row; omega
        have hwb : w.heap.size ≤ b := by have := HB2.out.size; omega
        have hBw6 := HF.out.2.2.2.2.2.2.trans (H6.out.2.mono HF.out.2.2.2.2.2.2.size)
        have hI6 : IsBuf w6 b (b + 1) N (List.replicate (4 * (N + 6)) 0) (fun _ => 0) := hI3.chg (Chg.of_part H6.out.2) (by rw [hs7]; omega) (by rw [hs7]; omega)
        obtain ⟨z, hz⟩ : ∃ z, w6.heap.size = z := ⟨_, rfl⟩
        rw [hz] at hA1b
        have hs7z : s7 ≤ z := by have := blk_lt hI6.row; have := H6.out.2.size; omega
        have HZ := Aside0.mk (And.intro hA1b (And.intro hI6 (And.intro hC1 (And.intro hBw6 hz))))
        clear hA1b hI6 hC1 hBw6 hz hI3 hb hs7
        go_upto_region 12 with (go_at_call 38; refine (New13_any N (by omega) _).mono ?_; rintro e w7 ⟨rfl, hI7, hB7⟩; have H7 := Aside0.mk (And.intro hI7 hB7); clear hI7 hB7)
        have hBoth : Both N b z s7 A1 m w w7 0 (b + 1) (z + 1) z (List.replicate (4 * (N + 6)) 0) (fun _ => 0) := by
          have h2 := H7.out.1
          rw [HZ.out.2.2.2.2] at h2
          exact ⟨HZ.out.2.1.below H7.out.2, h2, by omega, ⟨Or.inl hbs7, by omega, Nat.le_refl _⟩, fun i => Nat.le_refl _, fun x hx => by have := List.eq_of_mem_replicate hx; omega, Kd.C_below HZ.out.2.2.1 H7.out.2, HZ.out.2.2.2.1.trans (H7.out.2.mono HZ.out.2.2.2.1.size), hwb, by omega⟩
        have HBO := Aside0.mk (And.intro hBoth (show w6.heap.size + 1 = z + 1 by rw [HZ.out.2.2.2.2]))
        clear hBoth
        rw [HBO.out.2]
        go_wp2_with fail
        go_loopw [12, 13, 14, 15, 16, 17] (fun pv i _ _ _ _ wr => ∃ (k sb br sr : Nat) (X : List Int) (cs : Nat → Nat), i = .int .i64 k ∧ k ≤ 12 ∧ k ≤ n2 ∧ pv = .pointer (some ⟨br, 0, none⟩) ∧ Both N b z s7 A1 m w wr k sb br sr X cs) (fun _ i _ _ _ _ _ => 12 - (intOf i).toNat)
        case atStart => exact ⟨0, _, _, _, _, _, rfl, by omega, by omega, rfl, HBO.out.1⟩
        case round =>
          obtain ⟨k, sb, br, sr, X, cs, rfl, hk12, hkn, rfl, hBo⟩ := hrel
          have HR := Aside0.mk hBo
          clear hBo
          go_upto_region 13 with fail
          go_cut [101] from 94 to 101 (fun s wx => s = .bool (decide (k < n2 ∧ k < 12)) ∧ wx = wr)
          case first =>
            by_cases h1 : k < n2
            · have h1' : (k : Int) < (n2 : Int) := by omega
              by_cases h2 : k < 12
              · have h2' : (k : Int) < 12 := by omega
                have d1 : decide ((k : Int) < 12) = true := decide_eq_true h2'
                have d2 : decide (k < 12) = true := decide_eq_true h2
                have D3 := Aside0.mk (show decide (k < n2 ∧ k < 12) = true from decide_eq_true ⟨h1, h2⟩)
                go_wp2_with fail
                go_meet
                exact ⟨by rw [D3.out], rfl⟩
              · have h2' : ¬ (k : Int) < 12 := by omega
                have d1 : decide ((k : Int) < 12) = false := decide_eq_false h2'
                have d2 : decide (k < 12) = false := decide_eq_false h2
                have D3 := Aside0.mk (show decide (k < n2 ∧ k < 12) = false from decide_eq_false (fun h => h2 h.2))
                go_wp2_with fail
                go_meet
                exact ⟨by rw [D3.out], rfl⟩
            · have h1' : ¬ (k : Int) < (n2 : Int) := by omega
              have D3 := Aside0.mk (show decide (k < n2 ∧ k < 12) = false from decide_eq_false (fun h => h1 h.1))
              go_wp2_with fail
              go_meet
              exact ⟨by rw [D3.out], rfl⟩
          case rest =>
            obtain ⟨rfl, rfl⟩ := hcut
            by_cases hk : k < n2 ∧ k < 12
            · rw [decide_eq_true hk]
              obtain ⟨hkn2, hk12'⟩ := hk
              obtain ⟨ad, r, vv, at_, raw, Aa, ca, Ar, cr, hF, hrow, hle, hCa, hle2, hCr, e0, e1, e2, e3⟩ := came_at HT.out.2.2.2.2.1 k hkn2
              subst hF
              have g0 := below_cell HR.out.below e0
              have g1 := below_cell HR.out.below e1
              have g2 := below_cell HR.out.below e2
              have g3 := below_cell HR.out.below e3
              have hraw0 : ∀ x ∈ raw, 0 ≤ x := by
                have hrl : row.length = n2 := Kd.C_len HT.out.2.2.2.2.1
                have hkr : k < row.length := by omega
                have h1 := HT.out.2.2.2.2.2 row[k] (List.getElem_mem hkr)
                rw [List.getD_eq_getElem?_getD, List.getElem?_eq_getElem hkr, Option.getD_some] at hrow
                rw [hrow] at h1
                exact h1
              obtain ⟨W0, hW0⟩ : ∃ W0, wc.alloc (.cells #[.bool r, .int .i64 vv, .slice Aa at_.length ca, .slice Ar raw.length cr] 49) = W0 := ⟨_, rfl⟩
              have hB0 : Below wc.heap.size wc W0 := by rw [← hW0]; exact below_alloc (Below.refl _ _) _
              have hbox : W0.heap[wc.heap.size]? = some (.cells #[.bool r, .int .i64 vv, .slice Aa at_.length ca, .slice Ar raw.length cr] 49 (0, 0)) := by rw [← hW0]; exact heap_alloc_new wc _
              have hBo0 := HR.out.full hB0
              have hCa0 := Kd.C_below hCa hBo0.below
              have hCr0 := Kd.C_below hCr hBo0.below
              obtain ⟨M, hM⟩ : ∃ M, at_.length = M := ⟨_, rfl⟩
              obtain ⟨R, hR⟩ : ∃ R, raw.length = R := ⟨_, rfl⟩
              rw [hM] at hle hCa0 hbox hW0 g2
              rw [hR] at hle2 hCr0 hbox hW0 g3
              obtain ⟨m80, hm80⟩ : ∃ m80, min R 80 = m80 := ⟨_, rfl⟩
              have hmin : (if (80 : Int) < (R : Int) then (80 : Int) else (R : Int)) = (m80 : Int) := by split <;> omega
              have hm80R : m80 ≤ R := by omega
              have hm8080 : m80 ≤ 80 := by omega
              have hmc : (m80 : Int) ≤ (cr : Int) := by omega
              have hhead := head_row hCr0 hm80R
              have HAR := Aside0.mk (show 0 < R → ∀ ad, Ar = some ad → ad.block < w.heap.size from fun hR0 ad had => by
                rw [hR] at hCr
                obtain ⟨b9, o9, hA9, hc9⟩ := row_formK hCr hR0
                rw [had] at hA9
                injection hA9 with hA9
                rw [hA9]
                exact lies_lt (hc9 0 hR0))
              have HQ := Aside0.mk (And.intro hBo0 (And.intro hCa0 (And.intro hhead (And.intro hle (And.intro hM (And.intro hraw0 hCa.2.1))))))
              have M0 : W0.cell? ⟨wc.heap.size, 0, none⟩ = some (.bool r) := blk_cell hbox 0
              have M1 : W0.cell? ⟨wc.heap.size, 1, none⟩ = some (.int .i64 vv) := blk_cell hbox 1
              have M2 : W0.cell? ⟨wc.heap.size, 2, none⟩ = some (.slice Aa M ca) := blk_cell hbox 2
              have M3 : W0.cell? ⟨wc.heap.size, 3, none⟩ = some (.slice Ar R cr) := blk_cell hbox 3
              clear hCa hCr hrow hle2 e0 e1 e2 e3 hbox hBo0 hCa0 hCr0 hB0 hhead hraw0 hm80
              go_upto_region 18 with fail
              clear hW0 g0 g1 g2 g3
              cases r
              · go_upto_region 21 with fail
                go_cut [134] from 94 to 134 (fun s wx => s = .bool (decide (0 < M ∧ 0 ≤ vv ∧ vv < 4)) ∧ wx = W0)
                case first =>
                  by_cases h1 : 0 < M
                  · have h1' : (0 : Int) < (M : Int) := by omega
                    have d1 : decide ((0 : Int) < (M : Int)) = true := decide_eq_true h1'
                    have d1' : decide (0 < M) = true := decide_eq_true h1
                    by_cases h2 : 0 ≤ vv
                    · have d2 : decide ((0 : Int) ≤ vv) = true := decide_eq_true h2
                      by_cases h3 : vv < 4
                      · have d3 : decide (vv < 4) = true := decide_eq_true h3
                        have D3 := Aside0.mk (show decide (0 < M ∧ 0 ≤ vv ∧ vv < 4) = true from decide_eq_true ⟨h1, h2, h3⟩)
                        clear hmin
                        go_wp2_with fail
                        go_meet
                        exact ⟨by rw [D3.out], rfl⟩
                      · have d3 : decide (vv < 4) = false := decide_eq_false h3
                        have D3 := Aside0.mk (show decide (0 < M ∧ 0 ≤ vv ∧ vv < 4) = false from decide_eq_false (fun h => h3 h.2.2))
                        clear hmin
                        go_wp2_with fail
                        go_meet
                        exact ⟨by rw [D3.out], rfl⟩
                    · have d2 : decide ((0 : Int) ≤ vv) = false := decide_eq_false h2
                      have D3 := Aside0.mk (show decide (0 < M ∧ 0 ≤ vv ∧ vv < 4) = false from decide_eq_false (fun h => h2 h.2.1))
                      clear hmin
                      go_wp2_with fail
                      go_meet
                      exact ⟨by rw [D3.out], rfl⟩
                  · have h1' : ¬ (0 : Int) < (M : Int) := by omega
                    have d1 : decide ((0 : Int) < (M : Int)) = false := decide_eq_false h1'
                    have d1' : decide (0 < M) = false := decide_eq_false h1
                    have D3 := Aside0.mk (show decide (0 < M ∧ 0 ≤ vv ∧ vv < 4) = false from decide_eq_false (fun h => h1 h.1))
                    clear hmin
                    go_wp2_with fail
                    go_meet
                    exact ⟨by rw [D3.out], rfl⟩
                case rest =>
                  obtain ⟨rfl, rfl⟩ := hcut
                  have HMC := Aside0.mk hmc
                  clear hmin hmc
                  obtain ⟨L, hL⟩ : ∃ L, N + 6 = L := ⟨_, rfl⟩
                  have HL := Aside0.mk hL
                  have hL66 : L ≤ 66 := by omega
                  have hNL := Aside0.mk (show (N : Int) + 6 = (L : Int) by omega)
                  have HBE := Aside0.mk (show ((L : Int) != (N : Int) + 6) = false by simp; omega)
                  clear hL
                  by_cases hu : 0 < M ∧ 0 ≤ vv ∧ vv < 4
                  · rw [decide_eq_true hu]
                    obtain ⟨v, rfl⟩ : ∃ v : Nat, vv = (v : Int) := ⟨vv.toNat, by omega⟩
                    have hv4 : v < 4 := by omega
                    have dv0 : decide ((v : Int) < 0) = false := decide_eq_false (by omega)
                    have dv3 : decide ((3 : Int) < (v : Int)) = false := decide_eq_false (by omega)
                    have dv3' : decide (3 < v) = false := decide_eq_false (by omega)
                    have hpart := part_any m HF.out.2.2.2.2.1 N HF.out.2.2.2.1 (by omega) v hv4 false (v : Int) at_ Aa Ar A1 M ca R cr c1' HQ.out.2.2.2.2.1 HQ.out.2.2.2.1 (by rw [← HQ.out.2.2.2.2.1]; exact HQ.out.2.2.2.2.2.2) wc HQ.out.2.1 HQ.out.1.list hc1'
                    have HP := Aside0.mk (And.intro hpart hv4)
                    clear hpart hu
                    go_upto_region 23 with (go_at_call 27; refine HP.out.1.mono ?_; rintro e w5 ⟨u5, rfl, hR5, hB5⟩; have HR5 := Aside0.mk hR5; have HB5 := Aside0.mk hB5; clear hR5 hB5)
                    obtain ⟨A5, c5, e5, hc5, hC5⟩ := Kd.R_reads HR5.out
                    rw [ints_len, partl_len, HF.out.2.2.2.1] at e5 hc5 hC5
                    have hA5 : ∀ ad, A5 = some ad → wc.heap.size ≤ ad.block := fun ad had => ((Kd.R_bound HR5.out).1 ad.block (by rw [e5, had]; rfl)).2.1
                    have hpb := partl_bits HF.out.2.2.2.2.1 at_ v
                    have hpl : (partl m at_ v).length = N + 6 := by rw [partl_len, HF.out.2.2.2.1]
                    rw [HL.out] at e5 hc5 hC5 hpl
                    subst e5
                    have hB5 := HB5.out
                    have hBo5 := HQ.out.1.full hB5
                    have hadd := Add_ok w5 b sb N X cs hBo5.one v HP.out.2 (Nat.le_trans (hBo5.few v) (by omega)) (partl m at_ v) hpb (by rw [hpl, HL.out]) A5 c5 (by rw [HL.out]; exact hC5) (by rw [HL.out]; exact hc5)
                    have hdoc := fun W1 hI A hC => DocAdd_any W1 br sr N X cs hI v HP.out.2 (Nat.le_trans (hBo5.few v) (by omega)) (partl m at_ v) A c5 hC (by rw [hpl, HL.out])
                    rw [HL.out] at hadd hdoc
                    have hlow5 : b < wc.heap.size ∧ sb < wc.heap.size := ⟨blk_lt HQ.out.1.one.blk, blk_lt HQ.out.1.one.row⟩
                    have hrt := fun W hW => Right1_any (ints (partl m at_ v)) A5 L c5 W hW (by omega)
                    rw [bits_right hpb] at hrt
                    have HRT := Aside0.mk hrt
                    clear hrt
                    have HAD := Aside0.mk (And.intro hadd (And.intro hdoc (And.intro hBo5 (And.intro hC5 (And.intro hpb (And.intro hA5 hlow5))))))
                    clear hadd hdoc hBo5 hC5 hpb hA5 hlow5 hB5 hpl hc5
                    go_upto_region 30 with (first | (go_at_call 28; refine HAD.out.1.mono ?_; rintro e w6' ⟨rfl, hI6, hC6⟩; have hC7 := C_chg HAD.out.2.2.2.1 hC6 (fun ad had e => by have h1 := HAD.out.2.2.2.2.2.1 ad had; have h2 := HAD.out.2.2.2.2.2.2; omega); have H6' := Aside0.mk (And.intro hI6 (And.intro hC6 hC7)); clear hI6 hC6 hC7) | (go_at_call 39; refine (HRT.out w6' H6'.out.2.2).mono ?_; rintro e w7' ⟨rfl, q7, hw7⟩; have H7' := Aside0.mk (show Below w6'.heap.size w6' w7' by rw [hw7]; exact pw_below_drewN (Below.refl _ _) q7); clear hw7))
                    have hbe := HBE.out
                    go_upto_region 35 with fail
                    clear hbe
                    go_wp2_with (go_at_call 40; refine (HAD.out.2.1 w7' (HAD.out.2.2.1.ref H6'.out.2.1 H7'.out) A5 (Kd.C_below H6'.out.2.2 H7'.out)).mono ?_; rintro e w8' ⟨rfl, hI8, hC8⟩; have H8' := Aside0.mk (And.intro hI8 hC8); clear hI8 hC8)
                    have hfin := HAD.out.2.2.1.add (v := v) (p := partl m at_ v) HZ.out.1 (by omega) (by omega) (by rw [HL.out]; exact H6'.out.1) H6'.out.2.1 H7'.out (by rw [HL.out]; exact H8'.out.1) H8'.out.2
                    exact ⟨⟨k + 1, sb, br, sr, _, _, by go_num, by omega, by omega, rfl, hfin⟩, by simp only [intOf]; omega⟩
                  · rw [decide_eq_false hu]
                    by_cases hv : vv < 0 ∨ 3 < vv
                    · have hadd := fun s => Add_arg wc b vv hv s
                      have HA := Aside0.mk hadd
                      by_cases h0 : vv < 0
                      · have d0 : decide (vv < 0) = true := decide_eq_true h0
                        clear hadd hv hu
                        go_wp2_with (go_at_call 28; refine (HA.out _).mono ?_; rintro e w' ⟨rfl, rfl⟩)
                        exact ⟨⟨k + 1, sb, br, sr, X, cs, by go_num, by omega, by omega, rfl, HQ.out.1.more⟩, by simp only [intOf]; omega⟩
                      · have h3 : 3 < vv := by omega
                        have d0 : decide (vv < 0) = false := decide_eq_false h0
                        have d3 : decide (3 < vv) = true := decide_eq_true h3
                        clear hadd hv hu
                        go_wp2_with (go_at_call 28; refine (HA.out _).mono ?_; rintro e w' ⟨rfl, rfl⟩)
                        exact ⟨⟨k + 1, sb, br, sr, X, cs, by go_num, by omega, by omega, rfl, HQ.out.1.more⟩, by simp only [intOf]; omega⟩
                    · obtain ⟨v, rfl⟩ : ∃ v : Nat, vv = (v : Int) := ⟨vv.toNat, by omega⟩
                      have hv4 : v < 4 := by omega
                      have dv0 : decide ((v : Int) < 0) = false := decide_eq_false (by omega)
                      have dv3 : decide ((3 : Int) < (v : Int)) = false := decide_eq_false (by omega)
                      have dv3' : decide (3 < v) = false := decide_eq_false (by omega)
                      obtain ⟨p0, hp0⟩ : ∃ p0, raw.take m80 = p0 := ⟨_, rfl⟩
                      have hC0 := HQ.out.2.2.1
                      rw [hp0] at hC0
                      have hp00 : ∀ x ∈ p0, 0 ≤ x := fun x hx => HQ.out.2.2.2.2.2.1 x (List.mem_of_mem_take (by rw [hp0]; exact hx))
                      have hm80c : m80 ≤ cr := by have := HMC.out; omega
                      by_cases hx : (∃ x ∈ p0, 1 < x) ∨ m80 ≠ N + 6
                      · have hadd := Add_bad wc b sb N X cs HQ.out.1.one v hv4 p0 Ar m80 cr hC0 hm80c (by omega) hx
                        have hrt := fun q => Right1_any p0 Ar m80 cr (wc.drewN q) (Kd.C_drewN hC0 q) (by omega)
                        by_cases hx1 : ∃ x ∈ p0, 1 < x
                        · rw [if_pos hx1] at hadd
                          rw [decide_eq_true hx1] at hrt
                          have HA := Aside0.mk (And.intro hadd hrt)
                          clear hadd hrt hx hx1 hu hv hC0 hp00 hp0
                          go_wp2_with (first | (go_at_call 28; refine HA.out.1.mono ?_; rintro e w5 ⟨rfl, q5, rfl⟩) | (go_at_call 39; refine (HA.out.2 q5).mono ?_; rintro e w6 ⟨rfl, q6, hw6'⟩; have HW6 := Aside0.mk (show Below wc.heap.size wc w6 by rw [hw6']; exact pw_below_drewN (pw_below_drewN (Below.refl _ _) q5) q6); clear hw6'))
                          exact ⟨⟨k + 1, sb, br, sr, X, cs, by go_num, by omega, by omega, rfl, (HQ.out.1.full HW6.out).more⟩, by simp only [intOf]; omega⟩
                        · rw [if_neg hx1] at hadd
                          rw [decide_eq_false hx1] at hrt
                          have hmn : m80 ≠ L := by have := hx.resolve_left hx1; have := HL.out; omega
                          have HNE := Aside0.mk (show ((m80 : Int) != (N : Int) + 6) = true by simp; have := hNL.out; omega)
                          have HA := Aside0.mk (And.intro hadd hrt)
                          clear hadd hrt hx hx1 hu hv hC0 hp00 hp0 hmn
                          have hne := HNE.out
                          go_wp2_with (first | (go_at_call 28; refine HA.out.1.mono ?_; rintro e w5 ⟨rfl, q5, rfl⟩) | (go_at_call 39; refine (HA.out.2 q5).mono ?_; rintro e w6 ⟨rfl, q6, hw6'⟩; have HW6 := Aside0.mk (show Below wc.heap.size wc w6 by rw [hw6']; exact pw_below_drewN (pw_below_drewN (Below.refl _ _) q5) q6); clear hw6'))
                          clear hne
                          exact ⟨⟨k + 1, sb, br, sr, X, cs, by go_num, by omega, by omega, rfl, (HQ.out.1.full HW6.out).more⟩, by simp only [intOf]; omega⟩
                      · obtain ⟨pp, hpp, hpb⟩ := ints_bits hp00 (fun h => hx (Or.inl h))
                        have hmL : m80 = N + 6 := Classical.byContradiction fun h => hx (Or.inr h)
                        have hmL2 : m80 = L := by rw [hmL, HL.out]
                        subst hmL2
                        have hC5 := hC0
                        rw [hpp] at hC5
                        have hpl : pp.length = N + 6 := by have := Kd.C_len hC5; rw [ints_len] at this; rw [this, HL.out]
                        have hAr := HAR.out (by omega)
                        clear hp00 hC0 hpp hp0 hmL hx hu hv
                        have hBo5 := HQ.out.1
                        have hadd := Add_ok wc b sb N X cs hBo5.one v hv4 (Nat.le_trans (hBo5.few v) (by omega)) pp hpb hpl Ar cr (by rw [HL.out]; exact hC5) (by rw [HL.out]; exact hm80c)
                        have hdoc := fun W1 hI A hC => DocAdd_any W1 br sr N X cs hI v hv4 (Nat.le_trans (hBo5.few v) (by omega)) pp A cr hC hpl
                        rw [HL.out] at hadd hdoc
                        have hrt := fun W hW => Right1_any (ints pp) Ar m80 cr W hW (by omega)
                        rw [bits_right hpb] at hrt
                        have HRT := Aside0.mk hrt
                        have HAD := Aside0.mk (And.intro hadd (And.intro hdoc (And.intro hBo5 (And.intro hC5 hAr))))
                        clear hadd hdoc hBo5 hC5 hpb hAr hpl hrt
                        go_upto_region 30 with (first | (go_at_call 28; refine HAD.out.1.mono ?_; rintro e w6' ⟨rfl, hI6, hC6⟩; have hC7 := C_chg HAD.out.2.2.2.1 hC6 (fun ad had e => by have h1 := HAD.out.2.2.2.2 ad had; have h2 := HAD.out.2.2.1.low; omega); have H6' := Aside0.mk (And.intro hI6 (And.intro hC6 hC7)); clear hI6 hC6 hC7) | (go_at_call 39; refine (HRT.out w6' H6'.out.2.2).mono ?_; rintro e w7' ⟨rfl, q7, hw7⟩; have H7' := Aside0.mk (show Below w6'.heap.size w6' w7' by rw [hw7]; exact pw_below_drewN (Below.refl _ _) q7); clear hw7))
                        have hbe := HBE.out
                        go_upto_region 35 with fail
                        clear hbe
                        go_wp2_with (go_at_call 40; refine (HAD.out.2.1 w7' (HAD.out.2.2.1.ref H6'.out.2.1 H7'.out) Ar (Kd.C_below H6'.out.2.2 H7'.out)).mono ?_; rintro e w8' ⟨rfl, hI8, hC8⟩; have H8' := Aside0.mk (And.intro hI8 hC8); clear hI8 hC8)
                        have hfin := HAD.out.2.2.1.add (v := v) (p := pp) HZ.out.1 (by omega) (by omega) (by rw [HL.out]; exact H6'.out.1) H6'.out.2.1 H7'.out (by rw [HL.out]; exact H8'.out.1) H8'.out.2
                        exact ⟨⟨k + 1, sb, br, sr, _, _, by go_num, by omega, by omega, rfl, hfin⟩, by simp only [intOf]; omega⟩
              · clear M1 M2 M3 hmin hmc
                go_wp2_with (first | (go_at_call 32; refine (Reset_any b N _ _ _ _ _ W0 HQ.out.1.one.blk HQ.out.1.one.le).mono ?_; rintro e w8 ⟨rfl, hI8, hC8⟩; have H8 := Aside0.mk (And.intro hI8 hC8); clear hI8 hC8) | (go_at_call 38; refine (New13_any N (by omega) _).mono ?_; rintro e w9 ⟨rfl, hI9, hB9⟩; have H9 := Aside0.mk (And.intro hI9 hB9); clear hI9 hB9))
                refine ⟨⟨k + 1, W0.heap.size, w8.heap.size + 1, w8.heap.size, List.replicate (4 * (N + 6)) 0, (fun _ => 0), by go_num, by omega, by omega, rfl, ?_⟩, by simp only [intOf]; omega⟩
                have hz0 : z ≤ W0.heap.size := by have h1 := blk_lt HQ.out.1.two.blk; have h2 := HQ.out.1.far.2.1; omega
                have hs8 : W0.heap.size < w8.heap.size := blk_lt H8.out.1.row
                have hB8 : Below w.heap.size w w8 := HQ.out.1.below.trans (H8.out.2.below HQ.out.1.below.size (fun i hi => by omega))
                exact ⟨H8.out.1.below H9.out.2, H9.out.1, by omega, ⟨Or.inr hz0, by omega, by omega⟩, fun i => Nat.zero_le _, fun x hx => by have := List.eq_of_mem_replicate hx; omega, Kd.C_below (C_chg HQ.out.1.list H8.out.2 (fun ad had e => by have := HZ.out.1 ad had; omega)) H9.out.2, hB8.trans (H9.out.2.mono hB8.size), hwb, Nat.le_trans hwb (by have := blk_lt HQ.out.1.one.blk; omega)⟩
            · rw [decide_eq_false hk]
              have hdec := BDecode_any wc b sb N X cs HR.out.one (HT.out.1.below HR.out.below)
              have hXl := HR.out.two.len
              have hin := HR.out.inn
              rw [decOf_is (n := N) hXl (by omega) hin] at hdec
              have hd9 := fun (W : World) (hW : (Kd.int .i64).C W (some ⟨sr, 0, none⟩) (4 * (N + 6)) X) => Decode9_any X N (by omega) hXl hin (some ⟨sr, 0, none⟩) (4 * (N + 6)) W (by rw [hXl]; exact hW) (by rw [hXl]; exact Nat.le_refl _)
              obtain ⟨L0, hL0⟩ : ∃ L0, bestL X N = L0 := ⟨_, rfl⟩
              obtain ⟨S0, hS0⟩ : ∃ S0, bestS X N = S0 := ⟨_, rfl⟩
              have hLl : L0.length = N := by rw [← hL0]; exact bw_len _ _ _ _ _ _
              have hdec2 : Calls Tryd.prog 31 #[.pointer (some ⟨b, 0, none⟩)] wc fun e w' => ∃ u, e = .returned (.tuple #[u, .int .i64 0]) ∧ (Kd.int .u8).R 5 w' wc.heap.size (fun _ => True) u (ints L0) ∧ Below wc.heap.size wc w' := by rw [← hL0]; exact hdec
              rw [hXl, hL0, hS0] at hd9
              obtain ⟨K4, hK4⟩ : ∃ K4, 4 * (N + 6) = K4 := ⟨_, rfl⟩
              have hCx := HR.out.two.C
              have hbk := HR.out.two.blk
              rw [hK4] at hd9 hCx hbk
              have hKs : K4 ≤ 20000 := by omega
              obtain ⟨S, hS⟩ : ∃ S, strOfNums (ints L0) = S := ⟨_, rfl⟩
              have HE := Aside0.mk (And.intro hdec2 (And.intro hd9 (And.intro hLl (And.intro hCx (And.intro hbk (And.intro hS (And.intro hXl hK4)))))))
              clear hdec hdec2 hd9 hXl hin hL0 hS0 hLl hCx hbk hS hK4 hk
              go_upto_region 37 with (go_at_call 31; refine HE.out.1.mono ?_; rintro e w9 ⟨u9, rfl, hR9, hB9⟩; obtain ⟨A9, c9, e9, hc9, hC9⟩ := Kd.R_reads hR9; rw [ints_len, HE.out.2.2.1] at e9 hC9; subst e9; have H9 := Aside0.mk (And.intro hC9 hB9); clear hR9 hB9 hc9 hC9)
              have hbk9 := below_cell_blk H9.out.2 HE.out.2.2.2.2.1
              have k1 : w9.cell? ⟨br, 1, none⟩ = some (.slice (some ⟨sr, 0, none⟩) K4 K4) := blk_cell hbk9 1
              clear hbk9
              go_upto_region 38 with (go_at_call 18; refine (HE.out.2.1 w9 (Kd.C_below HE.out.2.2.2.1 H9.out.2)).mono ?_; rintro e w10 ⟨u10, rfl, hR10, hB10⟩; obtain ⟨A10, c10, e10, hc10, hC10⟩ := Kd.R_reads hR10; rw [ints_len, HE.out.2.2.1] at e10 hC10; subst e10; have H10 := Aside0.mk (And.intro hC10 hB10); clear hR10 hB10 hc10 hC10)
              have HBo10 := Aside0.mk ((HR.out.full H9.out.2).full H10.out.2)
              have hbk10 := below_cell_blk H10.out.2 (below_cell_blk H9.out.2 HE.out.2.2.2.2.1)
              have hsoft := BSoft_any (w10.drewN 1) b sb N X cs (HBo10.out.one.below (pw_below_drewN (Below.refl _ _) 1))
              have hSS : ∀ W : World, Below w10.heap.size w10 W → (convert 25 9 (.slice A9 N c9)).run Tryd.prog W = .ok (.string S) W ∧ (convert 25 9 (.slice A10 N c10)).run Tryd.prog W = .ok (.string S) W ∧ W.cell? ⟨br, 1, none⟩ = some (.slice (some ⟨sr, 0, none⟩) K4 K4) ∧ W.cell? ⟨br, 2, none⟩ = some (.int .i64 (cs 0 : Nat)) ∧ W.cell? ⟨br, 3, none⟩ = some (.int .i64 (cs 1 : Nat)) ∧ W.cell? ⟨br, 4, none⟩ = some (.int .i64 (cs 2 : Nat)) ∧ W.cell? ⟨br, 5, none⟩ = some (.int .i64 (cs 3 : Nat)) := fun W hW => by
                have hbkW := below_cell_blk hW hbk10
                refine ⟨?_, ?_, blk_cell hbkW 1, blk_cell hbkW 2, blk_cell hbkW 3, blk_cell hbkW 4, blk_cell hbkW 5⟩
                · rw [← HE.out.2.2.2.2.2.1]
                  exact Kd.C_string Tryd.underlying25 Tryd.underlying5 Tryd.underlying9 (Kd.C_below (Kd.C_below H9.out.1 H10.out.2) hW)
                · rw [← HE.out.2.2.2.2.2.1]
                  exact Kd.C_string Tryd.underlying25 Tryd.underlying5 Tryd.underlying9 (Kd.C_below H10.out.1 hW)
              have HSS := Aside0.mk hSS
              have HSF := Aside0.mk hsoft
              have HCr := Aside0.mk HBo10.out.two.C
              obtain ⟨p1, p2, p3, p4, p5, p6, p7⟩ := hSS w10 (Below.refl _ _)
              obtain ⟨r1, r2, _, _, _, _, _⟩ := hSS w10.drew (pw_below_drewN (Below.refl _ _) 1)
              clear hSS hsoft hbk10 k1
              have heq := eq4_same (cs 0 : Nat) (cs 1 : Nat) (cs 2 : Nat) (cs 3 : Nat)
              go_region_held3 (fun w' => (convert 25 9 (.slice A9 N c9)).run Tryd.prog w' = .ok (.string S) w' ∧ (convert 25 9 (.slice A10 N c10)).run Tryd.prog w' = .ok (.string S) w' ∧ w'.cell? ⟨br, 1, none⟩ = some (.slice (some ⟨sr, 0, none⟩) K4 K4) ∧ w'.cell? ⟨br, 2, none⟩ = some (.int .i64 (cs 0 : Nat)) ∧ w'.cell? ⟨br, 3, none⟩ = some (.int .i64 (cs 1 : Nat)) ∧ w'.cell? ⟨br, 4, none⟩ = some (.int .i64 (cs 2 : Nat)) ∧ w'.cell? ⟨br, 5, none⟩ = some (.int .i64 (cs 3 : Nat))) (first | exact HSS.out _ (by first | exact Below.refl _ _ | exact pw_below_drewN (Below.refl _ _) 1 | exact H11.out.2 | exact H12.out | exact H13.out) | go_keep) (first
                | (go_at_call 34; refine HSF.out.mono ?_; rintro e w11 ⟨u11, rfl, hR11, hB11⟩; obtain ⟨A11, c11, e11, hc11, hC11⟩ := Kd.R_reads hR11; rw [HE.out.2.2.2.2.2.2.1, HE.out.2.2.2.2.2.2.2] at e11 hC11; subst e11; have H11 := Aside0.mk (And.intro hC11 (show Below w10.heap.size w10 w11 from (pw_below_drewN (Below.refl _ _) 1).trans hB11)); clear hR11 hB11 hc11 hC11)
                | (go_at_call 33; refine (Same_any X A11 (some ⟨sr, 0, none⟩) K4 c11 K4 w11 H11.out.1 (Kd.C_below (by rw [← HE.out.2.2.2.2.2.2.2]; exact HCr.out) H11.out.2) (by omega)).mono ?_; rintro e w12 ⟨rfl, q12, hw12⟩; have H12 := Aside0.mk (show Below w10.heap.size w10 w12 by rw [hw12]; exact pw_below_drewN H11.out.2 q12); clear hw12)
                | (go_at_call 35; refine (BCounts_any w12 b sb N X cs (HBo10.out.one.below H12.out)).mono ?_; rintro e w13 ⟨rfl, hB13⟩; have H13 := Aside0.mk (show Below w10.heap.size w10 w13 from H12.out.trans (hB13.mono H12.out.size)); clear hB13)
                | (go_at_call 37; refine (BBits_any w13 b sb N X cs (HBo10.out.one.below H13.out)).mono ?_; rintro e w14 ⟨rfl, rfl⟩))
              all_goals go_wp2_with fail
              all_goals go_ret
              all_goals (have h9 := HR.out.below.trans (H9.out.2.mono HR.out.below.size); have h10 := h9.trans (H10.out.2.mono h9.size); exact ⟨rfl, h10.trans (H13.out.mono h10.size)⟩)
end Go.Proofs.YticiilolmkbncaaDoor.Vit
