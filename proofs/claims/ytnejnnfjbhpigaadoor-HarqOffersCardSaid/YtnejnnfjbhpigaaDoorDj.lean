/- The law HarqOffers: in every row of versions it is told what is read, and when. Each theorem says its own conditions. -/
import Derived.Test.YtnejnnfjbhpigaaDoorDk
namespace Go.Proofs.YtnejnnfjbhpigaaDoor.Vit
open Go.RowKit Go.Proofs.YtnejnnfjbhpigaaDoorW.PrintWords Go.Proofs.YtnejnnfjbhpigaaDoorW.PrintLast Go.Proofs.YtnejnnfjbhpigaaDoorW.PrintMore Go.Proofs.YtnejnnfjbhpigaaDoor.Mem Go.Proofs.YtnejnnfjbhpigaaDoor.Crc
attribute [local go_sem] max2_int min2_int max_two min_two max_three min_three max_four min_four   -- for this text's walks alone
set_option linter.unusedVariables false
set_option linter.unusedSimpArgs false

open Go.Proofs.YtnejnnfjbhpigaaDoor.Chk
set_option maxHeartbeats 3200000 in
set_option maxRecDepth 100000 in
theorem offers_any (A B Ar : Option Addr) (n c n1 c1 R cr : Nat) (l l1 : List Int) (row : List HRow) (w : World) (hC : (Kd.int .u8).C w A n l) (hb : ∀ x ∈ l, 0 ≤ x ∧ x ≤ 255) (hc : n ≤ c) (hl : n ≤ 140737488355328) (hC1 : (Kd.int .u8).C w B n1 l1) (hb1 : ∀ x ∈ l1, 0 ≤ x ∧ x ≤ 255) (hc1 : n1 ≤ c1) (hl1 : n1 ≤ 140737488355328)
    (hR : HC5.C w Ar R row) (hRl : R ≤ 140737488355328) (hRc : R ≤ cr) (ho : ∀ q ∈ row, ∀ x ∈ q.2.2.2.1, 0 ≤ x) (ht : Taps w) :
    Calls Tryd.prog 5 #[.slice A n c, .slice B n1 c1, .slice Ar R cr] w fun e w' => e = .returned (.bool true) ∧ Below w.heap.size w w' := by
  obtain ⟨K, hK⟩ : ∃ K, min n 6 = K := ⟨_, rfl⟩
  obtain ⟨K1, hK1⟩ : ∃ K1, min n1 6 = K1 := ⟨_, rfl⟩
  have hmin : (if (6 : Int) < (n : Int) then (6 : Int) else (n : Int)) = (K : Int) := by split <;> omega
  have hmin1 : (if (6 : Int) < (n1 : Int) then (6 : Int) else (n1 : Int)) = (K1 : Int) := by split <;> omega
  have hKc : (K : Int) ≤ (c : Int) := by omega
  have hKc1 : (K1 : Int) ≤ (c1 : Int) := by omega
  have hK6 : K ≤ 6 := by omega
  have hK16 : K1 ≤ 6 := by omega
  obtain ⟨m, hm⟩ : ∃ m, (l.take K).map Int.toNat = m := ⟨_, rfl⟩
  obtain ⟨m1, hm1⟩ : ∃ m1, (l1.take K1).map Int.toNat = m1 := ⟨_, rfl⟩
  have hi : ints m = l.take K := by rw [← hm]; exact nats_ints (fun x hx => (hb x (List.mem_of_mem_take hx)).1)
  have hi1 : ints m1 = l1.take K1 := by rw [← hm1]; exact nats_ints (fun x hx => (hb1 x (List.mem_of_mem_take hx)).1)
  have hln := Kd.C_len hC
  have hln1 := Kd.C_len hC1
  have hml : m.length = K := by rw [← hm, List.length_map, List.length_take]; omega
  have hml1 : m1.length = K1 := by rw [← hm1, List.length_map, List.length_take]; omega
  have hmb : ∀ x ∈ m, x < 256 := by rw [← hm]; exact nats_lt (fun x hx => hb x (List.mem_of_mem_take hx))
  have hmb1 : ∀ x ∈ m1, x < 256 := by rw [← hm1]; exact nats_lt (fun x hx => hb1 x (List.mem_of_mem_take hx))
  have hCm := head_row hC (show K ≤ n by omega)
  have hCm1 := head_row hC1 (show K1 ≤ n1 by omega)
  rw [← hi] at hCm
  rw [← hi1] at hCm1
  have hcK : K ≤ c := by omega
  have hcK1 : K1 ≤ c1 := by omega
  have HC := Aside0.mk (And.intro ht (And.intro hCm (And.intro hmb (And.intro hml (And.intro hCm1 (And.intro hmb1 (And.intro hml1 (And.intro hR ho))))))))
  clear hK hK1 hm hm1 hi hi1 hln hln1 hml hml1 hmb hmb1 hCm hCm1 hC hb hC1 hb1 hR ho ht
  go_enter Tryd.func5, Tryd.ntmps5
  go_wp2_with (first
    | (go_at_call 16; (with_reducible refine (hnone_any _).mono ?_); rintro e w' ⟨rfl, rfl⟩)
    | (go_at_call 10; (with_reducible refine (Offer_nil _ _ _ _).mono ?_); rintro e w' ⟨rfl, rfl⟩)
    | (go_at_call 9; refine (reads_any _ HC.out.1).mono ?_; rintro e w1 ⟨rfl, hB1⟩; have H1 := Aside0.mk hB1; clear hB1)
    | (go_at_call 12; (with_reducible refine (Done_nil _).mono ?_); rintro e w' ⟨rfl, rfl⟩)
    | (go_at_call 17; (with_reducible refine (Came_nil _).mono ?_); rintro e w' ⟨rfl, rfl⟩)
    | (go_at_call 18; (with_reducible refine (Len_nil _).mono ?_); rintro e w' ⟨rfl, rfl⟩))
  go_quiet (fail)
  have hBq : Below w1.heap.size w1 (w1.drewN nq) := pw_below_drewN (Below.refl _ _) nq
  obtain ⟨wq, hwq⟩ : ∃ wq, w1.drewN nq = wq := ⟨_, rfl⟩
  rw [hwq] at hBq ⊢
  have HQ := Aside0.mk (H1.out.trans (hBq.mono H1.out.size))
  clear hBq hwq hmin hmin1
  go_wp2_with fail
  refine (HNew_any K (by omega) wq).mono ?_
  rintro e w2 ⟨rfl, hI2, hB2⟩
  have H2 := Aside0.mk (And.intro hI2 hB2)
  clear hI2 hB2
  go_wp2_with fail
  refine (RefNew_any K (by omega) w2).mono ?_
  rintro e w3 ⟨q, d, z, rfl, hD3, hB3⟩
  have hHB : HB w wq.heap.size q ⟨K, 0, List.replicate (4 * (8 * (K + 4) + 6)) 0, fun _ => 0, false⟩ (wq.heap.size + 1) (wq.heap.size + 2) d z w3 := by
    have hT := HC.out.1.below HQ.out
    have hP := (Proc.new hT H2.out.1 H2.out.2).below hB3
    have h1 := HQ.out.size
    have h2 := H2.out.2.size
    have h3 := hD3.lo
    have h4 := blk_lt H2.out.1.buf.row
    exact ⟨⟨hP.is, hP.in_, by have := hP.lo; omega, hP.taps, HC.out.1.2.2.2.2⟩, ⟨hD3.is, hD3.in_, by omega⟩, by omega, (HQ.out.trans (H2.out.2.mono HQ.out.size)).trans (hB3.mono (Nat.le_trans h1 h2))⟩
  obtain ⟨pb, hpb⟩ : ∃ pb, wq.heap.size = pb := ⟨_, rfl⟩
  rw [hpb] at hHB ⊢
  have H3 := Aside0.mk hHB
  clear hHB hD3 hB3 hpb
  go_wp2_with fail
  go_loopw [12] (fun x wv => ∃ (i b sb d e : Nat) (s : HS), x = .int .i64 i ∧ i ≤ 9 ∧ HB w pb q s b sb d e wv) (fun x _ => 9 - (intOf x).toNat)
  case atStart => exact ⟨0, _, _, _, _, _, rfl, Nat.zero_le _, H3.out⟩
  case round =>
    obtain ⟨i, b, sb, d, e, s, rfl, hi, hH⟩ := hrel
    by_cases hiR : i < R
    · have hiRi : (i : Int) < (R : Int) := by omega
      by_cases hi9 : i < 9
      · have hi9i : (i : Int) < 9 := by omega
        have d1 : decide ((i : Int) < 9) = true := decide_eq_true hi9i
        have d2 : decide (i < 9) = true := decide_eq_true hi9
        obtain ⟨ad, r, vv, at_, raw, nn, Aa, ca, Aw, cw, hA, hrow, hle, hCa, hle2, hCw, e0, e1, e2, e3, e4⟩ := hcame_at (Kd.C_below HC.out.2.2.2.2.2.2.2.1 hH.below) i hiR
        cases hA
        have hraw0 : ∀ x ∈ raw, 0 ≤ x := by
          have hrl : row.length = R := Kd.C_len HC.out.2.2.2.2.2.2.2.1
          have hkr : i < row.length := by omega
          have h1 := HC.out.2.2.2.2.2.2.2.2 row[i] (List.getElem_mem hkr)
          rw [List.getD_eq_getElem?_getD, List.getElem?_eq_getElem hkr, Option.getD_some] at hrow
          rw [hrow] at h1
          exact h1
        obtain ⟨W0, hW0⟩ : ∃ W0, wr.alloc (.cells #[.bool r, .int .i64 vv, .slice Aa at_.length ca, .slice Aw raw.length cw, .int .i64 nn] 32) = W0 := ⟨_, rfl⟩
        have hB0 : Below wr.heap.size wr W0 := by rw [← hW0]; exact below_alloc (Below.refl _ _) _
        have hbox : W0.heap[wr.heap.size]? = some (.cells #[.bool r, .int .i64 vv, .slice Aa at_.length ca, .slice Aw raw.length cw, .int .i64 nn] 32 (0, 0)) := by rw [← hW0]; exact heap_alloc_new wr _
        obtain ⟨M, hM⟩ : ∃ M, at_.length = M := ⟨_, rfl⟩
        obtain ⟨Q, hQ⟩ : ∃ Q, raw.length = Q := ⟨_, rfl⟩
        have hM0 := hCa.2.1
        have hQ0 := hCw.2.1
        rw [hM] at hle hCa hbox hW0 e2 hM0
        rw [hQ] at hle2 hCw hbox hW0 e3 hQ0
        obtain ⟨q1, hq1⟩ : ∃ q1, min Q 100 = q1 := ⟨_, rfl⟩
        have hmin : (if (100 : Int) < (Q : Int) then (100 : Int) else (Q : Int)) = (q1 : Int) := by split <;> omega
        have hq1c : (q1 : Int) ≤ (cw : Int) := by omega
        have hhead := head_row (Kd.C_below hCw hB0) (show q1 ≤ Q by omega)
        have hq100 : q1 ≤ 100 := by omega
        have M0 : W0.cell? ⟨wr.heap.size, 0, none⟩ = some (.bool r) := blk_cell hbox 0
        have M1 : W0.cell? ⟨wr.heap.size, 1, none⟩ = some (.int .i64 vv) := blk_cell hbox 1
        have M2 : W0.cell? ⟨wr.heap.size, 2, none⟩ = some (.slice Aa M ca) := blk_cell hbox 2
        have M3 : W0.cell? ⟨wr.heap.size, 3, none⟩ = some (.slice Aw Q cw) := blk_cell hbox 3
        have M4 : W0.cell? ⟨wr.heap.size, 4, none⟩ = some (.int .i64 nn) := blk_cell hbox 4
        have HE := Aside0.mk (And.intro (hH.more hB0) (And.intro hbox (And.intro (Kd.C_below hCa hB0) (And.intro hle (And.intro hhead (And.intro hraw0 hM))))))
        clear hH hCa hle hle2 hCw hhead hraw0 hrow hbox hB0 hq1
        go_upto_region 13 with fail
        clear hW0 e0 e1 e2 e3 e4
        refine reg13 M1 M3 M4 hmin hq1c hq100 HE.out.2.2.2.2.1 _ _ _ _ _ _ _ _ _ _ _ _ _ _ _ _ _ _ _ _ _ _ _ _ _ _ _ _ _ _ _ _ _ _ _ _ _ _ _ _ _ _ _ _ _ _ _ _ _ _ _ _ _ _ _ _ _ _ _ _ _ _ _ _ _ _ _ _ _ _ _ _ _ _ _ _ _ _ _ _ _ _ _ _ _ _ _ _ _ _ _ _ _ _ _ _ _ _ _ _ _ _ _ _ _ _ _ _ _ _ _ _ _ _ _ _ _ _ _ _ _ _ _ _ _ _ _ _ _ _ _ _ _ _ _ _ _ _ _ _ _ _ _ _ _ _ _ _ _ _ _ _ _ _ _ _ _ _ _ _ _ _ _ _ _ _ _ _ _ _ _ _ _ _ _ _ _ _ _ _ _ _ ?_
        intro v7 y83 y84 y85 y86 y87 y88 y89 y90 y91 y92 y93 y94 y95 w7 hR7 hB7
        have H7 := Aside0.mk (And.intro hR7 hB7)
        have M0b := below_cell hB7 M0
        have M1b := below_cell hB7 M1
        have M2b := below_cell hB7 M2
        have M3b := below_cell hB7 M3
        have M4b := below_cell hB7 M4
        clear hR7 hB7 M0 M1 M2 M3 M4 hmin hq1c
        go_upto_region 14 with fail
        go_cut [107] from 96 to 107 (fun s wx => s = .bool (decide (0 < M ∧ 0 ≤ vv ∧ vv < 4)) ∧ wx = w7)
        case first =>
          by_cases h1 : 0 < M
          · have h1' : (0 : Int) < (M : Int) := by omega
            have d1 : decide ((0 : Int) < (M : Int)) = true := decide_eq_true h1'
            have d1' : decide (0 < M) = true := decide_eq_true h1
            by_cases h2 : 0 ≤ vv
            · have d2 : decide ((0 : Int) ≤ vv) = true := decide_eq_true h2
              by_cases h3 : vv < 4
              · have d3 : decide (vv < 4) = true := decide_eq_true h3
                have D3 := Aside0.mk (show decide (0 < M ∧ 0 ≤ vv ∧ vv < 4) = true from decide_eq_true ⟨h1, h2, h3⟩)
                go_wp2_with fail
                go_meet
                exact ⟨by rw [D3.out], rfl⟩
              · have d3 : decide (vv < 4) = false := decide_eq_false h3
                have D3 := Aside0.mk (show decide (0 < M ∧ 0 ≤ vv ∧ vv < 4) = false from decide_eq_false (fun h => h3 h.2.2))
                go_wp2_with fail
                go_meet
                exact ⟨by rw [D3.out], rfl⟩
            · have d2 : decide ((0 : Int) ≤ vv) = false := decide_eq_false h2
              have D3 := Aside0.mk (show decide (0 < M ∧ 0 ≤ vv ∧ vv < 4) = false from decide_eq_false (fun h => h2 h.2.1))
              go_wp2_with fail
              go_meet
              exact ⟨by rw [D3.out], rfl⟩
          · have h1' : ¬ (0 : Int) < (M : Int) := by omega
            have d1 : decide ((0 : Int) < (M : Int)) = false := decide_eq_false h1'
            have d1' : decide (0 < M) = false := decide_eq_false h1
            have D3 := Aside0.mk (show decide (0 < M ∧ 0 ≤ vv ∧ vv < 4) = false from decide_eq_false (fun h => h1 h.1))
            go_wp2_with fail
            go_meet
            exact ⟨by rw [D3.out], rfl⟩
        case rest =>
          obtain ⟨rfl, rfl⟩ := hcut
          go_upto_if 107 with fail
          go_cut [14, 16] from 96 to 121 (fun a z wx => ∃ (nv : Int) (A' : Option Addr) (k cc : Nat) (l' : List Int), a = .int .i64 nv ∧ z = .slice A' k cc ∧ (Kd.int .u8).R 5 wx W0.heap.size (fun _ => True) (.slice A' k cc) l' ∧ l'.length = k ∧ k ≤ 1000 ∧ k ≤ cc ∧ (∀ x ∈ l', 0 ≤ x) ∧ Below W0.heap.size W0 wx)
          case first =>
            by_cases hu : 0 < M ∧ 0 ≤ vv ∧ vv < 4
            · rw [decide_eq_true hu]
              obtain ⟨v, rfl⟩ : ∃ v : Nat, vv = (v : Int) := ⟨vv.toNat, by omega⟩
              have hv4 : v < 4 := by omega
              clear hu
              go_wp2_with fail
              refine (body_any m HC.out.2.2.1 K HC.out.2.2.2.1 (by omega) v hv4 r (v : Int) nn at_ Aa Aw A M ca Q cw c HE.out.2.2.2.2.2.2 HE.out.2.2.2.1 hM0 wc (Kd.C_below HE.out.2.2.1 H7.out.2) (Kd.C_below HC.out.2.1 (HE.out.1.below.trans (H7.out.2.mono HE.out.1.below.size))) hcK).mono ?_
              rintro e8 w8 ⟨u8, rfl, hR8, hB8⟩
              have hlb : (ints (bodL m at_ v)).length = 8 * (K + 4) + 6 := by rw [ints_len, bodL_len, HC.out.2.2.2.1]
              obtain ⟨A8, c8, e8', hc8, hC8⟩ := Kd.R_reads hR8
              rw [hlb] at e8' hc8
              subst e8'
              have N0 := below_cell hB8 M0b
              have N1 := below_cell hB8 M1b
              have N2 := below_cell hB8 M2b
              have N3 := below_cell hB8 M3b
              have N4 := below_cell hB8 M4b
              have hB08 : Below W0.heap.size W0 w8 := H7.out.2.trans (hB8.mono H7.out.2.size)
              have H8 := Aside0.mk (And.intro (Kd.R_lower hR8 H7.out.2.size) (And.intro hlb (And.intro hc8 hB08)))
              clear hR8 hB8 hlb hc8 hC8 hB08 M0b M1b M2b M3b M4b
              cases r
              · go_wp2_with fail
                go_meet
                exact ⟨(K : Int), A8, 8 * (K + 4) + 6, c8, ints (bodL m at_ v), rfl, rfl, H8.out.1, H8.out.2.1, by omega, H8.out.2.2.1, fun x hx => by
                  obtain ⟨y, _, rfl⟩ := List.mem_map.1 hx
                  exact Int.natCast_nonneg y, H8.out.2.2.2⟩
              · go_wp2_with fail
                refine (body_any m1 HC.out.2.2.2.2.2.1 K1 HC.out.2.2.2.2.2.2.1 (by omega) v hv4 true (v : Int) nn at_ Aa Aw B M ca Q cw c1 HE.out.2.2.2.2.2.2 HE.out.2.2.2.1 hM0 w8 (Kd.C_below HE.out.2.2.1 H8.out.2.2.2) (Kd.C_below HC.out.2.2.2.2.1 (HE.out.1.below.trans (H8.out.2.2.2.mono HE.out.1.below.size))) hcK1).mono ?_
                rintro e9 w9 ⟨u9, rfl, hR9, hB9⟩
                have hlb : (ints (bodL m1 at_ v)).length = 8 * (K1 + 4) + 6 := by rw [ints_len, bodL_len, HC.out.2.2.2.2.2.2.1]
                obtain ⟨A9, c9, e9', hc9, hC9⟩ := Kd.R_reads hR9
                rw [hlb] at e9' hc9
                subst e9'
                have hB09 : Below W0.heap.size W0 w9 := H8.out.2.2.2.trans (hB9.mono H8.out.2.2.2.size)
                have H9 := Aside0.mk (And.intro (Kd.R_lower hR9 H8.out.2.2.2.size) (And.intro hlb (And.intro hc9 hB09)))
                clear hR9 hB9 hlb hc9 hC9 hB09
                go_wp2_with fail
                go_meet
                exact ⟨(K1 : Int), A9, 8 * (K1 + 4) + 6, c9, ints (bodL m1 at_ v), rfl, rfl, H9.out.1, H9.out.2.1, by omega, H9.out.2.2.1, fun x hx => by
                  obtain ⟨y, _, rfl⟩ := List.mem_map.1 hx
                  exact Int.natCast_nonneg y, H9.out.2.2.2⟩
            · rw [decide_eq_false hu]
              clear hu
              go_wp2_with fail
              go_meet
              obtain ⟨A', c', e', hcc, hC'⟩ := Kd.R_reads H7.out.1
              have hl' : (raw.take q1).length = q1 := by rw [List.length_take]; have := Kd.C_len HE.out.2.2.2.2.1; rw [List.length_take] at this; omega
              rw [hl'] at e' hcc
              subst e'
              exact ⟨nn, A', q1, c', raw.take q1, rfl, rfl, Kd.R_mono H7.out.1 (fun _ _ => trivial), hl', by omega, hcc, fun x hx => HE.out.2.2.2.2.2.1 x (List.mem_of_mem_take hx), H7.out.2⟩
          case rest =>
            obtain ⟨nv, A', k, cc, l', rfl, rfl, hR', hl', hk', hcc, h0', hB'⟩ := hcut
            have hHc := HE.out.1.more hB'
            obtain ⟨SB, hSB⟩ : ∃ SB, strOfNums l' = SB := ⟨_, rfl⟩
            obtain ⟨A2, c2, e2, hc2, hC'⟩ := Kd.R_reads hR'
            rw [hl'] at e2 hC'
            injection e2 with e2a e2b e2c
            subst e2a e2c
            have kw : (convert 22 9 (.slice A' k cc)).run Tryd.prog wc = .ok (.string SB) wc := by rw [← hSB]; exact Kd.C_string Tryd.underlying22 Tryd.underlying5 Tryd.underlying9 hC'
            have hof := Offer_every w.heap.size s pb b sb nv vv l' h0' A' k cc wc hHc.pa hC' hcc (by omega) (row_apart hHc.pa.is hR')
            obtain ⟨E, hE⟩ : ∃ E, (s.step nv vv l').2.1 = E := ⟨_, rfl⟩
            obtain ⟨rs, hrs⟩ : ∃ rs, (s.step nv vv l').2.2 = rs := ⟨_, rfl⟩
            obtain ⟨s', hs'⟩ : ∃ s', (s.step nv vv l').1 = s' := ⟨_, rfl⟩
            rw [hE, hrs, hs'] at hof
            have HF := Aside0.mk (And.intro hof (And.intro hHc (And.intro hR' (And.intro hC' (And.intro h0' (And.intro hcc (And.intro hSB (And.intro hE (And.intro hrs hs')))))))))
            clear hof hHc hR' hC' h0' hcc hSB hE hrs hs' hl' hc2 hB' H7
            go_wp2_with fail
            clear kw
            refine HF.out.1.mono ?_
            rintro e8 w8 ⟨u8, b', sb', rfl, hR8, hPA8, hs8, hC8⟩
            have hD8 : PD w.heap.size w8 q d e s := HF.out.2.1.pd.chg hC8 (two_apart HF.out.2.1.pa HF.out.2.1.pd HF.out.2.1.ne)
            have hCw8 := C_chg HF.out.2.2.2.1 hC8 (row_apart HF.out.2.1.pa.is HF.out.2.2.1)
            have hdoc := Doc_every w.heap.size s q d e nv vv l' HF.out.2.2.2.2.1 A' k cc w8 hD8 hCw8 HF.out.2.2.2.2.2.1 (by omega) (row_apartD HF.out.2.1.pd HF.out.2.2.1)
            rw [HF.out.2.2.2.2.2.2.2.1, HF.out.2.2.2.2.2.2.2.2.1, HF.out.2.2.2.2.2.2.2.2.2] at hdoc
            obtain ⟨A8, c8, e8', hc8, hC8x⟩ := Kd.R_reads hR8
            subst e8'
            have H8 := Aside0.mk (And.intro hdoc (And.intro hR8 (And.intro hPA8 (And.intro hs8 (And.intro hC8 (And.intro hD8 (And.intro hCw8 hC8x)))))))
            clear hdoc hR8 hPA8 hs8 hC8 hD8 hCw8 hc8 hC8x
            go_wp2_with fail
            refine H8.out.1.mono ?_
            rintro e9 w9 ⟨A9, k9, c9, d', z', rfl, hC9, hPD9, hs9, hCC9⟩
            have hN := HF.out.2.1.next H8.out.2.2.1 H8.out.2.2.2.1 H8.out.2.2.2.2.1 hPD9 hs9 hCC9
            obtain ⟨SX, hSX⟩ : ∃ SX, strOfNums (ints rs) = SX := ⟨_, rfl⟩
            have hx1 := C_chg H8.out.2.2.2.2.2.2.2 hCC9 (row_apartD H8.out.2.2.2.2.2.1 H8.out.2.1)
            have hx3 := C_chg H8.out.2.2.2.2.2.2.1 hCC9 (row_apartD HF.out.2.1.pd HF.out.2.2.1)
            have hSS : ∀ w', Below w9.heap.size w9 w' → (convert 22 9 (.slice A8 (ints rs).length c8)).run Tryd.prog w' = .ok (.string SX) w' ∧ (convert 22 9 (.slice A9 k9 c9)).run Tryd.prog w' = .ok (.string SX) w' ∧ (convert 22 9 (.slice A' k cc)).run Tryd.prog w' = .ok (.string SB) w' ∧ w'.cell? ⟨q, 0, none⟩ = some (.int .i64 (s'.N : Int)) ∧ w'.cell? ⟨q, 2, none⟩ = some (.int .i64 (s'.came : Int)) ∧ w'.cell? ⟨q, 3, none⟩ = some (.bool s'.done) := fun w' hW => by
              refine ⟨?_, ?_, ?_, below_cell hW (blk_cell hN.pd.is.blk 0), below_cell hW (blk_cell hN.pd.is.blk 2), below_cell hW (blk_cell hN.pd.is.blk 3)⟩
              · rw [← hSX]
                exact Kd.C_string Tryd.underlying22 Tryd.underlying5 Tryd.underlying9 (Kd.C_below hx1 hW)
              · rw [← hSX]
                exact Kd.C_string Tryd.underlying22 Tryd.underlying5 Tryd.underlying9 (Kd.C_below hC9 hW)
              · rw [← HF.out.2.2.2.2.2.2.1]
                exact Kd.C_string Tryd.underlying22 Tryd.underlying5 Tryd.underlying9 (Kd.C_below hx3 hW)
            have HSS := Aside0.mk hSS
            have HD := Aside0.mk hN
            obtain ⟨p1, p2, p3, p4, p5, p6⟩ := hSS w9 (Below.refl _ _)
            obtain ⟨r1, r2, r3, r4, r5, r6⟩ := hSS w9.drew (pw_below_drewN (Below.refl _ _) 1)
            clear hN hC9 hPD9 hs9 hCC9 hSX hx1 hx3 hSS
            go_upto_region 21 with fail
            go_region_held3 (fun w' => (convert 22 9 (.slice A8 (ints rs).length c8)).run Tryd.prog w' = .ok (.string SX) w' ∧ (convert 22 9 (.slice A9 k9 c9)).run Tryd.prog w' = .ok (.string SX) w' ∧ (convert 22 9 (.slice A' k cc)).run Tryd.prog w' = .ok (.string SB) w' ∧ w'.cell? ⟨q, 0, none⟩ = some (.int .i64 (s'.N : Int)) ∧ w'.cell? ⟨q, 2, none⟩ = some (.int .i64 (s'.came : Int)) ∧ w'.cell? ⟨q, 3, none⟩ = some (.bool s'.done)) (first | exact HSS.out _ (by first | exact Below.refl _ _ | exact pw_below_drewN (Below.refl _ _) 1) | go_keep) (first
              | (go_at_call 12; refine (Done_any _ _ _ _ _ _ _ _ _ (by first | exact HD.out.pa.is | exact HD.out.pa.is.below (pw_below_drewN (Below.refl _ _) 1))).mono ?_; rintro e w' ⟨rfl, rfl⟩)
              | (go_at_call 17; refine (Came_any _ _ _ _ _ _ _ _ _ (by first | exact HD.out.pa.is | exact HD.out.pa.is.below (pw_below_drewN (Below.refl _ _) 1))).mono ?_; rintro e w' ⟨rfl, rfl⟩)
              | (go_at_call 18; refine (Len_any _ _ _ _ _ _ _ _ _ (by first | exact HD.out.pa.is | exact HD.out.pa.is.below (pw_below_drewN (Below.refl _ _) 1))).mono ?_; rintro e w' ⟨rfl, rfl⟩))
            go_wp2
            exact ⟨⟨i + 1, b', sb', d', z', s', by go_num, by omega, HD.out.more (pw_below_drewN (Below.refl _ _) 1)⟩, by simp only [intOf]; omega⟩
      · have hi9i : ¬ (i : Int) < 9 := by omega
        have d1 : decide ((i : Int) < 9) = false := decide_eq_false hi9i
        have d2 : decide (i < 9) = false := decide_eq_false hi9
        have HE := Aside0.mk hH
        clear hH
        go_wp2_with fail
        go_ret
        exact ⟨rfl, HE.out.below⟩
    · have hiRi : ¬ (i : Int) < (R : Int) := by omega
      have HE := Aside0.mk hH
      clear hH
      go_wp2_with fail
      go_ret
      exact ⟨rfl, HE.out.below⟩
end Go.Proofs.YtnejnnfjbhpigaaDoor.Vit
